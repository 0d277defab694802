/- path.Paths: Allows, Sent, Challenge, Respond, Validate. -/
import Derived.Test.YtmdfpknhfkgfoaaDoorPApi
namespace Go.Proofs.YtmdfpknhfkgfoaaDoor
open Go.RowKit Go.Shelf

/-- The blocks of a Paths. -/
def POwn (B : Nat) (β : Int × Int → Nat) (S : PS) (v : Value) (b : Nat) : Prop := b = B ∨ v.ownBlock = some b ∨ ∃ e ∈ S.es, b = β e.key

/-- A Paths in memory, all of it above w0. -/
structure PAt (w0 : World) (B : Nat) (β : Int × Int → Nat) (S : PS) (v : Value) (W : World) : Prop where
  is : IsPS B β S v W
  base : ∀ b, POwn B β S v b → w0.heap.size ≤ b
  below : Below w0.heap.size w0 W
  small : ∀ e ∈ S.es, e.small

/-- What a call may do to it. -/
structure PGo (w0 : World) (B : Nat) (β : Int × Int → Nat) (S : PS) (v : Value) (β' : Int × Int → Nat) (S' : PS) (v' : Value) (W W' : World) : Prop where
  now : PAt w0 B β' S' v' W'
  keeps : Keeps (POwn B β S v) W W'
  grow : ∀ b, POwn B β' S' v' b → POwn B β S v b ∨ W.heap.size ≤ b

section
variable {w0 : World} {B : Nat} {β : Int × Int → Nat} {S : PS} {v : Value} {W W' : World}
theorem PAt.of_below (h : PAt w0 B β S v W) (hb : Below W.heap.size W W') : PAt w0 B β S v W' := ⟨h.is.below hb, h.base, h.below.trans (hb.mono h.below.size), h.small⟩
theorem PAt.go_same (h : PAt w0 B β S v W) (hb : Below W.heap.size W W') : PGo w0 B β S v β S v W W' := ⟨h.of_below hb, Keeps.of_below hb, fun _ h => .inl h⟩

theorem upd_own (S : PS) (k : Int × Int) (f : PE → PE) (hf : ∀ e, (f e).key = e.key) (b : Nat) (h : POwn B β (S.upd k f) v b) : POwn B β S v b := by
  rcases h with h | h | ⟨e, he, h⟩
  · exact .inl h
  · exact .inr (.inl h)
  · have : e.key ∈ (S.upd k f).es.map PE.key := List.mem_map.2 ⟨e, he, rfl⟩
    rw [upd_keys S k f hf] at this
    obtain ⟨e', h1, h2⟩ := List.mem_map.1 this
    exact .inr (.inr ⟨e', h1, by rw [h, h2]⟩)

/-- One path's cells are written. -/
theorem PAt.upd (h : PAt w0 B β S v W) {k : Int × Int} {e0 : PE} (hg : S.get k = some e0) (f : PE → PE) (hf : ∀ e, (f e).key = e.key) (hsm : (f e0).small) {W1 : World} (hb1 : Below W.heap.size W W1) (hk : Keeps (fun b => b = β k) W1 W')
    (hb : W'.heap[β k]? = some (.cells (f e0).cells 96 (0, 0))) : PGo w0 B β S v β (S.upd k f) v W W' := by
  obtain ⟨hm, hkey⟩ := PS.get_mem hg
  subst hkey
  have h1 := h.is.below hb1
  have hown : POwn B β S v (β e0.key) := .inr (.inr ⟨e0, hm, rfl⟩)
  refine ⟨⟨h1.upd e0 hm f hf hk hb, fun b hb' => h.base b (upd_own S e0.key f hf b hb'), ?_, fun e he => ?_⟩, ?_, fun b hb' => .inl (upd_own S e0.key f hf b hb')⟩
  · exact hk.below (h.of_below hb1).below (fun i e => by rw [e]; exact h.base _ hown) (h.of_below hb1).below.size
  · obtain ⟨e', he', rfl⟩ := List.mem_map.1 he
    by_cases hq : e'.key = e0.key
    · obtain rfl := nodup_key h.is.nd e' he' e0 hm hq
      rw [if_pos rfl]; exact hsm
    · rw [if_neg hq]; exact h.small e' he'
  · exact (Keeps.of_below hb1).then hk (fun i _ e => by rw [e]; exact hown)
end

/-- Allows. -/
def PS.allows (S : PS) (k : Int × Int) (n : Int) : Bool := match S.get k with | some e => within 0 65536 n && e.allows n | none => false

set_option maxRecDepth 100000 in
set_option maxHeartbeats 800000 in
theorem allows_any (aA aP : Addr) (w0 : World) (B : Nat) (β : Int × Int → Nat) (S : PS) (v : Value) (l r n : Int) (w : World) (hE : Errs aA aP w) (hS : PAt w0 B β S v w) :
    Calls Tryd.prog 28 #[.pointer (some ⟨B, 0, none⟩), .int .i64 l, .int .i64 r, .int .i64 n] w (SomeB (.bool (S.allows (l, r) n)) w) := by
  have HS := Lib.hid hS; clear hS
  have HE := Lib.hid hE; clear hE
  cases hg : S.get (l, r) with
  | none =>
    have Hv := Lib.hid (show S.allows (l, r) n = false by unfold PS.allows; rw [hg])
    have Hg := Lib.hid hg; clear hg
    rw [Hv.out]
    go_enter Tryd.func28, Tryd.ntmps28
    go_wp2_with (fail)
    refine (find_no aA aP B β S v l r w HE.out HS.out.is Hg.out).mono ?_
    rintro e w1 ⟨rfl, hb1⟩
    go_wp2
    go_ret
    exact ⟨rfl, hb1⟩
  | some e0 =>
    by_cases hn : within 0 65536 n = true
    · obtain ⟨q, hq⟩ : ∃ q, Hid (e0.allows n = q) := ⟨_, rfl⟩
      have Hv := Lib.hid (show S.allows (l, r) n = q by unfold PS.allows; rw [hg]; show (within 0 65536 n && e0.allows n) = q; rw [hn, hq.out]; rfl)
      have Hn := Lib.hid hn; clear hn
      have Hg := Lib.hid hg; clear hg
      rw [Hv.out]
      go_enter Tryd.func28, Tryd.ntmps28
      go_wp2_with (fail)
      refine (find_yes aA aP B β S v l r w HE.out HS.out.is e0 Hg.out).mono ?_
      rintro e w1 ⟨rfl, hb1⟩
      go_wp2_with (fail)
      refine (areIn_one 0 65536 n w1 w1.heap.size rfl).mono ?_
      rintro e w2 ⟨rfl, hb2⟩
      rw [Hn.out]
      have HB := Lib.hid (hb1.trans (hb2.mono hb1.size))
      have hin : 0 ≤ n ∧ n ≤ 65536 := by
        have := Hn.out
        unfold within at this
        rw [Bool.and_eq_true] at this
        exact ⟨of_decide_eq_true this.1, of_decide_eq_true this.2⟩
      clear hb1 hb2
      go_wp2_with (fail)
      refine (allows1_any (β (l, r)) e0 n w2 ((HS.out.is.below HB.out).at Hg.out) (HS.out.small e0 (PS.get_mem Hg.out).1) hin.1 hin.2).mono ?_
      rintro e w3 ⟨rfl, hb3⟩
      rw [hq.out]
      go_wp2
      go_ret
      exact ⟨rfl, HB.out.trans (hb3.mono HB.out.size)⟩
    · have hn' : within 0 65536 n = false := by simpa using hn
      have Hv := Lib.hid (show S.allows (l, r) n = false by unfold PS.allows; rw [hg]; show (within 0 65536 n && e0.allows n) = false; rw [hn']; rfl)
      have Hn := Lib.hid hn'; clear hn hn'
      have Hg := Lib.hid hg; clear hg
      rw [Hv.out]
      go_enter Tryd.func28, Tryd.ntmps28
      go_wp2_with (fail)
      refine (find_yes aA aP B β S v l r w HE.out HS.out.is e0 Hg.out).mono ?_
      rintro e w1 ⟨rfl, hb1⟩
      go_wp2_with (fail)
      refine (areIn_one 0 65536 n w1 w1.heap.size rfl).mono ?_
      rintro e w2 ⟨rfl, hb2⟩
      rw [Hn.out]
      go_wp2
      go_ret
      exact ⟨rfl, hb1.trans (hb2.mono hb1.size)⟩

set_option maxRecDepth 100000 in
set_option maxHeartbeats 400000 in
theorem allows_nil (aA aP : Addr) (l r n : Int) (w : World) (hE : Errs aA aP w) :
    Calls Tryd.prog 28 #[.pointer none, .int .i64 l, .int .i64 r, .int .i64 n] w (SomeB (.bool false) w) := by
  have HE := Lib.hid hE; clear hE
  go_enter Tryd.func28, Tryd.ntmps28
  go_wp2_with (fail)
  refine (find_nil aA aP l r w HE.out).mono ?_
  rintro e w1 ⟨rfl, hb1⟩
  go_wp2
  go_ret
  exact ⟨rfl, hb1⟩

/-- The answer of a call that may turn the Paths. -/
def TurnPost (w0 : World) (B : Nat) (β : Int × Int → Nat) (S : PS) (v : Value) (x : Value) (S' : PS) (w : World) (e : Ending) (w' : World) : Prop :=
  e = .returned x ∧ ∃ β' v', PGo w0 B β S v β' S' v' w w'

/-- Sent. -/
def PS.sent (S : PS) (k : Int × Int) (n : Int) : Int × PS :=
  if within 0 65536 n = false then (2, S) else if S.allows k n = false then (240, S) else (0, S.upd k fun e => { e with snt := e.snt + n })

set_option maxRecDepth 100000 in
set_option maxHeartbeats 800000 in
theorem sent_any (aA aP : Addr) (w0 : World) (B : Nat) (β : Int × Int → Nat) (S : PS) (v : Value) (l r n : Int) (w : World) (hE : Errs aA aP w) (hS : PAt w0 B β S v w) (hsm : ∀ e ∈ S.es, e.snt + n ≤ 1000000000000) :
    Calls Tryd.prog 15 #[.pointer (some ⟨B, 0, none⟩), .int .i64 l, .int .i64 r, .int .i64 n] w (TurnPost w0 B β S v (.int .i64 (S.sent (l, r) n).1) (S.sent (l, r) n).2 w) := by
  have HS := Lib.hid hS; clear hS
  have HE := Lib.hid hE; clear hE
  have HM := Lib.hid hsm; clear hsm
  cases hn : within 0 65536 n with
  | false =>
    have Hv := Lib.hid (show S.sent (l, r) n = (2, S) by unfold PS.sent; rw [if_pos hn])
    have Hn := Lib.hid hn; clear hn
    rw [Hv.out]
    go_enter Tryd.func15, Tryd.ntmps15
    go_wp2_with (fail)
    refine (areIn_one 0 65536 n w w.heap.size rfl).mono ?_
    rintro e w2 ⟨rfl, hb2⟩
    rw [Hn.out]
    go_wp2
    go_ret
    exact ⟨rfl, β, v, HS.out.go_same hb2⟩
  | true =>
    have Hn := Lib.hid hn; clear hn
    have hin : 0 ≤ n ∧ n ≤ 65536 := by
      have := Hn.out
      unfold within at this
      rw [Bool.and_eq_true] at this
      exact ⟨of_decide_eq_true this.1, of_decide_eq_true this.2⟩
    cases hg : S.get (l, r) with
    | none =>
      have Hv := Lib.hid (show S.sent (l, r) n = (240, S) by unfold PS.sent; rw [if_neg (by rw [Hn.out]; decide), if_pos (by unfold PS.allows; rw [hg])])
      have Hg := Lib.hid hg; clear hg
      rw [Hv.out]
      go_enter Tryd.func15, Tryd.ntmps15
      go_wp2_with (fail)
      refine (areIn_one 0 65536 n w w.heap.size rfl).mono ?_
      rintro e w2 ⟨rfl, hb2⟩
      rw [Hn.out]
      go_wp2_with (fail)
      refine (find_no aA aP B β S v l r w2 (HE.out.below hb2) (HS.out.is.below hb2) Hg.out).mono ?_
      rintro e w3 ⟨rfl, hb3⟩
      go_wp2
      go_ret
      exact ⟨rfl, β, v, HS.out.go_same (hb2.trans (hb3.mono hb2.size))⟩
    | some e0 =>
      cases ha : e0.allows n with
      | false =>
        have Hv := Lib.hid (show S.sent (l, r) n = (240, S) by unfold PS.sent; rw [if_neg (by rw [Hn.out]; decide), if_pos (by unfold PS.allows; rw [hg]; show (within 0 65536 n && e0.allows n) = false; rw [ha, Hn.out]; rfl)])
        have Hg := Lib.hid hg; clear hg
        have Ha := Lib.hid ha; clear ha
        rw [Hv.out]
        go_enter Tryd.func15, Tryd.ntmps15
        go_wp2_with (fail)
        refine (areIn_one 0 65536 n w w.heap.size rfl).mono ?_
        rintro e w2 ⟨rfl, hb2⟩
        rw [Hn.out]
        go_wp2_with (fail)
        refine (find_yes aA aP B β S v l r w2 (HE.out.below hb2) (HS.out.is.below hb2) e0 Hg.out).mono ?_
        rintro e w3 ⟨rfl, hb3⟩
        have HB := Lib.hid (hb2.trans (hb3.mono hb2.size))
        clear hb2 hb3
        go_wp2_with (fail)
        refine (allows1_any (β (l, r)) e0 n w3 ((HS.out.is.below HB.out).at Hg.out) (HS.out.small e0 (PS.get_mem Hg.out).1) hin.1 hin.2).mono ?_
        rintro e w4 ⟨rfl, hb4⟩
        rw [Ha.out]
        go_wp2
        go_ret
        exact ⟨rfl, β, v, HS.out.go_same (HB.out.trans (hb4.mono HB.out.size))⟩
      | true =>
        have Hv := Lib.hid (show S.sent (l, r) n = (0, S.upd (l, r) fun e => { e with snt := e.snt + n }) by unfold PS.sent; rw [if_neg (by rw [Hn.out]; decide), if_neg (by unfold PS.allows; rw [hg]; show ¬ ((within 0 65536 n && e0.allows n) = false); rw [ha, Hn.out]; decide)])
        have Hg := Lib.hid hg; clear hg
        have Ha := Lib.hid ha; clear ha
        rw [Hv.out]
        have hsm := HS.out.small e0 (PS.get_mem Hg.out).1
        have hsm2 := HM.out e0 (PS.get_mem Hg.out).1
        go_enter Tryd.func15, Tryd.ntmps15
        go_wp2_with (fail)
        refine (areIn_one 0 65536 n w w.heap.size rfl).mono ?_
        rintro e w2 ⟨rfl, hb2⟩
        rw [Hn.out]
        go_wp2_with (fail)
        refine (find_yes aA aP B β S v l r w2 (HE.out.below hb2) (HS.out.is.below hb2) e0 Hg.out).mono ?_
        rintro e w3 ⟨rfl, hb3⟩
        have HB := Lib.hid (hb2.trans (hb3.mono hb2.size))
        clear hb2 hb3
        go_wp2_with (fail)
        refine (allows1_any (β (l, r)) e0 n w3 ((HS.out.is.below HB.out).at Hg.out) hsm hin.1 hin.2).mono ?_
        rintro e w4 ⟨rfl, hb4⟩
        rw [Ha.out]
        have HB4 := Lib.hid (HB.out.trans (hb4.mono HB.out.size))
        have hblk := (HS.out.is.below HB4.out).at Hg.out
        have c5 := cell_of_heap hblk 5
        have f5 := free_of_heap hblk 5
        have HBlk := Lib.hid hblk
        have w1 : IntKind.i64.wrap (e0.snt + n) = e0.snt + n := IntWalk.i64_in _ (by obtain ⟨_, _, s3, s4, _, _⟩ := hsm; omega)
        clear hblk hb4 HB
        go_wp2
        go_ret
        refine ⟨rfl, β, v, HS.out.upd Hg.out _ (fun _ => rfl) ?_ HB4.out ((Keeps.refl _ _).setCell (.inl rfl)) ?_⟩
        · obtain ⟨s1, s2, s3, s4, s5, s6⟩ := hsm
          exact ⟨s1, s2, by show 0 ≤ e0.snt + n; omega, hsm2, s5, s6⟩
        · exact heap_setCell_at w4 (β (l, r)) _ _ 5 _ HBlk.out

end Go.Proofs.YtmdfpknhfkgfoaaDoor
