/- path.New and path.Paths.Migrate. -/
import Derived.Test.YtmdfpknhfkgfoaaDoorPApi3
namespace Go.Proofs.YtmdfpknhfkgfoaaDoor
open Go.RowKit Go.Shelf

def PS1 (l r : Int) (ok : Bool) : PS := { es := [⟨l, r, ⟨#[]⟩, 0, 0, 0, ok⟩], act := (l, r), prev := none }

theorem PAt.base_mono {w0 w1 : World} {B : Nat} {β : Int × Int → Nat} {S : PS} {v : Value} {W : World} (h : PAt w1 B β S v W) (hb : Below w0.heap.size w0 w1) : PAt w0 B β S v W :=
  ⟨h.is, fun b hb' => Nat.le_trans hb.size (h.base b hb'), hb.trans (h.below.mono hb.size), h.small⟩

def NewPost (l r : Int) (ok : Bool) (w : World) (e : Ending) (w' : World) : Prop :=
  ∃ B β v, e = .returned (.tuple #[.pointer (some ⟨B, 0, none⟩), .int .i64 0]) ∧ PAt w B β (PS1 l r ok) v w'

set_option maxRecDepth 100000 in
set_option maxHeartbeats 800000 in
theorem pnew_yes (l r : Int) (ok : Bool) (w : World) (ha : addrsOk l r = true) :
    Calls Tryd.prog 13 #[.int .i64 l, .int .i64 r, .bool ok] w (NewPost l r ok w) := by
  have Ha := Lib.hid ha; clear ha
  go_enter Tryd.func13, Tryd.ntmps13
  go_wp2_with (fail)
  refine (isValid_any l r _).mono ?_
  rintro e w1 ⟨rfl, hb1⟩
  rw [Ha.out]
  have hB0 : Below w.heap.size w (w.alloc (.cells #[.int .i64 l, .int .i64 r, .string ⟨#[]⟩, .int .i64 0, .int .i64 0, .int .i64 0, .bool ok] 96)) := (Below.refl _ w).alloc (Nat.le_refl _) _
  have hent : w1.heap[w.heap.size]? = some (.cells #[.int .i64 l, .int .i64 r, .string ⟨#[]⟩, .int .i64 0, .int .i64 0, .int .i64 0, .bool ok] 96 (0, 0)) := (hb1.block _ (by simp)).trans (heap_alloc_new w _)
  have HEnt := Lib.hid hent
  have HB1 := Lib.hid (hB0.trans (hb1.mono hB0.size))
  have hs1 : w.heap.size < w1.heap.size := heap_lt hent
  clear hb1 hB0 hent
  go_wp2
  go_ret2
  refine ⟨w1.heap.size + 1, fun _ => w.heap.size, .slice (some ⟨w1.heap.size, 0, none⟩) 1 1, rfl, ⟨?_, ?_, ?_, ?_⟩⟩
  · refine ⟨?_, ?_, ?_, ?_, by simp [PS1], ⟨⟨l, r, ⟨#[]⟩, 0, 0, 0, ok⟩, by simp [PS1], rfl⟩, fun k hk => (by cases hk), by simp [PS1]⟩
    · have := heap_alloc_new (w1.alloc (.cells #[.pointer (some ⟨w.heap.size, 0, none⟩)] 90)) (.cells #[.slice (some ⟨w1.heap.size, 0, none⟩) 1 1, .pointer (some ⟨w.heap.size, 0, none⟩), .pointer none] 99)
      rw [World.size_alloc] at this
      exact this
    · refine World.ownsRow.alloc ?_ _
      exact ⟨rfl, .inr ⟨w1.heap.size, 1, #[.pointer (some ⟨w.heap.size, 0, none⟩)], rfl, Nat.zero_le _, heap_alloc_new _ _, Nat.le_refl _, by unfold maxLen; decide, rfl, rfl⟩⟩
    · intro e he
      obtain rfl : e = ⟨l, r, ⟨#[]⟩, 0, 0, 0, ok⟩ := by simpa [PS1] using he
      exact (Below.heap_alloc _ _ _ (by simp; omega)).trans ((Below.heap_alloc _ _ _ hs1).trans HEnt.out)
    · intro e he e' he' _
      obtain rfl : e = ⟨l, r, ⟨#[]⟩, 0, 0, 0, ok⟩ := by simpa [PS1] using he
      obtain rfl : e' = ⟨l, r, ⟨#[]⟩, 0, 0, 0, ok⟩ := by simpa [PS1] using he'
      rfl
  · intro b hb
    rcases hb with rfl | hb | ⟨_, _, rfl⟩
    · omega
    · obtain rfl : w1.heap.size = b := by simpa [Value.ownBlock] using hb
      omega
    · exact Nat.le_refl _
  · exact (HB1.out.alloc HB1.out.size _).alloc (by simp; omega) _
  · intro e he
    obtain rfl : e = ⟨l, r, ⟨#[]⟩, 0, 0, 0, ok⟩ := by simpa [PS1] using he
    exact ⟨Int.le_refl 0, by show (0 : Int) ≤ 1000000000000; decide, Int.le_refl 0, by show (0 : Int) ≤ 1000000000000; decide, Int.le_refl 0, by show (0 : Int) ≤ 1000000000; decide⟩

set_option maxRecDepth 100000 in
set_option maxHeartbeats 400000 in
theorem pnew_no (l r : Int) (ok : Bool) (w : World) (ha : addrsOk l r = false) :
    Calls Tryd.prog 13 #[.int .i64 l, .int .i64 r, .bool ok] w (SomeB (.tuple #[.pointer none, .int .i64 2]) w) := by
  have Ha := Lib.hid ha; clear ha
  go_enter Tryd.func13, Tryd.ntmps13
  go_wp2_with (fail)
  refine (isValid_any l r _).mono ?_
  rintro e w1 ⟨rfl, hb1⟩
  rw [Ha.out]
  go_wp2
  go_ret2
  exact ⟨rfl, ((Below.refl _ w).alloc (Nat.le_refl _) _).trans (hb1.mono (by simp))⟩

/-! ### Migrate -/
def PS.migrate (S : PS) (k : Int × Int) : Int × PS :=
  match S.get k with
  | some _ => if k = S.act then (0, S) else (0, { S with act := k, prev := if S.valid S.act = true then some S.act else S.prev })
  | none => (240, S)

theorem PS.get_of {S : PS} {k : Int × Int} (h : ∃ e ∈ S.es, e.key = k) : ∃ e, S.get k = some e := by
  cases hg : S.get k with
  | some e => exact ⟨e, rfl⟩
  | none => obtain ⟨e, he, hk⟩ := h; exact absurd hk (PS.get_none hg e he)

/-- The active and the previous path are set anew. -/
theorem PAt.setBlk {w0 : World} {B : Nat} {β : Int × Int → Nat} {S : PS} {v : Value} {W W1 W' : World} (h : PAt w0 B β S v W) (hb1 : Below W.heap.size W W1) (a : Int × Int) (p : Option (Int × Int)) (ha : ∃ e ∈ S.es, e.key = a) (hp : ∀ k, p = some k → ∃ e ∈ S.es, e.key = k)
    (hk : Keeps (fun b => b = B) W1 W') (hb : W'.heap[B]? = some (.cells #[v, ptrTo β a, prevV β p] 99 (0, 0))) : PGo w0 B β S v β { S with act := a, prev := p } v W W' := by
  have h1 := h.of_below hb1
  refine ⟨⟨⟨hb, ownsRow_keeps h1.is.own hk (fun g hg e => h1.is.ne_row (by rw [← e]; exact hg)), fun e he => (hk.block _ (heap_lt (h1.is.ent e he)) (h1.is.ne_ent he)).trans (h1.is.ent e he), h1.is.inj, h1.is.nd, ha, hp, h1.is.len⟩, h.base, ?_, h.small⟩, ?_, fun b hb' => .inl hb'⟩
  · exact hk.below h1.below (fun i e => by rw [e]; exact h.base _ (.inl rfl)) h1.below.size
  · exact (Keeps.of_below hb1).then hk (fun i _ e => .inl e)

theorem info_entry : (Tryd.prog.info? 96).map (·.size) = some 7 := by kernel_rfl

theorem ptr_eq_yes (a : Addr) (w : World) : (binOp .eql 90 (.pointer (some a)) (.pointer (some a))).run Tryd.prog w = .ok (.bool true) w := by
  obtain ⟨j, hj, _⟩ := Option.map_eq_some_iff.1 info_entry
  exact run_eql_ptr_same w a Tryd.underlying90 hj
theorem ptr_eq_no {a b : Nat} {ca cb : Array Value} {ta tb : TypeId} (w : World) (hne : a ≠ b) (ha : w.heap[a]? = some (.cells ca ta (0, 0))) (hb : w.heap[b]? = some (.cells cb tb (0, 0))) : (binOp .eql 90 (.pointer (some ⟨a, 0, none⟩)) (.pointer (some ⟨b, 0, none⟩))).run Tryd.prog w = .ok (.bool false) w := by
  obtain ⟨j, hj, hs⟩ := Option.map_eq_some_iff.1 info_entry
  exact run_eql_ptr_other w Tryd.underlying90 hj (by rw [hs]; decide) (fun e => hne (by injection e)) ha hb

set_option maxRecDepth 100000 in
set_option maxHeartbeats 1600000 in
theorem migrate_any (aA aP : Addr) (w0 : World) (B : Nat) (β : Int × Int → Nat) (S : PS) (v : Value) (l r : Int) (w : World) (hE : Errs aA aP w) (hS : PAt w0 B β S v w) :
    Calls Tryd.prog 20 #[.pointer (some ⟨B, 0, none⟩), .int .i64 l, .int .i64 r] w (TurnPost w0 B β S v (.int .i64 (S.migrate (l, r)).1) (S.migrate (l, r)).2 w) := by
  have HS := Lib.hid hS; clear hS
  have HE := Lib.hid hE; clear hE
  cases hg : S.get (l, r) with
  | none =>
    have Hv := Lib.hid (show S.migrate (l, r) = (240, S) by unfold PS.migrate; rw [hg])
    have Hg := Lib.hid hg; clear hg
    rw [Hv.out]
    go_enter Tryd.func20, Tryd.ntmps20
    go_wp2_with (fail)
    refine (find_no aA aP B β S v l r w HE.out HS.out.is Hg.out).mono ?_
    rintro e w1 ⟨rfl, hb1⟩
    have HB := Lib.hid hb1; clear hb1
    go_wp2_with (fail)
    refine (errno_pth aA aP w1 (HE.out.below HB.out)).mono ?_
    rintro e w' ⟨rfl, rfl⟩
    go_wp2
    go_ret
    exact ⟨rfl, β, v, HS.out.go_same HB.out⟩
  | some e0 =>
    by_cases hact : (l, r) = S.act
    · have Hv := Lib.hid (show S.migrate (l, r) = (0, S) by unfold PS.migrate; rw [hg]; show (if (l, r) = S.act then _ else _) = _; rw [if_pos hact])
      have Hg := Lib.hid hg; clear hg
      rw [Hv.out]
      have heq := ptr_eq_yes ⟨β (l, r), 0, none⟩
      have Ha := Lib.hid hact; clear hact
      go_enter Tryd.func20, Tryd.ntmps20
      go_wp2_with (fail)
      refine (find_yes aA aP B β S v l r w HE.out HS.out.is e0 Hg.out).mono ?_
      rintro e w1 ⟨rfl, hb1⟩
      have c1 := cell_of_heap (HS.out.is.below hb1).blk 1
      rw [← Ha.out] at c1
      have HB := Lib.hid hb1; clear hb1
      go_wp2_with (fail)
      refine (errno_nil _).mono ?_
      rintro e w' ⟨rfl, rfl⟩
      go_wp2
      go_ret
      exact ⟨rfl, β, v, HS.out.go_same HB.out⟩
    · obtain ⟨ea, hea⟩ := PS.get_of HS.out.is.act
      have hval : S.valid S.act = ea.ok := by unfold PS.valid; rw [hea]
      obtain ⟨hm0, hk0⟩ := PS.get_mem hg
      obtain ⟨hma, hka⟩ := PS.get_mem hea
      have hneB : β (l, r) ≠ β S.act := fun h => hact (by rw [← hk0, ← hka] at h ⊢; exact HS.out.is.inj e0 hm0 ea hma h)
      have Hv := Lib.hid (show S.migrate (l, r) = (0, { S with act := (l, r), prev := if S.valid S.act = true then some S.act else S.prev }) by unfold PS.migrate; rw [hg]; show (if (l, r) = S.act then _ else _) = _; rw [if_neg hact])
      have Hg := Lib.hid hg; clear hg
      have Hea := Lib.hid hea; clear hea
      have Hin : Hid (∃ e ∈ S.es, e.key = (l, r)) := ⟨e0, hm0, hk0⟩
      rw [Hv.out]
      clear hact hm0 hk0 hma hka
      cases hok : ea.ok with
      | true =>
        rw [hval, hok, if_pos rfl]
        clear hval
        have Hok := Lib.hid hok; clear hok
        go_enter Tryd.func20, Tryd.ntmps20
        go_wp2_with (fail)
        refine (find_yes aA aP B β S v l r w HE.out HS.out.is e0 Hg.out).mono ?_
        rintro e w1 ⟨rfl, hb1⟩
        have h1 := HS.out.is.below hb1
        have heq := ptr_eq_no w1 hneB (h1.at Hg.out) (h1.at Hea.out)
        have c1 := cell_of_heap h1.blk 1
        have f1 := free_of_heap h1.blk 1
        have c2 := cell_of_heap h1.blk 2
        have f2 := free_of_heap h1.blk 2
        have a6 := cell_of_heap (h1.at Hea.out) 6
        simp only [PE.cells, Hok.out, List.getElem?_toArray, List.getElem?_cons_succ, List.getElem?_cons_zero] at a6
        have HB := Lib.hid hb1
        have HBlk := Lib.hid h1.blk
        clear h1 hb1
        go_wp2
        go_ret
        refine ⟨rfl, β, v, HS.out.setBlk HB.out (l, r) (some S.act) Hin.out (fun k hk => by injection hk with hk; rw [← hk]; exact HS.out.is.act) (((Keeps.refl (fun b => b = B) w1).setCell (.inl rfl)).setCell (.inl rfl)) ?_⟩
        exact heap_setCell_at _ B _ _ 1 (ptrTo β (l, r)) (heap_setCell_at w1 B _ _ 2 (ptrTo β S.act) HBlk.out)
      | false =>
        rw [hval, hok, if_neg (by decide)]
        clear hval
        have Hok := Lib.hid hok; clear hok
        go_enter Tryd.func20, Tryd.ntmps20
        go_wp2_with (fail)
        refine (find_yes aA aP B β S v l r w HE.out HS.out.is e0 Hg.out).mono ?_
        rintro e w1 ⟨rfl, hb1⟩
        have h1 := HS.out.is.below hb1
        have heq := ptr_eq_no w1 hneB (h1.at Hg.out) (h1.at Hea.out)
        have c1 := cell_of_heap h1.blk 1
        have f1 := free_of_heap h1.blk 1
        have a6 := cell_of_heap (h1.at Hea.out) 6
        simp only [PE.cells, Hok.out, List.getElem?_toArray, List.getElem?_cons_succ, List.getElem?_cons_zero] at a6
        have HB := Lib.hid hb1
        have HBlk := Lib.hid h1.blk
        clear h1 hb1
        go_wp2
        go_ret
        refine ⟨rfl, β, v, HS.out.setBlk HB.out (l, r) S.prev Hin.out HS.out.is.prev ((Keeps.refl (fun b => b = B) w1).setCell (.inl rfl)) ?_⟩
        exact heap_setCell_at w1 B _ _ 1 (ptrTo β (l, r)) HBlk.out

end Go.Proofs.YtmdfpknhfkgfoaaDoor
