/- path.Paths: how its state turns; New, Valid, Len, Active, Allows. -/
import Derived.Test.YtmdfpknhfkgfoaaDoorPFind
import Derived.Deep.QuietTactic
import Derived.BigQuiet
import Derived.IntWalk
namespace Go.Proofs.YtmdfpknhfkgfoaaDoor
open Go.RowKit Go.Shelf

def PS.get (S : PS) (k : Int × Int) : Option PE := S.es.find? fun e => decide (e.key = k)
def PS.upd (S : PS) (k : Int × Int) (f : PE → PE) : PS := { S with es := S.es.map fun e => if e.key = k then f e else e }

theorem PS.get_mem {S : PS} {k : Int × Int} {e : PE} (h : S.get k = some e) : e ∈ S.es ∧ e.key = k := ⟨List.mem_of_find?_eq_some h, by simpa using List.find?_some h⟩
theorem PS.get_none {S : PS} {k : Int × Int} (h : S.get k = none) : ∀ e ∈ S.es, e.key ≠ k := fun e he hk => by
  have := List.find?_eq_none.1 h e he
  simp [hk] at this

theorem findB_get (β : Int × Int → Nat) (S : PS) (k : Int × Int) : findB β S.es k = (S.get k).map fun _ => β k := by
  unfold findB mts PS.get
  rw [List.take_length]
  generalize S.es = es
  induction es with
  | nil => rfl
  | cons e es ih =>
    by_cases h : e.key = k
    · simp [h]
    · rw [List.filter_cons_of_neg (by simpa using h), List.find?_cons_of_neg (by simpa using h)]
      exact ih

theorem nodup_key : ∀ {es : List PE}, (es.map PE.key).Nodup → ∀ e ∈ es, ∀ e' ∈ es, e.key = e'.key → e = e'
  | [], _, _, h, _, _, _ => by cases h
  | a :: es, hn, e, he, e', he', hk => by
    rw [List.map_cons, List.nodup_cons] at hn
    rcases List.mem_cons.1 he with rfl | h1
    · rcases List.mem_cons.1 he' with rfl | h2
      · rfl
      · exact absurd (List.mem_map.2 ⟨e', h2, hk.symm⟩) hn.1
    · rcases List.mem_cons.1 he' with rfl | h2
      · exact absurd (List.mem_map.2 ⟨e, h1, hk⟩) hn.1
      · exact nodup_key hn.2 e h1 e' h2 hk

theorem upd_keys (S : PS) (k : Int × Int) (f : PE → PE) (hf : ∀ e, (f e).key = e.key) : (S.upd k f).es.map PE.key = S.es.map PE.key := by
  show (S.es.map fun e => if e.key = k then f e else e).map PE.key = _
  rw [List.map_map]
  apply List.map_congr_left
  intro e _
  show (if e.key = k then f e else e).key = e.key
  split
  · exact hf e
  · rfl

section
variable {B : Nat} {β : Int × Int → Nat} {S : PS} {v : Value} {w W : World}

theorem IsPS.keeps {R : Nat → Prop} (h : IsPS B β S v w) (hk : Keeps R w W) (hB : ¬ R B) (hv : ∀ g, v.ownBlock = some g → ¬ R g) (hE : ∀ e ∈ S.es, ¬ R (β e.key)) : IsPS B β S v W :=
  ⟨(hk.block _ (heap_lt h.blk) hB).trans h.blk, ownsRow_keeps h.own hk hv, fun e he => (hk.block _ (heap_lt (h.ent e he)) (hE e he)).trans (h.ent e he), h.inj, h.nd, h.act, h.prev, h.len⟩
theorem IsPS.below (h : IsPS B β S v w) (hb : Below w.heap.size w W) : IsPS B β S v W :=
  h.keeps (R := fun _ => False) (Keeps.of_below hb) (fun h => h) (fun _ _ h => h) (fun _ _ h => h)

theorem IsPS.ne_row (h : IsPS B β S v w) : ¬ (v.ownBlock = some B) := fun ej => by
  rcases h.own.2 with ⟨rfl, _⟩ | ⟨g, cap, cur, rfl, _, hgb, _⟩
  · simp [Value.ownBlock] at ej
  · obtain rfl : g = B := by simpa [Value.ownBlock] using ej
    rw [h.blk] at hgb
    injection hgb with h1
    injection h1 with _ h2
    exact absurd h2 (by decide)
theorem IsPS.ne_ent (h : IsPS B β S v w) {e : PE} (he : e ∈ S.es) : β e.key ≠ B := fun ej => by
  have h1 := h.ent e he
  rw [ej, h.blk] at h1
  injection h1 with h2
  injection h2 with _ h3
  exact absurd h3 (by decide)
theorem IsPS.ent_row (h : IsPS B β S v w) {e : PE} (he : e ∈ S.es) : ¬ (v.ownBlock = some (β e.key)) := fun ej => by
  rcases h.own.2 with ⟨rfl, _⟩ | ⟨g, cap, cur, rfl, _, hgb, _⟩
  · simp [Value.ownBlock] at ej
  · obtain rfl : g = β e.key := by simpa [Value.ownBlock] using ej
    rw [h.ent e he] at hgb
    injection hgb with h1
    injection h1 with _ h2
    exact absurd h2 (by decide)

/-- One path has turned. -/
theorem IsPS.upd (h : IsPS B β S v w) (e0 : PE) (he0 : e0 ∈ S.es) (f : PE → PE) (hf : ∀ e, (f e).key = e.key) (hk : Keeps (fun b => b = β e0.key) w W) (hb : W.heap[β e0.key]? = some (.cells (f e0).cells 96 (0, 0))) : IsPS B β (S.upd e0.key f) v W := by
  have hkeys := upd_keys S e0.key f hf
  have hlen : (S.upd e0.key f).es.length = S.es.length := by show (S.es.map _).length = _; rw [List.length_map]
  have hmem : ∀ e ∈ (S.upd e0.key f).es, ∃ e' ∈ S.es, e.key = e'.key ∧ ((e'.key = e0.key ∧ e = f e0) ∨ (e'.key ≠ e0.key ∧ e = e')) := fun e he => by
    obtain ⟨e', he', rfl⟩ := List.mem_map.1 he
    by_cases hq : e'.key = e0.key
    · obtain rfl := nodup_key h.nd e' he' e0 he0 hq
      rw [if_pos rfl]
      exact ⟨e', he', hf e', .inl ⟨rfl, rfl⟩⟩
    · rw [if_neg hq]
      exact ⟨e', he', rfl, .inr ⟨hq, rfl⟩⟩
  have hin : ∀ k, (∃ e ∈ S.es, e.key = k) → ∃ e ∈ (S.upd e0.key f).es, e.key = k := fun k ⟨e, he, hek⟩ => by
    have : k ∈ (S.upd e0.key f).es.map PE.key := by rw [hkeys]; exact List.mem_map.2 ⟨e, he, hek⟩
    obtain ⟨e', h1, h2⟩ := List.mem_map.1 this
    exact ⟨e', h1, h2⟩
  refine ⟨(hk.block _ (heap_lt h.blk) (fun e => h.ne_ent he0 e.symm)).trans h.blk, ?_, fun e he => ?_, fun e he e' he' hb' => ?_, by rw [hkeys]; exact h.nd, hin _ h.act, fun k hk' => hin _ (h.prev k hk'), by rw [hlen]; exact h.len⟩
  · have hvals : (S.upd e0.key f).es.map (fun e => ptrTo β e.key) = S.es.map (fun e => ptrTo β e.key) := by
      have : ∀ l : List PE, l.map (fun e => ptrTo β e.key) = (l.map PE.key).map (ptrTo β) := fun l => by rw [List.map_map]; rfl
      rw [this, this, hkeys]
    rw [hvals, hlen]
    exact ownsRow_keeps h.own hk (fun g hg e => h.ent_row he0 (by rw [← e]; exact hg))
  · obtain ⟨e', he', hke, hc⟩ := hmem e he
    rcases hc with ⟨h1, rfl⟩ | ⟨h1, rfl⟩
    · rw [hf e0]; exact hb
    · exact (hk.block _ (heap_lt (h.ent e he')) (fun hq => h1 (h.inj e he' e0 he0 hq))).trans (h.ent e he')
  · obtain ⟨a, ha, hka, _⟩ := hmem e he
    obtain ⟨b, hb2, hkb, _⟩ := hmem e' he'
    rw [hka, hkb] at hb' ⊢
    exact h.inj a ha b hb2 hb'
end

theorem Errs.below {aA aP : Addr} {w W : World} (h : Errs aA aP w) (hb : Below w.heap.size w W) : Errs aA aP W := by
  have hs := h.sz
  obtain ⟨ca, ta, ha⟩ := h.fa
  obtain ⟨cb, tb, hb2⟩ := h.fp
  exact ⟨(hb.cell (p := ⟨1, 0, none⟩) (show 1 < w.heap.size by omega)).trans h.arg, (hb.cell (p := ⟨0, 0, none⟩) (show 0 < w.heap.size by omega)).trans h.pth, h.ne, ⟨ca, ta, (hb.block _ (heap_lt ha)).trans ha⟩, ⟨cb, tb, (hb.block _ (heap_lt hb2)).trans hb2⟩, Nat.le_trans hs hb.size⟩

/-- Is the path valid? -/
def PS.valid (S : PS) (k : Int × Int) : Bool := match S.get k with | some e => e.ok | none => false

def SomeB (x : Value) (w : World) (e : Ending) (w' : World) : Prop := e = .returned x ∧ Below w.heap.size w w'

theorem find_yes (aA aP : Addr) (B : Nat) (β : Int × Int → Nat) (S : PS) (v : Value) (l r : Int) (w : World) (hE : Errs aA aP w) (hS : IsPS B β S v w) (e0 : PE) (hg : S.get (l, r) = some e0) :
    Calls Tryd.prog 46 #[.pointer (some ⟨B, 0, none⟩), .int .i64 l, .int .i64 r] w (SomeB (.tuple #[.pointer (some ⟨β (l, r), 0, none⟩), .nilIface]) w) := by
  have h := find_any aA aP B β S v l r w hE hS
  rw [findB_get, hg] at h
  exact h
theorem find_no (aA aP : Addr) (B : Nat) (β : Int × Int → Nat) (S : PS) (v : Value) (l r : Int) (w : World) (hE : Errs aA aP w) (hS : IsPS B β S v w) (hg : S.get (l, r) = none) :
    Calls Tryd.prog 46 #[.pointer (some ⟨B, 0, none⟩), .int .i64 l, .int .i64 r] w (SomeB (.tuple #[.pointer none, eVal aP]) w) := by
  have h := find_any aA aP B β S v l r w hE hS
  rw [findB_get, hg] at h
  exact h

theorem IsPS.at {B : Nat} {β : Int × Int → Nat} {S : PS} {v : Value} {w : World} (h : IsPS B β S v w) {k : Int × Int} {e : PE} (hg : S.get k = some e) : w.heap[β k]? = some (.cells e.cells 96 (0, 0)) := by
  obtain ⟨hm, hk⟩ := PS.get_mem hg
  have := h.ent e hm
  rw [hk] at this
  exact this

set_option maxRecDepth 100000 in
set_option maxHeartbeats 400000 in
theorem valid_any (aA aP : Addr) (B : Nat) (β : Int × Int → Nat) (S : PS) (v : Value) (l r : Int) (w : World) (hE : Errs aA aP w) (hS : IsPS B β S v w) :
    Calls Tryd.prog 19 #[.pointer (some ⟨B, 0, none⟩), .int .i64 l, .int .i64 r] w (SomeB (.bool (S.valid (l, r))) w) := by
  have HS := Lib.hid hS; clear hS
  have HE := Lib.hid hE; clear hE
  cases hg : S.get (l, r) with
  | none =>
    have Hv := Lib.hid (show S.valid (l, r) = false by unfold PS.valid; rw [hg])
    have Hg := Lib.hid hg; clear hg
    rw [Hv.out]
    go_enter Tryd.func19, Tryd.ntmps19
    go_wp2_with (fail)
    refine (find_no aA aP B β S v l r w HE.out HS.out Hg.out).mono ?_
    rintro e w1 ⟨rfl, hb1⟩
    go_wp2
    go_ret
    exact ⟨rfl, hb1⟩
  | some e0 =>
    have Hv := Lib.hid (show S.valid (l, r) = e0.ok by unfold PS.valid; rw [hg])
    have Hg := Lib.hid hg; clear hg
    rw [Hv.out]
    go_enter Tryd.func19, Tryd.ntmps19
    go_wp2_with (fail)
    refine (find_yes aA aP B β S v l r w HE.out HS.out e0 Hg.out).mono ?_
    rintro e w1 ⟨rfl, hb1⟩
    have hc := cell_of_heap ((HS.out.below hb1).at Hg.out) 6
    go_wp2
    go_ret
    exact ⟨rfl, hb1⟩

theorem valid_nil (aA aP : Addr) (l r : Int) (w : World) (hE : Errs aA aP w) :
    Calls Tryd.prog 19 #[.pointer none, .int .i64 l, .int .i64 r] w (SomeB (.bool false) w) := by
  have HE := Lib.hid hE; clear hE
  go_enter Tryd.func19, Tryd.ntmps19
  go_wp2_with (fail)
  refine (find_nil aA aP l r w HE.out).mono ?_
  rintro e w1 ⟨rfl, hb1⟩
  go_wp2
  go_ret
  exact ⟨rfl, hb1⟩

theorem len_any (B : Nat) (β : Int × Int → Nat) (S : PS) (v : Value) (w : World) (hS : IsPS B β S v w) :
    Calls Tryd.prog 18 #[.pointer (some ⟨B, 0, none⟩)] w (SomeB (.int .i64 S.es.length) w) := by
  obtain ⟨a0, cp0, hv⟩ : ∃ a0 cp0, v = .slice a0 S.es.length cp0 := by
    rcases hS.own.2 with ⟨h1, h2⟩ | ⟨g, cap, cur, hv, _⟩
    · rw [h2]; exact ⟨none, 0, h1⟩
    · exact ⟨_, cap, hv⟩
  subst hv
  have hc := cell_of_heap hS.blk 0
  have hl := hS.len
  clear hS
  go_enter Tryd.func18, Tryd.ntmps18
  go_wp2
  go_ret
  exact ⟨rfl, Below.refl _ _⟩
theorem len_nil (w : World) : Calls Tryd.prog 18 #[.pointer none] w (SomeB (.int .i64 0) w) := by
  go_enter Tryd.func18, Tryd.ntmps18
  go_wp2
  go_ret
  exact ⟨rfl, Below.refl _ _⟩

theorem active_nil (w : World) : Calls Tryd.prog 23 #[.pointer none] w (SomeB (.tuple #[.int .i64 0, .int .i64 0]) w) := by
  go_enter Tryd.func23, Tryd.ntmps23
  go_wp2
  go_ret2
  exact ⟨rfl, Below.refl _ _⟩

theorem below_drewN (w : World) (n : Nat) : Below w.heap.size w (w.drewN n) := ⟨rfl, rfl, rfl, Nat.le_refl _, fun _ _ => rfl⟩

set_option maxRecDepth 100000 in
set_option maxHeartbeats 400000 in
theorem pactive_any (B : Nat) (β : Int × Int → Nat) (S : PS) (v : Value) (w : World) (hS : IsPS B β S v w) :
    Calls Tryd.prog 23 #[.pointer (some ⟨B, 0, none⟩)] w (SomeB (.tuple #[.int .i64 S.act.1, .int .i64 S.act.2]) w) := by
  obtain ⟨e, he, hk⟩ := hS.act
  have hb := hS.ent e he
  have c1 := cell_of_heap hS.blk 1
  rw [← hk] at c1 ⊢
  have e0 := cell_of_heap hb 0
  have e1 := cell_of_heap hb 1
  clear hS hb hk
  go_enter Tryd.func23, Tryd.ntmps23
  go_wp2
  go_quiet (fail)
  go_wp2
  go_ret2
  exact ⟨rfl, below_drewN _ _⟩

/-- May n more bytes be sent? -/
def PE.allows (e : PE) (n : Int) : Bool := e.ok || decide (e.snt + n ≤ 3 * e.rcv)
/-- The numbers of a path are small. -/
def PE.small (e : PE) : Prop := 0 ≤ e.rcv ∧ e.rcv ≤ 1000000000000 ∧ 0 ≤ e.snt ∧ e.snt ≤ 1000000000000 ∧ 0 ≤ e.tick ∧ e.tick ≤ 1000000000

set_option maxRecDepth 100000 in
set_option maxHeartbeats 400000 in
theorem allows1_any (b : Nat) (e : PE) (n : Int) (w : World) (hb : w.heap[b]? = some (.cells e.cells 96 (0, 0))) (hs : e.small) (h0 : 0 ≤ n) (h1 : n ≤ 65536) :
    Calls Tryd.prog 48 #[.pointer (some ⟨b, 0, none⟩), .int .i64 n] w (SomeB (.bool (e.allows n)) w) := by
  have c4 := cell_of_heap hb 4
  have c5 := cell_of_heap hb 5
  have c6 := cell_of_heap hb 6
  obtain ⟨s1, s2, s3, s4, _, _⟩ := hs
  clear hb
  cases hok : e.ok with
  | true =>
    have Hv := Lib.hid (show e.allows n = true by unfold PE.allows; rw [hok]; rfl)
    rw [Hv.out]
    simp only [PE.cells, hok, List.getElem?_toArray, List.getElem?_cons_succ, List.getElem?_cons_zero] at c6
    clear hok
    go_enter Tryd.func48, Tryd.ntmps48
    go_wp2
    go_quiet (fail)
    go_wp2
    go_ret
    exact ⟨rfl, below_drewN _ _⟩
  | false =>
    obtain ⟨q, hq⟩ : ∃ q, decide (e.snt + n ≤ 3 * e.rcv) = q := ⟨_, rfl⟩
    have Hv := Lib.hid (show e.allows n = q by unfold PE.allows; rw [hok, ← hq]; rfl)
    rw [Hv.out]
    simp only [PE.cells, hok, List.getElem?_toArray, List.getElem?_cons_succ, List.getElem?_cons_zero] at c6
    clear hok
    have w1 : IntKind.i64.wrap (e.snt + n) = e.snt + n := IntWalk.i64_in _ (by omega)
    have w2 : IntKind.i64.wrap (3 * e.rcv) = 3 * e.rcv := IntWalk.i64_in _ (by omega)
    go_enter Tryd.func48, Tryd.ntmps48
    go_wp2
    go_quiet (fail)
    go_wp2
    go_ret
    exact ⟨by rw [← hq]; rfl, below_drewN _ _⟩

end Go.Proofs.YtmdfpknhfkgfoaaDoor
