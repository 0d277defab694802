/- The reference of law24: how its state lies in memory (the model is path's own, PS); its small functions, New, Find. -/
import Derived.Test.YtmdfpknhfkgfoaaDoorPGood
import Derived.Deep.RegionHeld3
namespace Go.Proofs.YtmdfpknhfkgfoaaDoor
open Go.RowKit Go.Shelf
set_option linter.unusedVariables false

/-- A path as the reference holds it. -/
abbrev PE.rcells (e : PE) (t : Int) : Array Value := #[.int .i64 e.l, .int .i64 e.r, .int .i64 e.rcv, .int .i64 e.snt, .bool e.ok, .string e.data, .int .i64 t]
structure PE.Tm (e : PE) (t : Int) : Prop where
  calm : e.data = ⟨#[]⟩ → e.tick = 0
  same : e.data ≠ ⟨#[]⟩ → t = e.tick
  lo : 0 ≤ t
  hi : t ≤ 1000000000

def RE (b : Nat) (e : PE) (w : World) : Prop := ∃ t, e.Tm t ∧ w.heap[b]? = some (.cells (e.rcells t) 49 (0, 0))
theorem RE.lt {b : Nat} {e : PE} {w : World} (h : RE b e w) : b < w.heap.size := by obtain ⟨t, _, h⟩ := h; exact heap_lt h
theorem RE.keep {b : Nat} {e : PE} {w W : World} (h : RE b e w) (hk : W.heap[b]? = w.heap[b]?) : RE b e W := by obtain ⟨t, h0, h⟩ := h; exact ⟨t, h0, hk.trans h⟩

structure IsRS (B : Nat) (β : Int × Int → Nat) (S : PS) (v : Value) (w : World) : Prop where
  blk : w.heap[B]? = some (.cells #[v, ptrTo β S.act, prevV β S.prev] 53 (0, 0))
  own : w.ownsRow 0 51 1 v S.es.length (S.es.map fun e => ptrTo β e.key)
  ent : ∀ e ∈ S.es, RE (β e.key) e w
  inj : ∀ e ∈ S.es, ∀ e' ∈ S.es, β e.key = β e'.key → e.key = e'.key
  nd : (S.es.map PE.key).Nodup
  act : ∃ e ∈ S.es, e.key = S.act
  prev : ∀ k, S.prev = some k → ∃ e ∈ S.es, e.key = k
  len : S.es.length ≤ 4

section
variable {B : Nat} {β : Int × Int → Nat} {S : PS} {v : Value} {w W : World}

theorem IsRS.keeps {R : Nat → Prop} (h : IsRS B β S v w) (hk : Keeps R w W) (hB : ¬ R B) (hv : ∀ g, v.ownBlock = some g → ¬ R g) (hE : ∀ e ∈ S.es, ¬ R (β e.key)) : IsRS B β S v W :=
  ⟨(hk.block _ (heap_lt h.blk) hB).trans h.blk, ownsRow_keeps h.own hk hv, fun e he => (h.ent e he).keep (hk.block _ (h.ent e he).lt (hE e he)), h.inj, h.nd, h.act, h.prev, h.len⟩
theorem IsRS.below (h : IsRS B β S v w) (hb : Below w.heap.size w W) : IsRS B β S v W :=
  h.keeps (R := fun _ => False) (Keeps.of_below hb) (fun h => h) (fun _ _ h => h) (fun _ _ h => h)

theorem IsRS.ne_row (h : IsRS B β S v w) : ¬ (v.ownBlock = some B) := fun ej => by
  rcases h.own.2 with ⟨rfl, _⟩ | ⟨g, cap, cur, rfl, _, hgb, _⟩
  · simp [Value.ownBlock] at ej
  · obtain rfl : g = B := by simpa [Value.ownBlock] using ej
    rw [h.blk] at hgb
    injection hgb with h1
    injection h1 with _ h2
    exact absurd h2 (by decide)
theorem IsRS.ne_ent (h : IsRS B β S v w) {e : PE} (he : e ∈ S.es) : β e.key ≠ B := fun ej => by
  obtain ⟨t, _, h1⟩ := h.ent e he
  rw [ej, h.blk] at h1
  injection h1 with h2
  injection h2 with _ h3
  exact absurd h3 (by decide)
theorem IsRS.ent_row (h : IsRS B β S v w) {e : PE} (he : e ∈ S.es) : ¬ (v.ownBlock = some (β e.key)) := fun ej => by
  rcases h.own.2 with ⟨rfl, _⟩ | ⟨g, cap, cur, rfl, _, hgb, _⟩
  · simp [Value.ownBlock] at ej
  · obtain rfl : g = β e.key := by simpa [Value.ownBlock] using ej
    obtain ⟨t, _, h1⟩ := h.ent e he
    rw [h1] at hgb
    injection hgb with h1
    injection h1 with _ h2
    exact absurd h2 (by decide)

/-- One path has turned. -/
theorem IsRS.upd (h : IsRS B β S v w) (e0 : PE) (he0 : e0 ∈ S.es) (f : PE → PE) (hf : ∀ e, (f e).key = e.key) (hk : Keeps (fun b => b = β e0.key) w W) (hb : RE (β e0.key) (f e0) W) : IsRS B β (S.upd e0.key f) v W := by
  have hkeys := upd_keys S e0.key f hf
  have hlen : (S.upd e0.key f).es.length = S.es.length := by show (S.es.map _).length = _; rw [List.length_map]
  have hmem : ∀ e ∈ (S.upd e0.key f).es, ∃ e' ∈ S.es, e.key = e'.key ∧ ((e'.key = e0.key ∧ e = f e0) ∨ (e'.key ≠ e0.key ∧ e = e')) := fun e he => by
    obtain ⟨e', he', rfl⟩ := List.mem_map.1 he
    by_cases hq : e'.key = e0.key
    · obtain rfl := nodup_key h.nd e' he' e0 he0 hq
      rw [if_pos rfl]
      exact ⟨e', he', hf e', .inl ⟨rfl, rfl⟩⟩
    · rw [if_neg hq]
      exact ⟨e', he', rfl, .inr ⟨hq, rfl⟩⟩
  have hin : ∀ k, (∃ e ∈ S.es, e.key = k) → ∃ e ∈ (S.upd e0.key f).es, e.key = k := fun k ⟨e, he, hek⟩ => by
    have : k ∈ (S.upd e0.key f).es.map PE.key := by rw [hkeys]; exact List.mem_map.2 ⟨e, he, hek⟩
    obtain ⟨e', h1, h2⟩ := List.mem_map.1 this
    exact ⟨e', h1, h2⟩
  refine ⟨(hk.block _ (heap_lt h.blk) (fun e => h.ne_ent he0 e.symm)).trans h.blk, ?_, fun e he => ?_, fun e he e' he' hb' => ?_, by rw [hkeys]; exact h.nd, hin _ h.act, fun k hk' => hin _ (h.prev k hk'), by rw [hlen]; exact h.len⟩
  · have hvals : (S.upd e0.key f).es.map (fun e => ptrTo β e.key) = S.es.map (fun e => ptrTo β e.key) := by
      have : ∀ l : List PE, l.map (fun e => ptrTo β e.key) = (l.map PE.key).map (ptrTo β) := fun l => by rw [List.map_map]; rfl
      rw [this, this, hkeys]
    rw [hvals, hlen]
    exact ownsRow_keeps h.own hk (fun g hg e => h.ent_row he0 (by rw [← e]; exact hg))
  · obtain ⟨e', he', hke, hc⟩ := hmem e he
    rcases hc with ⟨h1, rfl⟩ | ⟨h1, rfl⟩
    · rw [hf e0]; exact hb
    · exact (h.ent e he').keep (hk.block _ (h.ent e he').lt (fun hq => h1 (h.inj e he' e0 he0 hq)))
  · obtain ⟨a, ha, hka, _⟩ := hmem e he
    obtain ⟨b, hb2, hkb, _⟩ := hmem e' he'
    rw [hka, hkb] at hb' ⊢
    exact h.inj a ha b hb2 hb'
theorem IsRS.at (h : IsRS B β S v w) {k : Int × Int} {e : PE} (hg : S.get k = some e) : RE (β k) e w := by
  obtain ⟨hm, hk⟩ := PS.get_mem hg
  have := h.ent e hm
  rw [hk] at this
  exact this
end

/-- The reference's Paths in memory, all of it above w0. -/
structure RAt (w0 : World) (B : Nat) (β : Int × Int → Nat) (S : PS) (v : Value) (W : World) : Prop where
  is : IsRS B β S v W
  base : ∀ b, POwn B β S v b → w0.heap.size ≤ b
  below : Below w0.heap.size w0 W
  small : ∀ e ∈ S.es, e.small
/-- What a call may do to it. -/
structure RGo (w0 : World) (B : Nat) (β : Int × Int → Nat) (S : PS) (v : Value) (β' : Int × Int → Nat) (S' : PS) (v' : Value) (W W' : World) : Prop where
  now : RAt w0 B β' S' v' W'
  keeps : Keeps (POwn B β S v) W W'
  grow : ∀ b, POwn B β' S' v' b → POwn B β S v b ∨ W.heap.size ≤ b
def RTurn (w0 : World) (B : Nat) (β : Int × Int → Nat) (S : PS) (v : Value) (x : Value) (S' : PS) (w : World) (e : Ending) (w' : World) : Prop :=
  e = .returned x ∧ ∃ β' v', RGo w0 B β S v β' S' v' w w'

section
variable {w0 : World} {B : Nat} {β : Int × Int → Nat} {S : PS} {v : Value} {W W' : World}
theorem RAt.of_below (h : RAt w0 B β S v W) (hb : Below W.heap.size W W') : RAt w0 B β S v W' := ⟨h.is.below hb, h.base, h.below.trans (hb.mono h.below.size), h.small⟩
theorem RAt.go_same (h : RAt w0 B β S v W) (hb : Below W.heap.size W W') : RGo w0 B β S v β S v W W' := ⟨h.of_below hb, Keeps.of_below hb, fun _ h => .inl h⟩
theorem RGo.trans {β1 β2 : Int × Int → Nat} {S1 S2 : PS} {v1 v2 : Value} {W1 W2 : World} (h : RGo w0 B β S v β1 S1 v1 W W1) (k : RGo w0 B β1 S1 v1 β2 S2 v2 W1 W2) : RGo w0 B β S v β2 S2 v2 W W2 := by
  refine ⟨k.now, h.keeps.then k.keeps (fun i hi ho => ?_), fun b hb => ?_⟩
  · rcases h.grow i ho with h1 | h1
    · exact h1
    · omega
  · rcases k.grow b hb with h1 | h1
    · exact h.grow b h1
    · exact .inr (Nat.le_trans h.keeps.size h1)

/-- One path's cells are written. -/
theorem RAt.upd (h : RAt w0 B β S v W) {k : Int × Int} {e0 : PE} (hg : S.get k = some e0) (f : PE → PE) (hf : ∀ e, (f e).key = e.key) (hsm : (f e0).small) {W1 : World} (hb1 : Below W.heap.size W W1) (hk : Keeps (fun b => b = β k) W1 W')
    (hb : RE (β k) (f e0) W') : RGo w0 B β S v β (S.upd k f) v W W' := by
  obtain ⟨hm, hkey⟩ := PS.get_mem hg
  subst hkey
  have h1 := h.is.below hb1
  have hown : POwn B β S v (β e0.key) := .inr (.inr ⟨e0, hm, rfl⟩)
  refine ⟨⟨h1.upd e0 hm f hf hk hb, fun b hb' => h.base b (upd_own S e0.key f hf b hb'), ?_, fun e he => ?_⟩, ?_, fun b hb' => .inl (upd_own S e0.key f hf b hb')⟩
  · exact hk.below (h.of_below hb1).below (fun i e => by rw [e]; exact h.base _ hown) (h.of_below hb1).below.size
  · obtain ⟨e', he', rfl⟩ := List.mem_map.1 he
    by_cases hq : e'.key = e0.key
    · obtain rfl := nodup_key h.is.nd e' he' e0 hm hq
      rw [if_pos rfl]; exact hsm
    · rw [if_neg hq]; exact h.small e' he'
  · exact (Keeps.of_below hb1).then hk (fun i _ e => by rw [e]; exact hown)

/-- The active and the previous path are set anew. -/
theorem RAt.setBlk (h : RAt w0 B β S v W) {W1 : World} (hb1 : Below W.heap.size W W1) (a : Int × Int) (p : Option (Int × Int)) (ha : ∃ e ∈ S.es, e.key = a) (hp : ∀ k, p = some k → ∃ e ∈ S.es, e.key = k)
    (hk : Keeps (fun b => b = B) W1 W') (hb : W'.heap[B]? = some (.cells #[v, ptrTo β a, prevV β p] 53 (0, 0))) : RGo w0 B β S v β { S with act := a, prev := p } v W W' := by
  have h1 := h.of_below hb1
  refine ⟨⟨⟨hb, ownsRow_keeps h1.is.own hk (fun g hg e => h1.is.ne_row (by rw [← e]; exact hg)), fun e he => (h1.is.ent e he).keep (hk.block _ (h1.is.ent e he).lt (h1.is.ne_ent he)), h1.is.inj, h1.is.nd, ha, hp, h1.is.len⟩, h.base, ?_, h.small⟩, ?_, fun b hb' => .inl hb'⟩
  · exact hk.below h1.below (fun i e => by rw [e]; exact h.base _ (.inl rfl)) h1.below.size
  · exact (Keeps.of_below hb1).then hk (fun i _ e => .inl e)
theorem RAt.base_mono {w1 : World} (h : RAt w1 B β S v W) (hb : Below w0.heap.size w0 w1) : RAt w0 B β S v W :=
  ⟨h.is, fun b hb' => Nat.le_trans hb.size (h.base b hb'), hb.trans (h.below.mono hb.size), h.small⟩
end

theorem raddr_any (z : Int) (w : World) : Calls Tryd.prog 51 #[.int .i64 z] w fun e w' => e = .returned (.bool (within 1 65535 z)) ∧ w' = w := by
  unfold within
  by_cases h1 : 1 ≤ z
  · rw [decide_eq_true h1]
    go_enter Tryd.func51, Tryd.ntmps51
    go_wp2
    go_ret
    exact ⟨rfl, rfl⟩
  · rw [decide_eq_false h1]
    go_enter Tryd.func51, Tryd.ntmps51
    go_wp2
    go_ret
    exact ⟨rfl, rfl⟩
theorem rsize_any (z : Int) (w : World) : Calls Tryd.prog 60 #[.int .i64 z] w fun e w' => e = .returned (.bool (within 0 65536 z)) ∧ w' = w := by
  unfold within
  by_cases h1 : 0 ≤ z
  · rw [decide_eq_true h1]
    go_enter Tryd.func60, Tryd.ntmps60
    go_wp2
    go_ret
    exact ⟨rfl, rfl⟩
  · rw [decide_eq_false h1]
    go_enter Tryd.func60, Tryd.ntmps60
    go_wp2
    go_ret
    exact ⟨rfl, rfl⟩
theorem rtime_any (z : Int) (w : World) : Calls Tryd.prog 72 #[.int .i64 z] w fun e w' => e = .returned (.bool (within 0 1000000000 z)) ∧ w' = w := by
  unfold within
  by_cases h1 : 0 ≤ z
  · rw [decide_eq_true h1]
    go_enter Tryd.func72, Tryd.ntmps72
    go_wp2
    go_ret
    exact ⟨rfl, rfl⟩
  · rw [decide_eq_false h1]
    go_enter Tryd.func72, Tryd.ntmps72
    go_wp2
    go_ret
    exact ⟨rfl, rfl⟩

/-- What Find gives. -/
def rptr (β : Int × Int → Nat) (S : PS) (k : Int × Int) : Value := .pointer ((S.get k).map fun _ => ⟨β k, 0, none⟩)
theorem rptr_yes {β : Int × Int → Nat} {S : PS} {k : Int × Int} {e : PE} (h : S.get k = some e) : rptr β S k = .pointer (some ⟨β k, 0, none⟩) := by unfold rptr; rw [h]; rfl
theorem rptr_no {β : Int × Int → Nat} {S : PS} {k : Int × Int} (h : S.get k = none) : rptr β S k = .pointer none := by unfold rptr; rw [h]; rfl

/-- No path among the first j has the key. -/
def NoneTo (S : PS) (k : Int × Int) (j : Nat) : Prop := ∀ i e, i < j → S.es[i]? = some e → e.key ≠ k
theorem NoneTo.step {S : PS} {k : Int × Int} {j : Nat} {e : PE} (h : NoneTo S k j) (he : S.es[j]? = some e) (hk : e.key ≠ k) : NoneTo S k (j + 1) := fun i e' hi hi' => by
  by_cases hij : i = j
  · subst hij
    rw [he] at hi'
    injection hi' with hi'
    subst hi'
    exact hk
  · exact h i e' (by omega) hi'
theorem NoneTo.get {S : PS} {k : Int × Int} (h : NoneTo S k S.es.length) : S.get k = none := by
  unfold PS.get
  rw [List.find?_eq_none]
  intro e he
  obtain ⟨i, hi⟩ := List.mem_iff_getElem?.1 he
  have hl : i < S.es.length := (List.getElem?_eq_some_iff.1 hi).1
  simpa using h i e hl hi

set_option maxRecDepth 100000 in
set_option maxHeartbeats 2000000 in
theorem rfind_any (B : Nat) (β : Int × Int → Nat) (S : PS) (v : Value) (l r : Int) (w : World) (hS : IsRS B β S v w) :
    Calls Tryd.prog 59 #[.pointer (some ⟨B, 0, none⟩), .int .i64 l, .int .i64 r] w (SomeB (rptr β S (l, r)) w) := by
  obtain ⟨a0, cp0, hv⟩ : ∃ a0 cp0, v = .slice a0 S.es.length cp0 := by
    rcases hS.own.2 with ⟨h1, h2⟩ | ⟨g, cap, cur, hv, _⟩
    · rw [h2]; exact ⟨none, 0, h1⟩
    · exact ⟨_, cap, hv⟩
  subst hv
  have HS := Lib.hid hS; clear hS
  have hlen := HS.out.len
  obtain ⟨q, hq⟩ : ∃ q, Hid (rptr β S (l, r) = q) := ⟨_, rfl⟩
  rw [hq.out]
  go_enter Tryd.func59, Tryd.ntmps59
  have c0 := cell_of_heap HS.out.blk 0
  go_wp2
  go_loopw [7] (fun i wr => ∃ j : Nat, j ≤ S.es.length ∧ i = .int .i64 j ∧ Hid (Below w.heap.size w wr) ∧ Hid (NoneTo S (l, r) j)) (fun i _ => S.es.length - (intOf i).toNat)
  case atStart => exact ⟨0, Nat.zero_le _, rfl, Below.refl _ _, fun i e hi => absurd hi (Nat.not_lt_zero _)⟩
  case round =>
    clear c0
    obtain ⟨j, hj, rfl, HB, HN⟩ := hrel
    have HW := Lib.hid (HS.out.below HB.out)
    have c0 := cell_of_heap HW.out.blk 0
    by_cases hjl : j < S.es.length
    · obtain ⟨e, he⟩ : ∃ e, Hid (S.es[j]? = some e) := ⟨_, List.getElem?_eq_getElem hjl⟩
      obtain ⟨g, ha⟩ := slice_shape HW.out.own (by omega)
      subst ha
      have hm : e ∈ S.es := List.mem_iff_getElem?.2 ⟨j, he.out⟩
      have hp := own_src HW.out.own j (ptrTo β e.key) (by rw [List.getElem?_map, he.out]; rfl)
      simp only [Addr.add_mid, Nat.zero_add] at hp
      obtain ⟨t, _, hb⟩ := HW.out.ent e hm
      have e0 := cell_of_heap hb 0
      have e1 := cell_of_heap hb 1
      have HM := Lib.hid hm
      clear hb hm
      generalize hL : S.es.length = L at *
      by_cases hl : e.l = l
      · by_cases hr : e.r = r
        · have q1 : ((e.l : Int) == l) = true := by rw [hl]; simp
          have q2 : ((e.r : Int) == r) = true := by rw [hr]; simp
          have Hv : Hid (rptr β S (l, r) = .pointer (some ⟨β (l, r), 0, none⟩)) := rptr_yes ((get_iff HS.out.nd).2 ⟨HM.out, by show (e.l, e.r) = _; rw [hl, hr]⟩)
          have hk : β e.key = β (l, r) := by show β (e.l, e.r) = _; rw [hl, hr]
          simp only [ptrTo, hk] at hp e0 e1
          clear hl hr hk
          go_wp2
          go_ret
          exact ⟨by rw [← hq.out, Hv.out]; rfl, HB.out⟩
        · have q1 : ((e.l : Int) == l) = true := by rw [hl]; simp
          have q2 : ((e.r : Int) == r) = false := by rw [beq_eq_false_iff_ne]; exact hr
          have HN2 : Hid (NoneTo S (l, r) (j + 1)) := HN.out.step he.out (fun e2 => hr (congrArg Prod.snd e2))
          clear hl hr
          go_wp2
          go_roundw
          case rel => exact ⟨j + 1, by omega, by go_num, HB, HN2⟩
          case measure => simp [intOf]; omega
      · have q1 : ((e.l : Int) == l) = false := by rw [beq_eq_false_iff_ne]; exact hl
        have HN2 : Hid (NoneTo S (l, r) (j + 1)) := HN.out.step he.out (fun e2 => hl (congrArg Prod.fst e2))
        clear hl
        go_wp2
        go_roundw
        case rel => exact ⟨j + 1, by omega, by go_num, HB, HN2⟩
        case measure => simp [intOf]; omega
    · obtain rfl : j = S.es.length := by omega
      have Hv := Lib.hid (rptr_no (β := β) HN.out.get)
      go_wp2
      go_ret
      exact ⟨by rw [← hq.out, Hv.out]; rfl, HB.out⟩
end Go.Proofs.YtmdfpknhfkgfoaaDoor
