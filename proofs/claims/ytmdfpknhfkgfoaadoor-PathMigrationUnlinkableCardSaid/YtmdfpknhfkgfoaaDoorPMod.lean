/- path.Paths: the model of its state, and the iterator over the paths with given addresses. -/
import Derived.RangeFuncBox
import Derived.RangeFuncLeaves
import Derived.RangeFuncNested
import Derived.Shelf.Abstract
import Derived.OwnWalkIn
import Derived.TacticsInMore
import Derived.LoopNIn
import Derived.LoopIn
import Derived.Stop.RegionWithIn
import Derived.WalkMore
import Derived.Scope
import Derived.Maps.AppendAt
import Derived.Deep.MidRow
import Derived.Deep.LoopGhost
import Derived.Test.YtmdfpknhfkgfoaaDoorPAre
namespace Go.Proofs.YtmdfpknhfkgfoaaDoor
open Go.RowKit Go.Shelf

attribute [local go_sem] Oper.semAt_some

/-! ### A scope inside a fence, if no goto leaves it -/
section
variable {P : Program} {b : Frame} {a : Act} {k : List Item} {cs : List Frame} {w : World} {Q : Exit → Act → World → Prop}
theorem stepR_scope {c : Code} : step P (lone (b.atR a (.code (.scope c) :: k)) cs w) = .next (lone (b.atR a (.code c :: .inScope c :: k)) cs w) :=
  step_lone_go (by simp [stepG, stepG.exec, Frame.atR])
theorem stepR_inScope {c : Code} : step P (lone (b.atR a (.inScope c :: k)) cs w) = .next (lone (b.atR a k) cs w) :=
  step_lone_go (by simp [stepG, stepG.exec, Frame.atR])
theorem wpIn_scope_straight {F : Fence} {n : Nat} {c : Code} (h : c.wpIn F n P (Exit.noGoto Q) a w) : (Code.scope c).wpIn F n P Q a w := by
  intro b k cs hro hb hr
  have h0 : (lone (b.atR a (.code (.scope c) :: k)) cs w).fenced P F := fenced_calm hb hr rfl
  obtain ⟨e, a₁, w₁, hq, harr⟩ := h b (.inScope c :: k) cs hro hb hr
  cases e with
  | normal => exact ⟨.normal, a₁, w₁, hq, .head h0 stepR_scope (StepsIn.trans harr (.one (fenced_calm hb hr rfl) stepR_inScope))⟩
  | exit id =>
    have hx : exitTo id (.inScope c :: k) = exitTo id k := by simp [exitTo]
    exact ⟨.exit id, a₁, w₁, hq, fun k' hk => .head h0 stepR_scope (harr.1 k' (by rw [hx]; exact hk)),
      fun hr' hk => let ⟨k₁, h1, h2⟩ := harr.2 hr' (by rw [hx]; exact hk); ⟨k₁, h1, .head h0 stepR_scope h2⟩⟩
  | goto l => exact hq.elim
  | ret => exact ⟨_, a₁, w₁, hq, .of_steps (.one h0 stepR_scope) harr⟩
  | panic ch => exact ⟨_, a₁, w₁, hq, .of_steps (.one h0 stepR_scope) harr⟩
  | outgrown => exact ⟨_, a₁, w₁, hq, .of_steps (.one h0 stepR_scope) harr⟩
end

/-- A path. -/
structure PE where
  l : Int
  r : Int
  data : ByteArray
  tick : Int
  rcv : Int
  snt : Int
  ok : Bool

def PE.key (e : PE) : Int × Int := (e.l, e.r)
abbrev PE.cells (e : PE) : Array Value := #[.int .i64 e.l, .int .i64 e.r, .string e.data, .int .i64 e.tick, .int .i64 e.rcv, .int .i64 e.snt, .bool e.ok]

/-- The state of a Paths. -/
structure PS where
  es : List PE
  act : Int × Int
  prev : Option (Int × Int)

abbrev ptrTo (β : Int × Int → Nat) (k : Int × Int) : Value := .pointer (some ⟨β k, 0, none⟩)
def prevV (β : Int × Int → Nat) : Option (Int × Int) → Value
  | some k => ptrTo β k
  | none => .pointer none

structure IsPS (B : Nat) (β : Int × Int → Nat) (S : PS) (v : Value) (w : World) : Prop where
  blk : w.heap[B]? = some (.cells #[v, ptrTo β S.act, prevV β S.prev] 99 (0, 0))
  own : w.ownsRow 0 90 1 v S.es.length (S.es.map fun e => ptrTo β e.key)
  ent : ∀ e ∈ S.es, w.heap[β e.key]? = some (.cells e.cells 96 (0, 0))
  inj : ∀ e ∈ S.es, ∀ e' ∈ S.es, β e.key = β e'.key → e.key = e'.key
  nd : (S.es.map PE.key).Nodup
  act : ∃ e ∈ S.es, e.key = S.act
  prev : ∀ k, S.prev = some k → ∃ e ∈ S.es, e.key = k
  len : S.es.length ≤ 4

/-- The blocks of the paths that match, among the first j. -/
def mts (β : Int × Int → Nat) (es : List PE) (k : Int × Int) (j : Nat) : List Nat := ((es.take j).filter fun e => decide (e.key = k)).map fun e => β e.key

theorem mts_yes (β : Int × Int → Nat) (es : List PE) (k : Int × Int) (j : Nat) (e : PE) (he : es[j]? = some e) (hk : e.key = k) : mts β es k (j + 1) = mts β es k j ++ [β e.key] := by
  unfold mts
  rw [List.take_add_one, he]
  simp [List.filter_append, hk]
theorem mts_no (β : Int × Int → Nat) (es : List PE) (k : Int × Int) (j : Nat) (e : PE) (he : es[j]? = some e) (hk : e.key ≠ k) : mts β es k (j + 1) = mts β es k j := by
  unfold mts
  rw [List.take_add_one, he]
  simp [List.filter_append, hk]
theorem mts_prefix (β : Int × Int → Nat) (es : List PE) (k : Int × Int) (j : Nat) : mts β es k j <+: mts β es k es.length := by
  unfold mts
  rw [List.take_length]
  have : es.take j <+: es := List.take_prefix j es
  obtain ⟨t, ht⟩ := this
  refine ⟨(t.filter fun e => decide (e.key = k)).map fun e => β e.key, ?_⟩
  conv => rhs; rw [← ht]
  rw [List.filter_append, List.map_append]
theorem mts_le (β : Int × Int → Nat) (es : List PE) (k : Int × Int) (j : Nat) : (mts β es k j).length ≤ j := by
  unfold mts
  rw [List.length_map]
  exact Nat.le_trans (List.length_filter_le _ _) (by rw [List.length_take]; omega)

/-- Blocks below N stay. -/
def KeepN (N : Nat) (W W' : World) : Prop := ∀ b, b < N → W'.heap[b]? = W.heap[b]?
theorem KeepN.t {N : Nat} {A B C : World} (h : KeepN N A B) (k : KeepN N B C) : KeepN N A C := fun b hb => (k b hb).trans (h b hb)
theorem KeepN.b {N : Nat} {w : World} (hN : N ≤ w.heap.size) (W : World) (l : Nat) (o o' : Obj) (hl : w.heap.size ≤ l) (_ : W.heap[l]? = some o) (_ : o.isCells = false) (_ : o.isWalk = false) : KeepN N W (W.putObj l o') :=
  fun _ hb => World.putObj_heap_other (fun e => by subst e; omega)

theorem addr_eq (a b c d : Int) (w : World) : (binOp .eql 92 (.agg #[.int .i64 a, .int .i64 b]) (.agg #[.int .i64 c, .int .i64 d])).run Tryd.prog w = .ok (.bool (decide ((a, b) = (c, d)))) w := by
  simp [go_sem]
  by_cases h1 : a = c <;> by_cases h2 : b = d <;> simp [h1, h2]

theorem slice_shape {w : World} {base size : Nat} {e : TypeId} {a : Option Addr} {n cap : Nat} {xs : List Value} (h : w.ownsRow base e size (.slice a n cap) n xs) (hn : 1 ≤ n) : ∃ g, a = some ⟨g, 0, none⟩ := by
  rcases h.2 with ⟨_, h2⟩ | ⟨g, cap', cur, hv, _⟩
  · omega
  · injection hv with h1
    exact ⟨g, h1⟩

theorem yield_cases {e : Ending} {A B : Prop} (h : (e = .returned (.bool true) ∧ A) ∨ (e = .returned (.bool false) ∧ B)) : ∃ bb, e = .returned (.bool bb) ∧ Hid ((bb = true → A) ∧ (bb = false → B)) := by
  rcases h with ⟨h1, h2⟩ | ⟨h1, h2⟩
  · exact ⟨true, h1, fun _ => h2, fun h => (by cases h)⟩
  · exact ⟨false, h1, fun h => (by cases h), fun _ => h2⟩

/-- What the iterator needs in memory. -/
structure MatAt (Bp Ba B : Nat) (β : Int × Int → Nat) (es : List PE) (v : Value) (x y : Value) (k : Int × Int) (w : World) : Prop where
  cp : w.cell? ⟨Bp, 0, none⟩ = some (.pointer (some ⟨B, 0, none⟩))
  ca : w.heap[Ba]? = some (.cells #[.int .i64 k.1, .int .i64 k.2] 92 (0, 0))
  blk : w.heap[B]? = some (.cells #[v, x, y] 99 (0, 0))
  own : w.ownsRow 0 90 1 v es.length (es.map fun e => ptrTo β e.key)
  ent : ∀ e ∈ es, w.heap[β e.key]? = some (.cells e.cells 96 (0, 0))

def MatPost (m : List Nat) (J Jx : List Nat → World → Prop) (e : Ending) (W' : World) : Prop := (∃ v, e = .returned v) ∧ ((∃ ys, ys = m ∧ J ys W') ∨ (∃ pre, pre <+: m ∧ Jx pre W'))

set_option maxRecDepth 100000 in
set_option maxHeartbeats 2000000 in
theorem match1_in (F : Fence) (n : Nat) (h6 : F.fn 78) (hro : F.round = none) (hn : 1 ≤ n) (l Bp Ba B N : Nat) (β : Int × Int → Nat) (es : List PE) (a0 : Option Addr) (cp : Nat) (x y : Value) (k : Int × Int) (J Jx : List Nat → World → Prop)
    (hY : ∀ pre b W, J pre W → pre.length < 4 → YieldAt F (n - 1) Tryd.prog l #[.pointer (some ⟨b, 0, none⟩)] W fun e W' =>
      (e = .returned (.bool true) ∧ J (pre ++ [b]) W' ∧ KeepN N W W') ∨ (e = .returned (.bool false) ∧ Jx (pre ++ [b]) W'))
    (hl4 : es.length ≤ 4) (W : World) (hM : ∀ W', KeepN N W W' → MatAt Bp Ba B β es (.slice a0 es.length cp) x y k W') (h0 : J [] W) (hdrew : ∀ pre W, J pre W → J pre W.drew) :
    CallsIn F n Tryd.prog 78 #[.func (.yield l) #[] #[], .pointer (some ⟨Bp, 0, none⟩), .pointer (some ⟨Ba, 0, none⟩)] W (MatPost (mts β es k es.length) J Jx) := by
  have HM := Lib.hid hM; clear hM
  have hM0 := HM.out W (fun _ _ => rfl)
  have c0 := hM0.cp
  have c1 := cell_of_heap hM0.blk 0
  clear hM0
  have hmx : Tryd.prog.follows .mixedOrders = true := by kernel_rfl
  refine callsIn_of_wp Tryd.func78 rfl h6 ?_ hro
  simp only [Tryd.ntmps78, List.size_toArray, List.length_cons, List.length_nil, Nat.reduceAdd, Nat.reduceSub, Array.replicate_succ, Array.replicate_zero, List.push_toArray, List.append_toArray, List.nil_append, List.cons_append]
  refine wpIn_scope_straight ?_
  refine wpIn_seq_k (fun K hK => ?_)
  refine wpIn_label ?_
  refine hK _ _ ?_
  clear hK K
  gi_wp2
  gi_loopw [11] (fun i wr => ∃ j : Nat, j ≤ es.length ∧ i = .int .i64 j ∧ KeepN N W wr ∧ J (mts β es k j) wr)
    (fun i _ => es.length - (intOf i).toNat)
  case atStart => exact ⟨0, Nat.zero_le _, rfl, fun _ _ => rfl, h0⟩
  case round =>
    clear c0 c1 h0
    obtain ⟨j, hj, rfl, hk, hJ⟩ := hrel
    by_cases hlt : j < es.length
    · obtain ⟨e, he⟩ : ∃ e, es[j]? = some e := ⟨_, List.getElem?_eq_getElem hlt⟩
      have hM := HM.out wr hk
      obtain ⟨g, hg⟩ := slice_shape hM.own (by omega)
      subst hg
      have hc := own_src hM.own j (ptrTo β e.key) (by simp [he])
      simp only [Addr.add_mid, Nat.zero_add] at hc
      have hmem := List.mem_of_getElem? he
      have hb := hM.ent e hmem
      have e0 := cell_of_heap hb 0
      have e1 := cell_of_heap hb 1
      have a0 := cell_of_heap hM.ca 0
      have a1 := cell_of_heap hM.ca 1
      have hlt1 : (j : Int) < (es.length : Int) := by omega
      by_cases hkey : e.key = k
      · have Hy := Lib.hid (mts_yes β es k j e he hkey)
        have heq := addr_eq e.l e.r k.1 k.2
        rw [show decide ((e.l, e.r) = (k.1, k.2)) = true from decide_eq_true hkey] at heq
        have hle := mts_le β es k j
        obtain ⟨fn, tmps, assign, body, hy, hR⟩ := hY (mts β es k j) (β e.key) wr.drew (hdrew _ _ hJ) (by omega)
        have Hp := Lib.hid (mts_prefix β es k (j + 1))
        have Hk := Lib.hid hk
        have hdr := Lib.hid hdrew
        clear hM hmem hb hkey he HM hk hY hdrew
        gi_wp2
        gi_region_with (first | (refine hR.mono ?_; rintro e3 W3 h3; obtain ⟨bb, rfl, hbb⟩ := yield_cases h3) | (refine ⟨fun _ h => (by cases h), ?_⟩))
        all_goals clear hR hy
        all_goals
          cases bb with
          | true =>
            have hJ3 := hbb.out.1 rfl
            have HJ3 := Lib.hid hJ3.1
            have HK3 := Lib.hid hJ3.2
            clear hJ3 hbb
            gi_wp2
            go_roundw
            case rel => exact ⟨j + 1, by omega, by go_num, Hk.out.t (fun b hb => HK3.out b hb), by rw [Hy.out]; exact HJ3.out⟩
            case measure => simp [intOf]; omega
          | false =>
            have HJ3 := Lib.hid (hbb.out.2 rfl)
            clear hbb
            gi_wp2
            try rw [Exit.noGoto_normal]
            go_end0
            refine ⟨⟨_, rfl⟩, .inr ⟨_, ?_, HJ3.out⟩⟩
            rw [← Hy.out]
            exact Hp.out
      · have Hn := Lib.hid (mts_no β es k j e he hkey)
        have hne : decide ((e.l, e.r) = (k.1, k.2)) = false := decide_eq_false hkey
        have heq := addr_eq e.l e.r k.1 k.2
        rw [hne] at heq
        have Hd := Lib.hid (hdrew _ _ hJ)
        have Hk := Lib.hid hk
        clear hM hmem hb hkey hne he HM hdrew hk hY
        gi_wp2
        gi_region_with (refine ⟨fun _ h => (by cases h), ?_⟩)
        all_goals gi_wp2
        all_goals
          go_roundw
          case rel => exact ⟨j + 1, by omega, by go_num, Hk.out, by rw [Hn.out]; exact Hd.out⟩
          case measure => simp [intOf]; omega
    · obtain rfl : j = es.length := by omega
      gi_wp2
      try rw [Exit.noGoto_normal]
      go_end0
      exact ⟨⟨_, rfl⟩, .inl ⟨_, rfl, hJ⟩⟩

end Go.Proofs.YtmdfpknhfkgfoaaDoor
