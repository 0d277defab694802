/- cid.Remote: its cells, and the iterator over the IDs in a state. -/
import Derived.RangeFuncBox
import Derived.RangeFuncLeaves
import Derived.RangeFuncNested
import Derived.Shelf.Abstract
import Derived.WalkKit
import Derived.OwnWalkIn
import Derived.TacticsInMore
import Derived.LoopNIn
import Derived.LoopIn
import Derived.Maps.AppendAt
import Derived.Deep.MidRow
import Derived.Test.YtmdfpknhfkgfoaaLoc3
import Derived.Test.YtmdfpknhfkgfoaaApp
namespace Go.Proofs.Ytmdfpknhfkgfoaa
open Go.RowKit Go.Shelf

attribute [local go_sem] Oper.semAt_some

structure Ent where
  ids : Nat → ByteArray
  st : Nat → Nat
  bound : Nat

def Ent.at (E : Ent) (j : Nat) : Value := if j < 32 then .string (E.ids j) else if j < 64 then .int .i64 (E.st (j - 32)) else .int .i64 E.bound

theorem Ent.at_id (E : Ent) (j : Nat) (h : j < 32) : E.at j = .string (E.ids j) := by unfold Ent.at; rw [if_pos h]
theorem Ent.at_st (E : Ent) (j : Nat) (h : j < 32) : E.at (32 + j) = .int .i64 (E.st j) := by unfold Ent.at; rw [if_neg (by omega), if_pos (by omega), show 32 + j - 32 = j by omega]
theorem Ent.at_bound (E : Ent) : E.at 64 = .int .i64 E.bound := by simp [Ent.at]

/-- The sequence numbers below k that pass a test. -/
def hits (p : Nat → Bool) : Nat → List (Fin 32)
  | 0 => []
  | k + 1 => if h : k < 32 then (if p k then hits p k ++ [⟨k, h⟩] else hits p k) else hits p k

theorem hits_yes (p : Nat → Bool) (k : Nat) (h : k < 32) (hp : p k = true) : hits p (k + 1) = hits p k ++ [⟨k, h⟩] := by simp [hits, h, hp]
theorem hits_no (p : Nat → Bool) (k : Nat) (hp : p k = false) : hits p (k + 1) = hits p k := by simp [hits, hp]
theorem hits_prefix1 (p : Nat → Bool) (k : Nat) : hits p k <+: hits p (k + 1) := by
  by_cases h : k < 32
  · cases hp : p k
    · rw [hits_no p k hp]; exact List.prefix_rfl
    · rw [hits_yes p k h hp]; exact List.prefix_append _ _
  · simp [hits, h]
theorem hits_prefix (p : Nat → Bool) (k : Nat) : ∀ m, hits p k <+: hits p (k + m)
  | 0 => List.prefix_rfl
  | m + 1 => (hits_prefix p k m).trans (hits_prefix1 p (k + m))
theorem hits_le (p : Nat → Bool) : ∀ k, (hits p k).length ≤ k
  | 0 => Nat.le_refl _
  | k + 1 => by
    have := hits_le p k
    unfold hits
    split
    · split
      · rw [List.length_append]; simp; omega
      · omega
    · omega

theorem run_index_ints (f : Nat → Value) (j : Nat) (hj : j < 32) (w : World) : (Instr.index 80 (.agg (rowOf 32 f)) (.int .i64 (j : Int))).run Try.prog w = .ok (f j) w := by
  simp [Instr.index, run_underlying Try.underlying80, asIntOf, part]
  rw [if_pos hj, rowOf_get _ _ _ hj]
  rfl

/-- A part of a block, as a range. -/
theorem Blk.range {B k : Nat} {f : Nat → Value} {t : TypeId} {w : World} (h : Blk B k f t w) (o m : Nat) (hm : o + m ≤ k) : w.rangeAt B o ((List.range m).map fun j => f (o + j)) := by
  intro j v hv
  have hj : j < m := by have := (List.getElem?_eq_some_iff.1 hv).1; simpa using this
  rw [h.cell (o + j) (by omega)]
  simpa [hj] using hv

/-- A row or struct out of the middle of a block, inside a fence. -/
theorem wpListIn_load_mid {F : Fence} {n : Nat} {P : Program} {ops : Array Oper} {rest : List Oper} {op : Oper} {a : Act} {w : World} {Q : Exit → Act → World → Prop} (hgd : op.guard = none) (ty : TypeId) (x : Operand) (ho : op.op = .load ty x)
    (b o : Nat) (hx : a.eval x = .pointer (some ⟨b, o, none⟩)) (cs : List Value) (d : TypeDesc) (hc : w.rangeAt b o cs)
    (hu : P.underlying ty = some d) (hd : d.isRow = true) (hi : (P.info? ty).map (·.size) = some cs.length)
    (h : wpListIn F n P ops Q rest (a.put op.dst (.agg cs.toArray)) w) : wpListIn F n P ops Q (op :: rest) a w := by
  refine wpListIn_plain hgd fun K hK => ?_
  unfold Oper.wpIn
  refine ⟨?_, ?_⟩
  · simp [Oper.about, ho]
  · rw [Oper.semAt_plain F _ _ (by rw [ho]; intro c hc'; cases hc')]
    simp only [execOp, ho, hx, Instr.loadAt, Instr.sureAddr, Sem.run_bind, Sem.run_pure, Result.andThen_ok, run_loadVar_mid w b o ty cs d hc hu hd hi]
    exact hK _ _ h

theorem size_ints : (Try.prog.info? 80).map (·.size) = some 32 := by kernel_rfl

/-- A block stays as it is. -/
def KeepB (b : Nat) (W W' : World) : Prop := W'.heap[b]? = W.heap[b]?
theorem KeepB.t {b : Nat} {A B C : World} (h : KeepB b A B) (k : KeepB b B C) : KeepB b A C := k.trans h
theorem KeepB.b {b : Nat} {w : World} (hb : b < w.heap.size) (W : World) (l : Nat) (o o' : Obj) (hl : w.heap.size ≤ l) (_ : W.heap[l]? = some o) (_ : o.isCells = false) (_ : o.isWalk = false) : KeepB b W (W.putObj l o') :=
  World.putObj_heap_other (fun e => by subst e; exact absurd hb (Nat.not_lt.2 hl))
theorem KeepB.cell {b : Nat} {A B : World} (h : KeepB b A B) (j : Nat) : B.cell? ⟨b, j, none⟩ = A.cell? ⟨b, j, none⟩ := World.cell?_of_block (a := ⟨b, j, none⟩) h
theorem KeepB.refl (b : Nat) (W : World) : KeepB b W W := rfl
theorem KeepB.setCell (b : Nat) (W : World) (c j : Nat) (v : Value) (h : b ≠ c) : KeepB b W (W.setCell ⟨c, j, none⟩ v) := Below.heap_setCell W _ _ _ h

/-- Is ID j in state s? -/
def Ent.isIn (E : Ent) (s : Nat) (j : Nat) : Bool := E.st j == s

set_option maxRecDepth 100000 in
set_option maxHeartbeats 1000000 in
theorem in1_in (F : Fence) (n : Nat) (h6 : F.fn 72) (hro : F.round = none) (hn : 1 ≤ n) (l Be Bs B o s K : Nat) (f : Nat → Value) (tB : TypeId) (E : Ent) (J Jx : List (Fin 32) → World → Prop)
    (hY : ∀ pre x W, J pre W → pre.length < 32 → YieldAt F (n - 1) Try.prog l #[.int .i64 (x.val : Int)] W fun e W' =>
      (e = .returned (.bool true) ∧ J (pre ++ [x]) W' ∧ KeepB Bs W W') ∨ (e = .returned (.bool false) ∧ Jx (pre ++ [x]) W'))
    (W : World) (hBe : W.cell? ⟨Be, 0, none⟩ = some (.pointer (some ⟨B, o, none⟩))) (hBs : W.cell? ⟨Bs, 0, none⟩ = some (.int .i64 s)) (hB : Blk B K f tB W) (hK : o + 64 ≤ K) (hf : ∀ j, j < 32 → f (o + 32 + j) = .int .i64 (E.st j)) (h0 : J [] W) :
    CallsIn F n Try.prog 72 #[.func (.yield l) #[] #[], .pointer (some ⟨Be, 0, none⟩), .pointer (some ⟨Bs, 0, none⟩)] W fun e W' => (∃ v, e = .returned v) ∧
      ((∃ ys, ys = hits (E.isIn s) 32 ∧ J ys W') ∨ (∃ pre, pre <+: hits (E.isIn s) 32 ∧ Jx pre W')) := by
  have hrow : ((List.range 32).map fun j => f (o + 32 + j)).toArray = rowOf 32 (fun j => .int .i64 (E.st j)) := rowOf_congr (f := fun j => f (o + 32 + j)) hf
  have Hrow := Lib.hid hrow; clear hrow
  have HB := Lib.hid hB; clear hB
  have hrg := Lib.hid (HB.out.range (o + 32) 32 (by omega))
  refine callsIn_of_wp Try.func72 rfl h6 ?_ hro
  simp only [Try.ntmps72, List.size_toArray, List.length_cons, List.length_nil, Nat.reduceAdd, Nat.reduceSub, Array.replicate_succ, Array.replicate_zero, List.push_toArray, List.append_toArray, List.nil_append, List.cons_append]
  gi_wp2_with (refine wpListIn_load_mid rfl 80 (.tmp 8) rfl B (o + 32) rfl _ _ hrg.out Try.underlying80 rfl (by simpa using size_ints) ?_; rw [Hrow.out])
  clear Hrow hrg
  gi_loopw [10] (fun i wr => ∃ j : Nat, j ≤ 32 ∧ i = .int .i64 j ∧ wr.cell? ⟨Bs, 0, none⟩ = some (.int .i64 s) ∧ J (hits (E.isIn s) j) wr)
    (fun i _ => 32 - (intOf i).toNat)
  case atStart => exact ⟨0, Nat.zero_le _, rfl, hBs, h0⟩
  case round =>
    clear hBe hBs h0 HB hf
    obtain ⟨j, hj, rfl, hcs, hJs⟩ := hrel
    by_cases hlt : j < 32
    · have hidx := run_index_ints (fun j => .int .i64 (E.st j)) j hlt
      cases hin : E.isIn s j with
      | true =>
        have hlen := hits_le (E.isIn s) j
        have Hy := Lib.hid (hits_yes (E.isIn s) j hlt hin)
        have heq : ((E.st j : Int) == (s : Int)) = true := by unfold Ent.isIn at hin; have := beq_iff_eq.1 hin; rw [this]; simp
        clear hin
        obtain ⟨fn, tmps, assign, body, hy, hR⟩ := hY (hits (E.isIn s) j) ⟨j, hlt⟩ wr hJs (by omega)
        dsimp only at hy
        have Hp := Lib.hid (hits_prefix (E.isIn s) (j + 1) (32 - (j + 1)))
        gi_wp2
        refine hR.mono ?_
        rintro e W3 (⟨rfl, hJ3, hk3⟩ | ⟨rfl, hJx3⟩)
        · have hcs3 : W3.cell? ⟨Bs, 0, none⟩ = some (.int .i64 s) := (hk3.cell 0).trans hcs
          gi_wp2
          go_roundw
          case rel => exact ⟨j + 1, by omega, by go_num, hcs3, by rw [Hy.out]; exact hJ3⟩
          case measure => simp [intOf]; omega
        · gi_wp2
          refine bodyPost_ret (results_none rfl _ _ _) rfl ?_
          have hp := Hp.out
          rw [show j + 1 + (32 - (j + 1)) = 32 by omega, Hy.out] at hp
          exact ⟨⟨_, rfl⟩, .inr ⟨_, hp, hJx3⟩⟩
      | false =>
        have Hy := Lib.hid (hits_no (E.isIn s) j hin)
        have heq : ((E.st j : Int) == (s : Int)) = false := by unfold Ent.isIn at hin; have := beq_eq_false_iff_ne.1 hin; rw [beq_eq_false_iff_ne]; omega
        clear hin
        gi_wp2
        refine ⟨fun _ h => (by cases h), ?_⟩
        gi_wp2
        go_roundw
        case rel => exact ⟨j + 1, by omega, by go_num, hcs, by rw [Hy.out]; exact hJs⟩
        case measure => simp [intOf]; omega
    · obtain rfl : j = 32 := by omega
      gi_wp2
      go_end0
      exact ⟨⟨_, rfl⟩, .inl ⟨_, rfl, hJs⟩⟩

set_option maxRecDepth 100000 in
set_option maxHeartbeats 400000 in
theorem in_any (v : Value) (s : Nat) (w : World) (hv : ∃ a, v = .pointer a) :
    Calls Try.prog 56 #[v, .int .i64 s] w fun e w' => e = .returned (.func (.func 72) #[] #[.pointer (some ⟨w.heap.size, 0, none⟩), .pointer (some ⟨w.heap.size + 1, 0, none⟩)]) ∧ (w.alloc (.cells #[v] 116)).alloc (.cells #[.int .i64 s] 3) = w' := by
  obtain ⟨a, rfl⟩ := hv
  have hmf : ∀ (fn : Fn) (first cap : Array Value) (w : World), (Instr.makeFunc fn first cap).run Try.prog w = .ok (.func fn first cap) w := fun _ _ _ _ => rfl
  go_enter Try.func56, Try.ntmps56
  go_wp2
  go_ret
  exact ⟨rfl, rfl⟩

/-- The iterator as a sequence. -/
theorem in_stops (F : Fence) (n : Nat) (h6 : F.fn 72) (hro : F.round = none) (hn : 1 ≤ n) (Be Bs B o s K : Nat) (f : Nat → Value) (tB : TypeId) (E : Ent) (w : World) (hbs : Bs < w.heap.size) (hbe : Be < w.heap.size)
    (hBe : w.cell? ⟨Be, 0, none⟩ = some (.pointer (some ⟨B, o, none⟩))) (hBs : w.cell? ⟨Bs, 0, none⟩ = some (.int .i64 s)) (hB : Blk B K f tB w) (hK : o + 64 ≤ K) (hf : ∀ j, j < 32 → f (o + 32 + j) = .int .i64 (E.st j)) :
    SeqStopsK F n Try.prog 72 #[.pointer (some ⟨Be, 0, none⟩), .pointer (some ⟨Bs, 0, none⟩)] (fun x : Fin 32 => #[Value.int .i64 (x.val : Int)]) (KeepB Bs) (fun ys => ys = hits (E.isIn s) 32) (fun pre => pre <+: hits (E.isIn s) 32) 32 w := fun l J Jx W hW _ _ hY h0 =>
  in1_in F n h6 hro hn l Be Bs B o s K f tB E J Jx hY W ((hW.cell (p := ⟨Be, 0, none⟩) hbe).trans hBe) ((hW.cell (p := ⟨Bs, 0, none⟩) hbs).trans hBs) (hB.below hW hB.lt) hK hf h0

end Go.Proofs.Ytmdfpknhfkgfoaa
