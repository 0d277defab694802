/- The contracts of the laws' helpers pick and Bytes. -/
import Derived.Test.YtmdfpknhfkgfoaaDoorColl
import Derived.Test.YtmdfpknhfkgfoaaDoorLaws
import Derived.IntWalk
import Derived.StillTailTactics
namespace Go.Proofs.YtmdfpknhfkgfoaaDoor
open Go.RowKit

/-- What pick gives. -/
def pickN (c : Int) (n : Nat) : Nat := ((if c < 0 then -(c + 1) else c) % (n : Int)).toNat

theorem pickN_lt (c : Int) (n : Nat) (h : 0 < n) : pickN c n < n := by
  unfold pickN
  have := Int.emod_lt_of_pos (if c < 0 then -(c + 1) else c) (show (0 : Int) < n by omega)
  have := Int.emod_nonneg (if c < 0 then -(c + 1) else c) (show (n : Int) ≠ 0 by omega)
  omega

theorem byteVals_set (l : List UInt8) (j : Nat) (b : UInt8) : byteVals (l.set j b) = (byteVals l).set j (.int .u8 (b.toNat : Int)) := by
  simp [byteVals, List.map_set]

theorem made_bytes (n : Nat) : (madeCells (Value.int .u8 0).cells (n * 1)).toList = byteVals (List.replicate n 0) := by
  rw [show (Value.int .u8 0).cells = #[.int .u8 0] from rfl, toList_madeCells_one]
  simp [byteVals]

/-- A value of a byte's kind is a byte's. -/
theorem u8_is (z : Int) (h0 : 0 ≤ z) (h1 : z < 256) : ∃ b : UInt8, z = (b.toNat : Int) := by
  refine ⟨UInt8.ofNat z.toNat, ?_⟩
  simp
  omega

/-- Some string of n bytes. -/
def SomeStr (n : Nat) (w : World) (e : Ending) (w' : World) : Prop := ∃ l : List UInt8, l.length = n ∧ e = .returned (.string ⟨l.toArray⟩) ∧ Below w.heap.size w w'

structure RowInv (n B : Nat) (l : List UInt8) (w wr : World) : Prop where
  len : l.length = n
  own : wr.ownsRow w.heap.size 5 1 (.slice (some ⟨B, 0, none⟩) n n) n (byteVals l)
  below : Below w.heap.size w wr

theorem RowInv.cell {n B : Nat} {l : List UInt8} {w wr : World} (h : RowInv n B l w wr) (j : Nat) (hj : j < n) : wr.cell? ⟨B, j, none⟩ = some (.int .u8 ((l[j]'(by rw [h.len]; exact hj)).toNat : Int)) := by
  rw [h.own.cellAt j (by omega)]
  have := h.len
  simp [byteVals, show j < l.length by omega]

theorem RowInv.free {n B : Nat} {l : List UInt8} {w wr : World} (h : RowInv n B l w wr) (j : Nat) : wr.frozen? ⟨B, j, none⟩ = false := h.own.frozenAt j

theorem RowInv.set {n B : Nat} {l : List UInt8} {w wr : World} (h : RowInv n B l w wr) (j : Nat) (b : UInt8) : RowInv n B (l.set j b) w (wr.setCell ⟨B, j, none⟩ (.int .u8 (b.toNat : Int))) := by
  have hB : w.heap.size ≤ B := (h.own.lt B rfl).1
  refine ⟨by rw [List.length_set]; exact h.len, ?_, h.below.setCell hB _⟩
  rw [byteVals_set]
  exact (h.own.stored j _).1

theorem RowInv.drew {n B : Nat} {l : List UInt8} {w wr : World} (h : RowInv n B l w wr) : RowInv n B l w wr.drew := ⟨h.len, h.own, h.below.drew⟩

theorem RowInv.conv {n B : Nat} {l : List UInt8} {w wr : World} (h : RowInv n B l w wr) : (convert 112 9 (.slice (some ⟨B, 0, none⟩) n n)).run Tryd.prog wr = .ok (.string ⟨l.toArray⟩) wr := by
  have h1 := h.own
  have h2 := h.len
  subst h2
  exact conv_own h1

end Go.Proofs.YtmdfpknhfkgfoaaDoor
