/- A block of memory known whole, as a function of the offset. No program in sight. -/
import Derived.Test.YtmdfpknhfkgfoaaLaws
namespace Go.Proofs.Ytmdfpknhfkgfoaa
open Go.RowKit

def rowOf (k : Nat) (f : Nat → Value) : Array Value := ((List.range k).map f).toArray

def Blk (B k : Nat) (f : Nat → Value) (t : TypeId) (w : World) : Prop := w.heap[B]? = some (.cells (rowOf k f) t (0, 0))

def upd (f : Nat → Value) (j : Nat) (v : Value) : Nat → Value := fun i => if i = j then v else f i

theorem rowOf_get (k : Nat) (f : Nat → Value) (j : Nat) (h : j < k) : (rowOf k f)[j]? = some (f j) := by simp [rowOf, h]

theorem rowOf_congr {k : Nat} {f g : Nat → Value} (h : ∀ j, j < k → f j = g j) : rowOf k f = rowOf k g := by
  unfold rowOf
  congr 1
  exact List.map_congr_left fun j hj => h j (List.mem_range.1 hj)

theorem rowOf_set (k : Nat) (f : Nat → Value) (j : Nat) (v : Value) : (rowOf k f).setIfInBounds j v = rowOf k (upd f j v) := by
  apply Array.ext_getElem?
  intro i
  by_cases hi : i < k
  · rw [rowOf_get _ _ _ hi, Array.getElem?_setIfInBounds]
    by_cases e : j = i
    · subst e
      simp [upd, rowOf, hi]
    · rw [if_neg e, rowOf_get _ _ _ hi]
      simp only [upd]
      rw [if_neg (fun h => e h.symm)]
  · rw [Array.getElem?_eq_none (by simp [rowOf]; omega), Array.getElem?_eq_none (by simp [rowOf]; omega)]

theorem Blk.cell {B k : Nat} {f : Nat → Value} {t : TypeId} {w : World} (h : Blk B k f t w) (j : Nat) (hj : j < k) : w.cell? ⟨B, j, none⟩ = some (f j) := by
  rw [cell_of_heap h, rowOf_get _ _ _ hj]

theorem Blk.free {B k : Nat} {f : Nat → Value} {t : TypeId} {w : World} (h : Blk B k f t w) (j : Nat) : w.frozen? ⟨B, j, none⟩ = false := free_of_heap h j

theorem Blk.lt {B k : Nat} {f : Nat → Value} {t : TypeId} {w : World} (h : Blk B k f t w) : B < w.heap.size := (Array.getElem?_eq_some_iff.1 h).1

theorem heap_setCell_at (w : World) (g : Nat) (cs : Array Value) (t : TypeId) (j : Nat) (u : Value) (h : w.heap[g]? = some (.cells cs t (0, 0))) : (w.setCell ⟨g, j, none⟩ u).heap[g]? = some (.cells (cs.setIfInBounds j u) t (0, 0)) := by
  have hlt : g < w.heap.size := (Array.getElem?_eq_some_iff.1 h).1
  have hv : w.heap[g] = .cells cs t (0, 0) := (Array.getElem?_eq_some_iff.1 h).2
  simp [World.setCell, hlt, Array.getElem_modify, hv]

theorem Blk.set {B k : Nat} {f : Nat → Value} {t : TypeId} {w : World} (h : Blk B k f t w) (j : Nat) (v : Value) : Blk B k (upd f j v) t (w.setCell ⟨B, j, none⟩ v) := by
  unfold Blk
  rw [heap_setCell_at _ _ _ _ _ _ h, rowOf_set]

theorem Blk.congr {B k : Nat} {f g : Nat → Value} {t : TypeId} {w : World} (h : Blk B k f t w) (e : ∀ j, j < k → f j = g j) : Blk B k g t w := by
  unfold Blk at *
  rw [h, rowOf_congr e]

theorem Blk.drew {B k : Nat} {f : Nat → Value} {t : TypeId} {w : World} (h : Blk B k f t w) : Blk B k f t w.drew := h

theorem Blk.kept {B k : Nat} {f : Nat → Value} {t : TypeId} {w w' : World} (h : Blk B k f t w) {row : Option Nat} (hg : w.grownBy w' row) (hne : some B ≠ row) : Blk B k f t w' :=
  (hg.block B h.lt hne).trans h

theorem Blk.below {B k : Nat} {f : Nat → Value} {t : TypeId} {w w' : World} (h : Blk B k f t w) {n : Nat} (hb : Below n w w') (hn : B < n) : Blk B k f t w' := (hb.block B hn).trans h

theorem Blk.alloc {B k : Nat} {f : Nat → Value} {t : TypeId} {w : World} (h : Blk B k f t w) (o : Obj) : Blk B k f t (w.alloc o) := (Below.heap_alloc w o B h.lt).trans h

theorem Blk.new (w : World) (k : Nat) (f : Nat → Value) (t : TypeId) : Blk w.heap.size k f t (w.alloc (.cells (rowOf k f) t)) := heap_alloc_new w _

theorem cell_other {w : World} {B i j : Nat} {v : Value} {x : Option Value} (h : w.cell? ⟨B, j, none⟩ = x) (hne : i ≠ j) : (w.setCell ⟨B, i, none⟩ v).cell? ⟨B, j, none⟩ = x := by
  rw [World.cell?_setCell_other]
  · exact h
  · intro e
    injection e with _ e2
    exact hne e2

/-- Only block B has turned; new blocks may have come. -/
def Only (B : Nat) (w w' : World) : Prop := w.grownBy w' (some B)

theorem Only.refl (B : Nat) (w : World) : Only B w w := ⟨rfl, rfl, rfl, Nat.le_refl _, fun _ _ _ => rfl⟩
theorem Only.trans {B : Nat} {a b c : World} (h : Only B a b) (k : Only B b c) : Only B a c :=
  ⟨k.os.trans h.os, k.tape.trans h.tape, k.output.trans h.output, Nat.le_trans h.size k.size, fun i hi hne => (k.block i (Nat.lt_of_lt_of_le hi h.size) hne).trans (h.block i hi hne)⟩
theorem Only.of_below {B : Nat} {a b : World} (h : Below a.heap.size a b) : Only B a b := ⟨h.os, h.tape, h.output, h.size, fun i hi _ => h.block i hi⟩
theorem Only.drew {B : Nat} {a b : World} (h : Only B a b) : Only B a b.drew := ⟨h.os, h.tape, h.output, h.size, h.block⟩
theorem Only.setCell {B : Nat} {a b : World} (h : Only B a b) (j : Nat) (v : Value) : Only B a (b.setCell ⟨B, j, none⟩ v) :=
  ⟨h.os, h.tape, h.output, by simpa using h.size, fun i hi hne => by rw [Below.heap_setCell _ _ _ _ (fun e => hne (by rw [e]))]; exact h.block i hi hne⟩
theorem Only.alloc {B : Nat} {a b : World} (h : Only B a b) (o : Obj) : Only B a (b.alloc o) :=
  ⟨h.os, h.tape, h.output, by have := h.size; simp; omega, fun i hi hne => (Below.heap_alloc b o i (Nat.lt_of_lt_of_le hi h.size)).trans (h.block i hi hne)⟩
/-- A block that is not B stays. -/
theorem Only.below {B n : Nat} {w0 a b : World} (h : Below n w0 a) (k : Only B a b) (hB : n ≤ B) (hn : n ≤ a.heap.size) : Below n w0 b :=
  h.grown k hn (fun i hi => by cases hi; exact hB)
theorem Blk.only {B C k : Nat} {f : Nat → Value} {t : TypeId} {w w' : World} (h : Blk C k f t w) (ho : Only B w w') (hne : C ≠ B) : Blk C k f t w' := h.kept ho (fun e => hne (by injection e))

theorem Only.setNew {B R j : Nat} {a b : World} {v : Value} (h : Only B a b) (hR : a.heap.size ≤ R) : Only B a (b.setCell ⟨R, j, none⟩ v) :=
  ⟨h.os, h.tape, h.output, by simpa using h.size, fun i hi hne => by rw [Below.heap_setCell _ _ _ _ (fun e => by subst e; exact absurd hi (Nat.not_lt.2 hR))]; exact h.block i hi hne⟩
theorem Blk.setOther {B R k j : Nat} {f : Nat → Value} {t : TypeId} {w : World} {v : Value} (h : Blk B k f t w) (hne : B ≠ R) : Blk B k f t (w.setCell ⟨R, j, none⟩ v) :=
  (Below.heap_setCell _ _ _ _ hne).trans h

end Go.Proofs.Ytmdfpknhfkgfoaa
