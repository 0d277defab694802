/- Contracts of law07's pick and of law03's KeyFrom. -/
import Derived.Test.YtmdfpknhfkgfoaaDoorAdd3
namespace Go.Proofs.YtmdfpknhfkgfoaaDoor
open Go.RowKit Go.Shelf

/-- The j-th byte of a key. -/
def keyB (s : ByteArray) (j : Nat) : UInt8 := if 0 < s.size then UInt8.ofNat (17 * j) ^^^ s.data.toList.getD (j % s.size) 0 else UInt8.ofNat (17 * j)
def keyFrom (s : ByteArray) : ByteArray := ⟨((List.range 16).map (keyB s)).toArray⟩
theorem keyFrom_size (s : ByteArray) : (keyFrom s).size = 16 := by simp [keyFrom, ByteArray.size]

theorem keyB_one (s : ByteArray) (l : List UInt8) (j : Nat) (b : UInt8) (hj : j < l.length) (h : ∀ k, k < j → l[k]? = some (keyB s k)) (hb : keyB s j = b) : ∀ k, k < j + 1 → (l.set j b)[k]? = some (keyB s k) := by
  intro k hk
  by_cases e : k = j
  · subst e; rw [List.getElem?_set_self hj, hb]
  · rw [List.getElem?_set_ne (fun h => e h.symm)]; exact h k (by omega)
theorem keyB_step (s : ByteArray) (l : List UInt8) (j : Nat) (b b2 : UInt8) (hj : j < l.length) (h : ∀ k, k < j → l[k]? = some (keyB s k)) (hb : keyB s j = b2) : ∀ k, k < j + 1 → ((l.set j b).set j b2)[k]? = some (keyB s k) := by
  rw [List.set_set]; exact keyB_one s l j b2 hj h hb
theorem key_all (s : ByteArray) (l : List UInt8) (hl : l.length = 16) (h : ∀ k, k < 16 → l[k]? = some (keyB s k)) : (⟨l.toArray⟩ : ByteArray) = keyFrom s := by
  unfold keyFrom
  congr 2
  apply List.ext_getElem?
  intro k
  by_cases hk : k < 16
  · rw [h k hk]; simp [hk]
  · rw [List.getElem?_eq_none (by omega), List.getElem?_eq_none (by simp; omega)]

theorem xor_u8 (a b : UInt8) : bits .xor .u8 (a.toNat : Int) (b.toNat : Int) = ((a ^^^ b).toNat : Int) := by
  have ha := a.toNat_lt
  have hb := b.toNat_lt
  rw [u8_xor_nat _ _ ha hb, UInt8.toNat_xor]

end Go.Proofs.YtmdfpknhfkgfoaaDoor
