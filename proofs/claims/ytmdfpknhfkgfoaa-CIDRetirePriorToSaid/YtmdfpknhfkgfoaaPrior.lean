/- Plain facts for CIDRetirePriorTo. -/
import Derived.Test.YtmdfpknhfkgfoaaSane7
namespace Go.Proofs.Ytmdfpknhfkgfoaa
open Go.RowKit Go.Shelf

abbrev sZ : ByteArray := ⟨#[122, 122, 122, 122, 122, 122, 122, 122]⟩
/-- The i-th ID of the law. -/
def idX (i : Nat) : ByteArray := ⟨#[UInt8.ofNat (97 + i), 120, 120, 120, 120, 120, 120, 120]⟩
def remP : Nat → Rem
  | 0 => newRem sA
  | i + 1 => ((remP i).add (i + 1) 0 (idX (i + 1))).2

set_option maxRecDepth 100000 in
theorem remP_yes : ∀ i : Fin 3, ((remP i.val).add (i.val + 1) 0 (idX (i.val + 1))).1 = 0 ∧ (remP i.val).ent.fits (i.val + 1) (idX (i.val + 1)) = true := by decide
set_option maxRecDepth 100000 in
theorem remP_small : ∀ i : Fin 4, (remP i.val).ent.bound < 32 ∧ (remP i.val).left.length + 32 ≤ 1000000 ∧ (hits ((remP i.val).ent.isIn 1) 32).length = i.val := by decide

/-- The Remote behind the last frame. -/
def remQ (n s : Nat) : Rem := ((remP n).add s s sZ).2
set_option maxRecDepth 100000 in
theorem remQ_yes : ∀ n : Fin 4, ∀ s : Fin 32, n.val < s.val → ((remP n.val).add s.val s.val sZ).1 = 0 ∧ (remP n.val).ent.fits s.val sZ = true ∧ (remQ n.val s.val).left = List.range (n.val + 1) ∧
    (remQ n.val s.val).ent.cur = sZ ∧ hits ((remQ n.val s.val).ent.isIn 1) 32 = [] := by decide

end Go.Proofs.Ytmdfpknhfkgfoaa
