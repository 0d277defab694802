/- The contract of cipher.state's method text. -/
import Derived.Test.YtmdfpknhfkgfoaaFwd
import Derived.Test.YtmdfpknhfkgfoaaColl
namespace Go.Proofs.Ytmdfpknhfkgfoaa
open Go.RowKit

def StrPost (l : List UInt8) (w : World) (e : Ending) (w' : World) : Prop := e = .returned (.string ⟨l.toArray⟩) ∧ Below w.heap.size w w'

theorem bytes_append (a b : List UInt8) : (⟨a.toArray⟩ : ByteArray) ++ ⟨b.toArray⟩ = ⟨(a ++ b).toArray⟩ := by
  apply ByteArray.ext; simp

set_option maxRecDepth 100000 in
set_option maxHeartbeats 400000 in
theorem text_any (l r : Nat) (w : World) (hl : l < 4294967296) (hr : r < 4294967296) :
    Calls Try.prog 70 #[sv l r] w (StrPost (ube 4 l ++ ube 4 r) w) := by
  go_enter Try.func70, Try.ntmps70
  go_wp2_with (fail)
  refine (uint_any 4 l _ (by decide) (by decide) hl (Nat.le_trans (Nat.le_of_lt hl) (by decide))).mono ?_
  rintro e w1 ⟨rfl, hb1⟩
  have hz1 : w.heap.size < w1.heap.size := by have := hb1.size; simp at this; omega
  have hc1 : w1.cell? ⟨w.heap.size, 1, none⟩ = some (.int .u32 r) := (hb1.cell (p := ⟨w.heap.size, 1, none⟩) (by simp)).trans (by simp [go_sem])
  go_wp2_with (fail)
  refine (uint_any 4 r _ (by decide) (by decide) hr (Nat.le_trans (Nat.le_of_lt hr) (by decide))).mono ?_
  rintro e w2 ⟨rfl, hb2⟩
  go_wp2
  go_ret
  refine ⟨congrArg (fun s => Ending.returned (.string s)) (bytes_append _ _), ?_⟩
  refine Below.trans ?_ (hb2.mono (Nat.le_of_lt hz1))
  refine Below.trans ?_ (hb1.mono (by simp))
  exact (Below.refl _ _).alloc (Nat.le_refl _) _

end Go.Proofs.Ytmdfpknhfkgfoaa
