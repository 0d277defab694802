/- The contract of law02's sane. -/
import Derived.Test.YtmdfpknhfkgfoaaDoorRun
import Derived.Test.YtmdfpknhfkgfoaaDoorBytes
import Derived.Test.YtmdfpknhfkgfoaaDoorPlain3
namespace Go.Proofs.YtmdfpknhfkgfoaaDoor
open Go.RowKit

theorem made_str {n B base : Nat} {W : World} (h : W.ownsRow base 5 1 (.slice (some ⟨B, 0, none⟩) n n) n (madeCells (Value.int .u8 0).cells (n * 1)).toList) :
    ∃ z : ByteArray, Hid (z.size = n) ∧ (convert 112 9 (.slice (some ⟨B, 0, none⟩) n n)).run Tryd.prog W = .ok (.string z) W := by
  rw [made_bytes] at h
  refine ⟨⟨(List.replicate n 0).toArray⟩, ?_, ?_⟩
  · show ByteArray.size _ = n
    simp [ByteArray.size]
  · have h' : W.ownsRow base 5 1 (.slice (some ⟨B, 0, none⟩) n n) (List.replicate n (0 : UInt8)).length (byteVals (List.replicate n 0)) := by simpa using h
    exact conv_own h'

theorem len_data (y : ByteArray) : y.data.toList.length = y.size := Array.length_toList

theorem below_then {w w1 w2 : World} (h : Below w.heap.size w w1) (k : Below w1.heap.size w1 w2) : Below w.heap.size w w2 := h.trans (k.mono h.size)

def TrueBelow (w : World) (e : Ending) (w' : World) : Prop := e = .returned (.bool true) ∧ Below w.heap.size w w'

end Go.Proofs.YtmdfpknhfkgfoaaDoor
