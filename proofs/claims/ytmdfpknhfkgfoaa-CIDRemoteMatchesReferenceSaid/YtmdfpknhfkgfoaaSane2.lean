/- The contract of law02's sane. -/
import Derived.Test.YtmdfpknhfkgfoaaRun
import Derived.Test.YtmdfpknhfkgfoaaBytes
import Derived.Test.YtmdfpknhfkgfoaaPlain3
namespace Go.Proofs.Ytmdfpknhfkgfoaa
open Go.RowKit

theorem made_str {n B base : Nat} {W : World} (h : W.ownsRow base 5 1 (.slice (some ⟨B, 0, none⟩) n n) n (madeCells (Value.int .u8 0).cells (n * 1)).toList) :
    ∃ z : ByteArray, Hid (z.size = n) ∧ (convert 30 9 (.slice (some ⟨B, 0, none⟩) n n)).run Try.prog W = .ok (.string z) W := by
  rw [made_bytes] at h
  refine ⟨⟨(List.replicate n 0).toArray⟩, ?_, ?_⟩
  · show ByteArray.size _ = n
    simp [ByteArray.size]
  · have h' : W.ownsRow base 5 1 (.slice (some ⟨B, 0, none⟩) n n) (List.replicate n (0 : UInt8)).length (byteVals (List.replicate n 0)) := by simpa using h
    exact conv_own h'

theorem len_data (y : ByteArray) : y.data.toList.length = y.size := Array.length_toList

theorem below_then {w w1 w2 : World} (h : Below w.heap.size w w1) (k : Below w1.heap.size w1 w2) : Below w.heap.size w w2 := h.trans (k.mono h.size)

def TrueBelow (w : World) (e : Ending) (w' : World) : Prop := e = .returned (.bool true) ∧ Below w.heap.size w w'

set_option maxRecDepth 100000 in
set_option maxHeartbeats 800000 in
theorem sane2_any (w : World) : Calls Try.prog 13 #[] w (TrueBelow w) := by
  obtain ⟨i0, hi, hz0, hz1, hz2⟩ := info_parts info_u8
  have b2 : i0.bytes * 16 ≤ 281474976710656 := by rw [hz2]; omega
  have b3 : 16 ≤ maxLen := by unfold maxLen; omega
  go_enter Try.func13, Try.ntmps13
  go_wp2_with (at_make; refine wpList_make_full _ rfl _ _ 30 rfl w.heap.size 5 i0 (.int .u8 0) 1 Try.underlying30 hi hz0 hz1 .i64 .i64 16 16 16 rfl rfl rfl rfl b2 b3 (Nat.le_refl _) ?_; intro w1 hown hgrow; obtain ⟨z, hz16, hcv⟩ := made_str hown; have hz8 : 16 ≤ z.size := Nat.le_of_eq hz16.out.symm)
  have hb1 : Below w.heap.size w w1 := (Below.refl _ _).grown hgrow (Nat.le_refl _) (by simp)
  clear hown hgrow hcv hi hz0 hz1 hz2 b2 b3
  obtain ⟨y, hy⟩ : ∃ y : ByteArray, y = z.extract 0 8 := ⟨_, rfl⟩
  have hy8 : Hid (y.size = 8) := by rw [hy, ByteArray.size_extract]; show _ = _; omega
  have Hy := Lib.hid hy; clear hy
  rw [← Hy.out]
  refine (encrypt_yes z y _ hz16.out hy8.out).mono ?_
  rintro e w2 ⟨rfl, hb2⟩
  obtain ⟨a, ha⟩ : ∃ a : ByteArray, a = ⟨(crypt ordE z.data.toList y.data.toList).toArray⟩ := ⟨_, rfl⟩
  rw [← ha]
  have ha8 : Hid (a.size = 8) := by rw [ha]; show _ = _; simp [ByteArray.size, crypt_length]
  have Ha := Lib.hid ha; clear ha
  go_wp2_with (fail)
  refine (decrypt_yes z a _ hz16.out ha8.out).mono ?_
  rintro e w3 ⟨rfl, hb3⟩
  have hback : (⟨(crypt ordD z.data.toList a.data.toList).toArray⟩ : ByteArray) = y := by
    rw [Ha.out]
    show (⟨(crypt ordD z.data.toList (crypt ordE z.data.toList y.data.toList)).toArray⟩ : ByteArray) = y
    rw [dec_enc _ _ ((len_data y).trans hy8.out)]
  rw [hback]
  clear hback
  go_wp2_with (fail)
  refine (encrypt_no _ _ _ (.inl (by decide))).mono ?_
  rintro e w4 ⟨rfl, hb4⟩
  go_wp2_with (fail)
  refine (decrypt_no _ _ _ (.inr (by decide))).mono ?_
  rintro e w5 ⟨rfl, hb5⟩
  have h1 : ((a.size : Int) == 8) = true := by rw [ha8.out]; rfl
  have h2 : (y.toList == (z.extract 0 8).toList) = true := by rw [Hy.out]; simp
  go_wp2
  go_ret
  exact ⟨rfl, below_then (below_then (below_then (below_then hb1 hb2) hb3) hb4) hb5⟩

end Go.Proofs.Ytmdfpknhfkgfoaa
