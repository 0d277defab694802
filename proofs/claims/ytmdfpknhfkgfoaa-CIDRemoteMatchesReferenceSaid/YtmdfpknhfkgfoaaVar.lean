/- Contracts of package varint. -/
import Derived.Test.YtmdfpknhfkgfoaaProg
import Derived.Test.YtmdfpknhfkgfoaaPlain
import Derived.WalkKit
import Derived.WalkSpells
import Derived.WalkLawsBesides
import Derived.Lib.Hide
namespace Go.Proofs.Ytmdfpknhfkgfoaa
open Go.RowKit

set_option maxHeartbeats 400000 in
theorem read_any (s : ByteArray) (a n : Nat) (w : World) (h : a + n ≤ s.size) (hs : s.size ≤ maxLen) (hn : n ≤ 8) :
    Calls Try.prog 66 #[.string s, .int .i64 a, .int .i64 n] w fun e w' => e = .returned (.int .u64 (be ((s.data.toList.drop a).take n) : Nat)) ∧ w = w' := by
  unfold maxLen at hs
  go_enter Try.func66, Try.ntmps66
  go_wp2
  go_loop [7, 8, 10] (fun v u i => ∃ k : Nat, k ≤ n ∧ i = .int .i64 k ∧ v = .int .u64 (be ((s.data.toList.drop a).take k) : Nat)) (fun _ _ i => n - (intOf i).toNat)
  case atStart => exact ⟨0, Nat.zero_le _, rfl, rfl⟩
  case round =>
    obtain ⟨k, hk, rfl, rfl⟩ := hrel
    have hb := be_lt ((s.data.toList.drop a).take k)
    by_cases hlt : k < n
    · go_wp2
      go_round
      case rel =>
        refine ⟨k + 1, by omega, by go_num, ?_⟩
        rw [take_drop_snoc _ _ _ (by simpa using (by omega : a + k < s.size)), be_snoc]
        have hx : be (List.take k (List.drop a s.data.toList)) < 72057594037927936 := by
          refine Nat.lt_of_lt_of_le hb ?_
          have hl : (List.take k (List.drop a s.data.toList)).length ≤ 7 := by simp; omega
          exact Nat.pow_le_pow_right (by decide) hl
        rw [← shl_or _ _ hx]
        rfl
      case measure => simp [intOf]; omega
    · have : k = n := by omega
      subst this
      go_wp2
      go_ret
      exact ⟨rfl, rfl⟩

set_option maxHeartbeats 400000 in
theorem readUint_any (s : ByteArray) (a n : Nat) (w : World) (h : a + n ≤ s.size) (hs : s.size ≤ maxLen) (h1 : 1 ≤ n) (hn : n ≤ 8)
    (hv : be ((s.data.toList.drop a).take n) ≤ 9223372036854775807) :
    Calls Try.prog 48 #[.string s, .int .i64 a, .int .i64 n] w fun e w' => e = .returned (.tuple #[.int .i64 (be ((s.data.toList.drop a).take n) : Nat), .int .i64 0]) ∧ w = w' := by
  have hs' := hs
  unfold maxLen at hs
  generalize hx : be ((s.data.toList.drop a).take n) = x at *
  have Hx := Lib.hid hx; clear hx
  have hd : decide ((9223372036854775807 : Int) < (x : Int)) = false := by simp; omega
  go_enter Try.func48, Try.ntmps48
  go_wp2_with (go_at_call 66; refine (read_any s a n _ h hs' hn).mono ?_; rw [Hx.out]; rintro e w' ⟨rfl, rfl⟩)
  go_ret2
  exact ⟨rfl, rfl⟩

end Go.Proofs.Ytmdfpknhfkgfoaa
