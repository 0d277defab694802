/- The contract of cipher.words. -/
import Derived.Test.YtmdfpknhfkgfoaaVar
import Derived.Maps.AppendAt
namespace Go.Proofs.Ytmdfpknhfkgfoaa
open Go.RowKit

theorem info_u32 : (Try.prog.info? 105).map (fun i => (i.zero, i.size, i.bytes)) = some (some (.int .u32 0), 1, 4) := by kernel_rfl

theorem readWord_any (s : ByteArray) (j : Nat) (z : Int) (w : World) (hz : z = (4 * j : Nat)) (h : 4 * j + 4 ≤ s.size) (hs : s.size ≤ maxLen) :
    Calls Try.prog 48 #[.string s, .int .i64 z, .int .i64 4] w fun e w' => e = .returned (.tuple #[.int .i64 (word s.data.toList j : Nat), .int .i64 0]) ∧ w = w' := by
  subst hz
  exact readUint_any s (4 * j) 4 w h hs (by decide) (by decide) (Nat.le_trans (Nat.le_of_lt (word_lt s.data.toList j)) (by decide))

def WordsPost (s : ByteArray) (c : Nat) (w : World) (e : Ending) (w' : World) : Prop :=
  ∃ v, e = .returned v ∧ w'.ownsRow w.heap.size 105 1 v c (wordVals s.data.toList c) ∧ Below w.heap.size w w'

set_option maxRecDepth 100000 in
set_option maxHeartbeats 400000 in
theorem words_any (s : ByteArray) (c : Nat) (w : World) (h : 4 * c ≤ s.size) (hs : s.size ≤ maxLen) (hc : c ≤ 4) :
    Calls Try.prog 75 #[.string s, .int .i64 c] w (WordsPost s c w) := by
  have hs' := hs
  unfold maxLen at hs
  obtain ⟨i0, hi, hz0, hz1, hz2⟩ := info_parts info_u32
  have b2 : i0.bytes * c ≤ 281474976710656 := by rw [hz2]; omega
  have b3 : c ≤ maxLen := by unfold maxLen; omega
  go_enter Try.func75, Try.ntmps75
  go_wp2_with (at_make; refine wpList_make_own _ rfl _ _ 118 rfl w.heap.size 105 i0 (.int .u32 0) 1 Try.underlying118 hi hz0 hz1 .i64 .i64 c c rfl rfl rfl b2 b3 (Nat.le_refl _) ?_; intro w1 hown hgrow)
  have hb1 : Below w.heap.size w w1 := (Below.refl _ _).grown hgrow (Nat.le_refl _) (by simp)
  clear hgrow b2 b3
  go_loopw [5, 6, 7, 8, 12] (fun out _ _ _ k wr => ∃ j : Nat, j ≤ c ∧ k = .int .i64 j ∧ wr.ownsRow w.heap.size 105 1 out j (wordVals s.data.toList j) ∧ Below w.heap.size w wr) (fun _ _ _ _ k _ => c - (intOf k).toNat)
  case atStart => exact ⟨0, Nat.zero_le _, rfl, hown, hb1⟩
  case round =>
    clear hown hb1
    obtain ⟨j, hj, rfl, hown, hb⟩ := hrel
    by_cases hlt : j < c
    · have hw : word s.data.toList j ≤ 4294967295 := by have := word_lt s.data.toList j; omega
      have hbs := hb.size
      go_wp2_with fail
      refine (readWord_any s j _ _ (by omega) (by omega) hs').mono ?_
      rintro e w' ⟨rfl, rfl⟩
      go_wp2_with (at_builtin; refine wpList_append_own _ rfl _ _ 118 rfl w.heap.size 105 i0 (.int .u32 0) 1 4 Try.underlying118 hi hz0 hz1 hz2 rfl (by decide) _ _ _ rfl (hown.alloc _) ⟨wr.heap.size, 0, none⟩ 1 1 [.int .u32 (word s.data.toList j : Nat)] rfl rfl (cell_one_new _ _ _) (by simp [Value.oneCell']) (by unfold maxLen; omega) (by omega) (by simp; omega) ?_; intro v' w1 hown' hgrow _)
      go_roundw
      case rel =>
        refine ⟨j + 1, by omega, by go_num, ?_, ?_⟩
        · rw [wordVals_succ]; exact hown'
        · exact (hb.alloc hbs _).grown hgrow (by simp; omega) (fun k hk => (hown.lt k hk).1)
      case measure => simp [intOf]; omega
    · obtain rfl : j = c := by omega
      go_wp2
      go_ret
      exact ⟨_, rfl, hown, hb⟩

end Go.Proofs.Ytmdfpknhfkgfoaa
