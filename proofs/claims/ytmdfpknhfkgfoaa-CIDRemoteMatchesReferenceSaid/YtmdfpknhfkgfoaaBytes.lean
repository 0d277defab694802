/- The contracts of the laws' helpers pick and Bytes. -/
import Derived.Test.YtmdfpknhfkgfoaaColl
import Derived.Test.YtmdfpknhfkgfoaaLaws
import Derived.IntWalk
import Derived.StillTailTactics
namespace Go.Proofs.Ytmdfpknhfkgfoaa
open Go.RowKit

/-- What pick gives. -/
def pickN (c : Int) (n : Nat) : Nat := ((if c < 0 then -(c + 1) else c) % (n : Int)).toNat

theorem pickN_lt (c : Int) (n : Nat) (h : 0 < n) : pickN c n < n := by
  unfold pickN
  have := Int.emod_lt_of_pos (if c < 0 then -(c + 1) else c) (show (0 : Int) < n by omega)
  have := Int.emod_nonneg (if c < 0 then -(c + 1) else c) (show (n : Int) ≠ 0 by omega)
  omega

set_option maxHeartbeats 400000 in
theorem pick2_any (c : Int) (n : Nat) (w : World) (h0 : 0 < n) (h1 : n ≤ 10000000000) (hlo : -9223372036854775808 ≤ c) (hhi : c ≤ 9223372036854775807) :
    Calls Try.prog 19 #[.int .i64 c, .int .i64 n] w fun e w' => e = .returned (.int .i64 (pickN c n : Nat)) ∧ w = w' := by
  have hv : ((pickN c n : Nat) : Int) = (if c < 0 then -(c + 1) else c) % (n : Int) := by
    unfold pickN
    exact Int.toNat_of_nonneg (Int.emod_nonneg _ (by omega))
  by_cases hc : c < 0
  · rw [if_pos hc, ← Int.tmod_eq_emod_of_nonneg (by omega), Int.neg_tmod] at hv
    have Hv := Lib.hid hv; clear hv
    go_enter Try.func19, Try.ntmps19
    go_wp2
    go_ret
    exact ⟨congrArg (fun z : Int => Ending.returned (.int .i64 z)) Hv.out.symm, rfl⟩
  · rw [if_neg hc] at hv
    have Hv := Lib.hid hv; clear hv
    go_enter Try.func19, Try.ntmps19
    go_wp2
    go_ret
    exact ⟨congrArg (fun z : Int => Ending.returned (.int .i64 z)) Hv.out.symm, rfl⟩

theorem byteVals_set (l : List UInt8) (j : Nat) (b : UInt8) : byteVals (l.set j b) = (byteVals l).set j (.int .u8 (b.toNat : Int)) := by
  simp [byteVals, List.map_set]

theorem made_bytes (n : Nat) : (madeCells (Value.int .u8 0).cells (n * 1)).toList = byteVals (List.replicate n 0) := by
  rw [show (Value.int .u8 0).cells = #[.int .u8 0] from rfl, toList_madeCells_one]
  simp [byteVals]

/-- A value of a byte's kind is a byte's. -/
theorem u8_is (z : Int) (h0 : 0 ≤ z) (h1 : z < 256) : ∃ b : UInt8, z = (b.toNat : Int) := by
  refine ⟨UInt8.ofNat z.toNat, ?_⟩
  simp
  omega

/-- Some string of n bytes. -/
def SomeStr (n : Nat) (w : World) (e : Ending) (w' : World) : Prop := ∃ l : List UInt8, l.length = n ∧ e = .returned (.string ⟨l.toArray⟩) ∧ Below w.heap.size w w'

structure RowInv (n B : Nat) (l : List UInt8) (w wr : World) : Prop where
  len : l.length = n
  own : wr.ownsRow w.heap.size 5 1 (.slice (some ⟨B, 0, none⟩) n n) n (byteVals l)
  below : Below w.heap.size w wr

theorem RowInv.cell {n B : Nat} {l : List UInt8} {w wr : World} (h : RowInv n B l w wr) (j : Nat) (hj : j < n) : wr.cell? ⟨B, j, none⟩ = some (.int .u8 ((l[j]'(by rw [h.len]; exact hj)).toNat : Int)) := by
  rw [h.own.cellAt j (by omega)]
  have := h.len
  simp [byteVals, show j < l.length by omega]

theorem RowInv.free {n B : Nat} {l : List UInt8} {w wr : World} (h : RowInv n B l w wr) (j : Nat) : wr.frozen? ⟨B, j, none⟩ = false := h.own.frozenAt j

theorem RowInv.set {n B : Nat} {l : List UInt8} {w wr : World} (h : RowInv n B l w wr) (j : Nat) (b : UInt8) : RowInv n B (l.set j b) w (wr.setCell ⟨B, j, none⟩ (.int .u8 (b.toNat : Int))) := by
  have hB : w.heap.size ≤ B := (h.own.lt B rfl).1
  refine ⟨by rw [List.length_set]; exact h.len, ?_, h.below.setCell hB _⟩
  rw [byteVals_set]
  exact (h.own.stored j _).1

theorem RowInv.drew {n B : Nat} {l : List UInt8} {w wr : World} (h : RowInv n B l w wr) : RowInv n B l w wr.drew := ⟨h.len, h.own, h.below.drew⟩

theorem RowInv.conv {n B : Nat} {l : List UInt8} {w wr : World} (h : RowInv n B l w wr) : (convert 30 9 (.slice (some ⟨B, 0, none⟩) n n)).run Try.prog wr = .ok (.string ⟨l.toArray⟩) wr := by
  have h1 := h.own
  have h2 := h.len
  subst h2
  exact conv_own h1

set_option maxRecDepth 100000 in
set_option maxHeartbeats 400000 in
theorem bytes_any (s : ByteArray) (n : Nat) (w : World) (hs : s.size ≤ maxLen) (h1 : 1 ≤ n) (hn : n ≤ 64) :
    Calls Try.prog 14 #[.string s, .int .i64 n] w (SomeStr n w) := by
  unfold maxLen at hs
  obtain ⟨i0, hi, hz0, hz1, hz2⟩ := info_parts info_u8
  have b2 : i0.bytes * n ≤ 281474976710656 := by rw [hz2]; omega
  have b3 : n ≤ maxLen := by unfold maxLen; omega
  go_enter Try.func14, Try.ntmps14
  go_wp2_with (at_make; refine wpList_make_full _ rfl _ _ 30 rfl w.heap.size 5 i0 (.int .u8 0) 1 Try.underlying30 hi hz0 hz1 .i64 .i64 n n n rfl rfl rfl rfl b2 b3 (Nat.le_refl _) ?_; intro w1 hown hgrow)
  rw [made_bytes] at hown
  have H0 : Hid (RowInv n w.heap.size (List.replicate n 0) w w1) := ⟨by simp, hown, (Below.refl _ _).grown hgrow (Nat.le_refl _) (by simp)⟩
  clear hown hgrow b2 b3 hi hz0 hz1 hz2
  go_loopw [6] (fun i wr => ∃ (j : Nat) (l : List UInt8), j ≤ n ∧ i = .int .i64 j ∧ Hid (RowInv n w.heap.size l w wr)) (fun i _ => n - (intOf i).toNat)
  case atStart => exact ⟨0, _, Nat.zero_le _, rfl, H0⟩
  case round =>
    clear H0
    obtain ⟨j, l, hj, rfl, HI⟩ := hrel
    by_cases hlt : j < n
    · have hc := HI.out.cell j hlt
      have hf := HI.out.free j
      obtain ⟨b, hmul⟩ := u8_is ((j : Int) * 31 % 256) (by omega) (by omega)
      have HI2 := Lib.hid (HI.out.set j b)
      by_cases hs0 : 0 < s.size
      · have hne1 : ¬ s.size = 0 := by omega
        obtain ⟨m, hm, hml⟩ : ∃ m : Nat, (j : Int).tmod (s.size : Int) = (m : Int) ∧ m < s.size := ⟨j % s.size, by rw [Int.tmod_eq_emod_of_nonneg (by omega)]; simp, Nat.mod_lt _ hs0⟩
        obtain ⟨q, hq, hql⟩ : ∃ q : Nat, (j : Int).tdiv (s.size : Int) = (q : Int) ∧ q ≤ j := ⟨j / s.size, by rw [Int.tdiv_eq_ediv_of_nonneg (by omega)]; simp, Nat.div_le_self _ _⟩
        go_wp2
        go_still_tail 15, (by kernel_rfl)
        change wpList _ _ _ _ _ (World.drew (wr.setCell ⟨w.heap.size, j, none⟩ (.int .u8 (b.toNat : Int))))
        have HI3 := Lib.hid HI2.out.drew
        have hc3 := HI3.out.cell j hlt
        have hf3 := HI3.out.free j
        generalize World.drew (wr.setCell ⟨w.heap.size, j, none⟩ (.int .u8 (b.toNat : Int))) = W3 at *
        clear HI2 HI hc hf
        go_wp2
        obtain ⟨b2, hb2⟩ := u8_is (((s[m].toNat : Int) + (q : Int)) % 256) (by omega) (by omega)
        go_roundw
        case rel => exact ⟨j + 1, l.set j b |>.set j b2, by omega, by go_num, by rw [hb2]; exact HI3.out.set j b2⟩
        case measure => simp [intOf]; omega
      · go_wp2
        go_roundw
        case rel => exact ⟨j + 1, _, by omega, by go_num, HI2⟩
        case measure => simp [intOf]; omega
    · obtain rfl : j = n := by omega
      have hcv := HI.out.conv
      go_wp2
      go_ret
      exact ⟨l, HI.out.len, rfl, HI.out.below⟩

end Go.Proofs.Ytmdfpknhfkgfoaa
