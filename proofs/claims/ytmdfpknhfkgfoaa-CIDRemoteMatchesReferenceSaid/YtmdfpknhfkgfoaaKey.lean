/- Contracts of law07's pick and of law03's KeyFrom. -/
import Derived.Test.YtmdfpknhfkgfoaaAdd3
namespace Go.Proofs.Ytmdfpknhfkgfoaa
open Go.RowKit Go.Shelf

set_option maxHeartbeats 400000 in
theorem pick7_any (c : Int) (n : Nat) (w : World) (h0 : 0 < n) (h1 : n ≤ 10000000000) (hlo : -9223372036854775808 ≤ c) (hhi : c ≤ 9223372036854775807) :
    Calls Try.prog 40 #[.int .i64 c, .int .i64 n] w fun e w' => e = .returned (.int .i64 (pickN c n : Nat)) ∧ w = w' := by
  have hv : ((pickN c n : Nat) : Int) = (if c < 0 then -(c + 1) else c) % (n : Int) := by
    unfold pickN
    exact Int.toNat_of_nonneg (Int.emod_nonneg _ (by omega))
  by_cases hc : c < 0
  · rw [if_pos hc, ← Int.tmod_eq_emod_of_nonneg (by omega), Int.neg_tmod] at hv
    have Hv := Lib.hid hv; clear hv
    go_enter Try.func40, Try.ntmps40
    go_wp2
    go_ret
    exact ⟨congrArg (fun z : Int => Ending.returned (.int .i64 z)) Hv.out.symm, rfl⟩
  · rw [if_neg hc] at hv
    have Hv := Lib.hid hv; clear hv
    go_enter Try.func40, Try.ntmps40
    go_wp2
    go_ret
    exact ⟨congrArg (fun z : Int => Ending.returned (.int .i64 z)) Hv.out.symm, rfl⟩



/-- The j-th byte of a key. -/
def keyB (s : ByteArray) (j : Nat) : UInt8 := if 0 < s.size then UInt8.ofNat (17 * j) ^^^ s.data.toList.getD (j % s.size) 0 else UInt8.ofNat (17 * j)
def keyFrom (s : ByteArray) : ByteArray := ⟨((List.range 16).map (keyB s)).toArray⟩
theorem keyFrom_size (s : ByteArray) : (keyFrom s).size = 16 := by simp [keyFrom, ByteArray.size]

theorem keyB_one (s : ByteArray) (l : List UInt8) (j : Nat) (b : UInt8) (hj : j < l.length) (h : ∀ k, k < j → l[k]? = some (keyB s k)) (hb : keyB s j = b) : ∀ k, k < j + 1 → (l.set j b)[k]? = some (keyB s k) := by
  intro k hk
  by_cases e : k = j
  · subst e; rw [List.getElem?_set_self hj, hb]
  · rw [List.getElem?_set_ne (fun h => e h.symm)]; exact h k (by omega)
theorem keyB_step (s : ByteArray) (l : List UInt8) (j : Nat) (b b2 : UInt8) (hj : j < l.length) (h : ∀ k, k < j → l[k]? = some (keyB s k)) (hb : keyB s j = b2) : ∀ k, k < j + 1 → ((l.set j b).set j b2)[k]? = some (keyB s k) := by
  rw [List.set_set]; exact keyB_one s l j b2 hj h hb
theorem key_all (s : ByteArray) (l : List UInt8) (hl : l.length = 16) (h : ∀ k, k < 16 → l[k]? = some (keyB s k)) : (⟨l.toArray⟩ : ByteArray) = keyFrom s := by
  unfold keyFrom
  congr 2
  apply List.ext_getElem?
  intro k
  by_cases hk : k < 16
  · rw [h k hk]; simp [hk]
  · rw [List.getElem?_eq_none (by omega), List.getElem?_eq_none (by simp; omega)]

theorem xor_u8 (a b : UInt8) : bits .xor .u8 (a.toNat : Int) (b.toNat : Int) = ((a ^^^ b).toNat : Int) := by
  have ha := a.toNat_lt
  have hb := b.toNat_lt
  rw [u8_xor_nat _ _ ha hb, UInt8.toNat_xor]

set_option maxRecDepth 100000 in
set_option maxHeartbeats 400000 in
theorem keyFrom_any (s : ByteArray) (w : World) (hs : s.size ≤ maxLen) :
    Calls Try.prog 37 #[.string s] w fun e w' => e = .returned (.string (keyFrom s)) ∧ Below w.heap.size w w' := by
  unfold maxLen at hs
  obtain ⟨i0, hi, hz0, hz1, hz2⟩ := info_parts info_u8
  have b2 : i0.bytes * 16 ≤ 281474976710656 := by rw [hz2]; omega
  have b3 : 16 ≤ maxLen := by unfold maxLen; omega
  go_enter Try.func37, Try.ntmps37
  go_wp2_with (at_make; refine wpList_make_full _ rfl _ _ 30 rfl w.heap.size 5 i0 (.int .u8 0) 1 Try.underlying30 hi hz0 hz1 .i64 .i64 16 16 16 rfl rfl rfl rfl b2 b3 (Nat.le_refl _) ?_; intro w1 hown hgrow)
  rw [made_bytes] at hown
  have H0 : Hid (RowInv 16 w.heap.size (List.replicate 16 0) w w1) := ⟨by simp, hown, (Below.refl _ _).grown hgrow (Nat.le_refl _) (by simp)⟩
  clear hown hgrow b2 b3 hi hz0 hz1 hz2
  go_loopw [4] (fun i wr => ∃ (j : Nat) (l : List UInt8), j ≤ 16 ∧ i = .int .i64 j ∧ Hid (RowInv 16 w.heap.size l w wr) ∧ Hid (∀ k, k < j → l[k]? = some (keyB s k))) (fun i _ => 16 - (intOf i).toNat)
  case atStart => exact ⟨0, _, Nat.zero_le _, rfl, H0, fun k hk => absurd hk (Nat.not_lt_zero _)⟩
  case round =>
    clear H0
    obtain ⟨j, l, hj, rfl, HI, HA⟩ := hrel
    by_cases hlt : j < 16
    · have hc := HI.out.cell j hlt
      have hf := HI.out.free j
      obtain ⟨b, hmul⟩ := u8_is ((j : Int) * 17) (by omega) (by omega)
      have Hb := Lib.hid (show UInt8.ofNat (17 * j) = b by
        apply UInt8.toNat_inj.1; have : (UInt8.ofNat (17 * j)).toNat = 17 * j % 256 := rfl; omega)
      have HI2 := Lib.hid (HI.out.set j b)
      by_cases hs0 : 0 < s.size
      · have hne1 : ¬ s.size = 0 := by omega
        obtain ⟨m, hm, hml, hmj⟩ : ∃ m : Nat, (j : Int).tmod (s.size : Int) = (m : Int) ∧ m < s.size ∧ Hid (m = j % s.size) := ⟨j % s.size, by rw [Int.tmod_eq_emod_of_nonneg (by omega)]; simp, Nat.mod_lt _ hs0, rfl⟩
        have hc2 : (wr.setCell ⟨w.heap.size, j, none⟩ (.int .u8 (b.toNat : Int))).cell? ⟨w.heap.size, j, none⟩ = some (.int .u8 (b.toNat : Int)) := World.cell?_setCell_same' _ _ _ (by rw [hc]; rfl)
        have hc2' : (wr.setCell ⟨w.heap.size, j, none⟩ (.int .u8 (b.toNat : Int))).drew.cell? ⟨w.heap.size, j, none⟩ = some (.int .u8 (b.toNat : Int)) := hc2
        go_wp2
        go_region
        go_wp2
        go_roundw
        case rel =>
          refine ⟨j + 1, (l.set j b).set j (b ^^^ s[m]), by omega, by go_num, ?_, ?_⟩
          · rw [xor_u8]; exact (HI2.out.set j (b ^^^ s[m])).drew
          · refine keyB_step s l j b (b ^^^ s[m]) (by have := HI.out.len; omega) HA.out ?_
            unfold keyB
            rw [if_pos hs0, Hb.out, ← hmj.out]
            congr 1
            simp only [List.getD, ByteArray.getElem_eq_getElem_data, Array.getElem?_toList]
            rw [Array.getElem?_eq_getElem (show m < s.data.size from hml)]
            rfl
        case measure => simp [intOf]; omega
      · go_wp2
        go_roundw
        case rel => exact ⟨j + 1, _, by omega, by go_num, HI2, keyB_one s l j b (by have := HI.out.len; omega) HA.out (by unfold keyB; rw [if_neg hs0]; exact Hb.out)⟩
        case measure => simp [intOf]; omega
    · obtain rfl : j = 16 := by omega
      have hcv := HI.out.conv
      go_wp2
      go_ret
      refine ⟨?_, HI.out.below⟩
      rw [key_all s l HI.out.len HA.out]
      rfl

end Go.Proofs.Ytmdfpknhfkgfoaa
