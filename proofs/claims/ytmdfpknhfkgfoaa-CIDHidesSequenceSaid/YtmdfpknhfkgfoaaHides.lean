/- The walk of CIDHidesSequence. -/
import Derived.Test.YtmdfpknhfkgfoaaSane7
namespace Go.Proofs.Ytmdfpknhfkgfoaa
open Go.RowKit Go.Shelf

theorem IsLoc.congr {B : Nat} {L L' : Loc} {w : World} (h : IsLoc B L w) (hk : L.key = L'.key) (hn : L.n = L'.n) (ha : ∀ j, j < 32 → L.act j = L'.act j) : IsLoc B L' w := by
  refine ⟨h.blk.congr (fun j hj => ?_), by rw [← hn]; exact h.le, by rw [← hk]; exact h.key⟩
  unfold Loc.at
  rw [hk, hn]
  split
  · rfl
  · split
    · rw [ha (j - 32) (by omega)]
    · rfl

/-- The Local with j IDs issued, all but the first retired. -/
def locH (key : ByteArray) (j : Nat) : Loc := { key := key, n := j, act := fun i => i == 0 }

theorem locH_actives (key : ByteArray) : ∀ j, ((locH key (j + 1)).actives (locH key (j + 1)).n).length = 1 := by
  intro j
  show ((locH key (j + 1)).actives (j + 1)).length = 1
  unfold Loc.actives
  rw [List.length_map]
  show ((List.range (j + 1)).filter (fun i => i == 0)).length = 1
  induction j with
  | zero => rfl
  | succ j ih =>
    rw [List.range_succ, List.filter_append, List.length_append, ih]
    simp

set_option maxRecDepth 100000 in
set_option maxHeartbeats 2000000 in
theorem hides_any (key : ByteArray) (w : World) (hs : key.size ≤ maxLen) : Calls Try.prog 12 #[.string key] w (TrueBelow w) := by
  have Hs := Lib.hid hs; clear hs
  go_enter Try.func12, Try.ntmps12
  go_wp2_with (fail)
  refine (sane7 w).mono ?_
  rintro e w0 ⟨rfl, hb0⟩
  go_wp2_with (fail)
  refine (keyFrom_any key w0 Hs.out).mono ?_
  rintro e w1 ⟨rfl, hb1⟩
  have hks := Lib.hid (keyFrom_size key)
  generalize keyFrom key = k at *
  go_wp2_with (fail)
  refine (newLocal_yes k w1 hks.out).mono ?_
  rintro e w2 ⟨B, rfl, hL, hB, hb2⟩
  have HL : Hid (IsLoc B (locH k 1) w2) := hL.congr rfl rfl (fun j _ => by
    show (if j = 0 then true else false) = (j == 0)
    by_cases h : j = 0 <;> simp [h])
  have HB : Hid (Below w.heap.size w w2) := below_then (below_then hb0 hb1) hb2
  have hBw : w.heap.size ≤ B := Nat.le_trans (below_then hb0 hb1).size hB
  clear hL hb0 hb1 hb2 hB
  go_wp2
  go_loopw [6] (fun i wr => ∃ j : Nat, 1 ≤ j ∧ j ≤ 32 ∧ i = .int .i64 j ∧ Hid (IsLoc B (locH k j) wr) ∧ Hid (Below w.heap.size w wr)) (fun i _ => 32 - (intOf i).toNat)
  case atStart => exact ⟨1, Nat.le_refl _, by decide, rfl, HL, HB⟩
  case round =>
    clear HL HB
    obtain ⟨j, hj1, hj, rfl, HL, HB⟩ := hrel
    by_cases hlt : j < 32
    · have hlt1 : (j : Int) < 32 := by omega
      go_wp2_with (fail)
      have hact : ((locH k j).actives (locH k j).n).length = 1 := by
        obtain ⟨m, rfl⟩ : ∃ m, j = m + 1 := ⟨j - 1, by omega⟩
        exact locH_actives k m
      refine (issue_yes B (locH k j) wr HL.out (by show j < 32; exact hlt) (by rw [hact]; decide)).mono ?_
      rintro e w3 ⟨rfl, hL3, hO3⟩
      have HL3 := Lib.hid (hL3.alloc (.cells (frameC 24 j 0 (idB k j)) 42))
      have HB3 : Hid (Below w.heap.size w (w3.alloc (.cells (frameC 24 j 0 (idB k j)) 42))) := below_alloc (hO3.keeps.below HB.out (fun i e => by rw [e]; exact hBw) HB.out.size) _
      have HF3 := Lib.hid (heap_alloc_new w3 (.cells (frameC 24 j 0 (idB k j)) 42))
      have hBl := hL3.blk.lt
      clear hL3 hO3 HL HB hact
      go_wp2_with (fail)
      refine (decrypt_yes k (idB k j) _ hks.out (idB_size k j)).mono ?_
      rintro e w4 ⟨rfl, hb4⟩
      rw [idB_back]
      have HL4 := Lib.hid (HL3.out.below hb4)
      have HB4 := Lib.hid (below_then HB3.out hb4)
      have HF4 := Lib.hid (heap_below HF3.out hb4)
      have HU : Hid ((⟨(ube 8 j).toArray⟩ : ByteArray).data.toList = ube 8 j) := by show _ = _; simp
      generalize (⟨(ube 8 j).toArray⟩ : ByteArray) = u at *
      clear HL3 HB3 HF3 hb4
      go_wp2_with (fail)
      have hus : u.size = 8 := by rw [← len_data, HU.out, ube_length]
      have hbe : be ((u.data.toList.drop 0).take 8) = j := by
        rw [HU.out, List.drop_zero, List.take_of_length_le (by rw [ube_length]; exact Nat.le_refl _), be_ube 8 j (Nat.lt_of_lt_of_le hlt (by decide))]
      refine (readUint_any u 0 8 w4 (by omega) (by rw [hus]; decide) (by decide) (by decide) (by rw [hbe]; omega)).mono ?_
      rintro e w' ⟨rfl, rfl⟩
      rw [hbe]
      clear hbe hus HU
      have f10 := cell_of_heap HF4.out 10
      have f12 := cell_of_heap HF4.out 12
      go_wp2_with (fail)
      refine (owns_loop B (locH k j).add (idB k j) j _ HL4.out (by show j ≤ j + 1; omega) (fun i hi h => by
        have h1 := h.2
        have := idB_inj k i j (by omega) (by omega) h1
        omega) (.inr ⟨by show j < j + 1; omega, by show (if j = j then true else _) = true; rw [if_pos rfl], rfl⟩)).mono ?_
      rintro e w' ⟨rfl, rfl⟩
      rw [if_pos (show j < (locH k j).add.n from Nat.lt_succ_self j), decide_eq_true (show j < (locH k j).add.n from Nat.lt_succ_self j)]
      go_wp2_with (fail)
      refine (retire_yes B j (locH k j).add w4 HL4.out (Nat.lt_succ_self j)).mono ?_
      rintro e w5 ⟨rfl, hL5, hO5⟩
      have HL5 : Hid (IsLoc B (locH k (j + 1)) w5) := hL5.congr rfl rfl (fun i _ => by
        show (if i = j then false else if i = j then true else (i == 0)) = (i == 0)
        by_cases h : i = j
        · rw [if_pos h]; symm; rw [beq_eq_false_iff_ne]; omega
        · rw [if_neg h, if_neg h])
      have HB5 := Lib.hid (hO5.keeps.below HB4.out (fun i e => by rw [e]; exact hBw) HB4.out.size)
      have HF5 := Lib.hid (heap_keeps HF4.out hO5.keeps (by omega))
      clear hL5 hO5 HL4 HB4 HF4 f10 f12
      have f12 := cell_of_heap HF5.out 12
      go_wp2_with (fail)
      refine (owns_loop B (locH k (j + 1)) (idB k j) (j + 1) _ HL5.out (Nat.le_refl _) (fun i hi h => by
        have h0 : (i == 0) = true := h.1
        have h1 := h.2
        have := idB_inj k i j (by omega) (by omega) h1
        have := beq_iff_eq.1 h0
        omega) (.inl rfl)).mono ?_
      rintro e w' ⟨rfl, rfl⟩
      rw [if_neg (show ¬ (j + 1 < (locH k (j + 1)).n) from Nat.lt_irrefl _), decide_eq_false (show ¬ (j + 1 < (locH k (j + 1)).n) from Nat.lt_irrefl _)]
      go_wp2
      go_roundw
      case rel => exact ⟨j + 1, by omega, by omega, by go_num, HL5, HB5⟩
      case measure => simp [intOf]; omega
    · obtain rfl : j = 32 := by omega
      go_wp2_with (fail)
      refine (issue_full B (locH k 32) wr HL.out rfl).mono ?_
      rintro e w3 ⟨rfl, hL3, hO3⟩
      have HL3 := Lib.hid (hL3.alloc (.cells (frameC 0 0 0 ⟨#[]⟩) 42))
      have HB3 : Hid (Below w.heap.size w (w3.alloc (.cells (frameC 0 0 0 ⟨#[]⟩) 42))) := below_alloc (hO3.keeps.below HB.out (fun i e => by rw [e]; exact hBw) HB.out.size) _
      clear hL3 hO3 HL HB
      go_wp2_with (fail)
      refine (retire_no B 32 (locH k 32) _ HL3.out (.inr (show ((32 : Nat) : Int) ≤ 32 by decide))).mono ?_
      rintro e w4 ⟨rfl, hL4, hO4⟩
      have HL4 := Lib.hid hL4
      have HB4 := Lib.hid (hO4.keeps.below HB3.out (fun i e => by rw [e]; exact hBw) HB3.out.size)
      clear hL4 hO4 HL3 HB3
      go_wp2_with (fail)
      refine (retire_no B (-1) (locH k 32) _ HL4.out (.inl (by decide))).mono ?_
      rintro e w5 ⟨rfl, hL5, hO5⟩
      have HB5 := Lib.hid (hO5.keeps.below HB4.out (fun i e => by rw [e]; exact hBw) HB4.out.size)
      clear hL5 hO5 HL4 HB4
      go_wp2
      go_ret
      exact ⟨rfl, HB5.out⟩

end Go.Proofs.Ytmdfpknhfkgfoaa
