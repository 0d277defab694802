/- The walk of CIDRetirePriorTo. -/
import Derived.Test.YtmdfpknhfkgfoaaPrior
import Derived.Deep.LoopGhost
import Derived.OpenShut
namespace Go.Proofs.Ytmdfpknhfkgfoaa
open Go.RowKit Go.Shelf

theorem idX_size (i : Nat) : (idX i).size = 8 := rfl

theorem conv_idX (W : World) (j : Nat) (h3 : j < 3) :
    (convert 30 9 (.slice (some ⟨W.heap.size, 0, none⟩) 8 8)).run Try.prog (W.alloc (.cells #[.int .u8 (97 + ((j : Int) + 1)), .int .u8 120, .int .u8 120, .int .u8 120, .int .u8 120, .int .u8 120, .int .u8 120, .int .u8 120] 5))
      = .ok (.string (idX (j + 1))) (W.alloc (.cells #[.int .u8 (97 + ((j : Int) + 1)), .int .u8 120, .int .u8 120, .int .u8 120, .int .u8 120, .int .u8 120, .int .u8 120, .int .u8 120] 5)) := by
  refine run_convert_bytes_back _ 30 9 5 _ 8 [UInt8.ofNat (97 + (j + 1)), 120, 120, 120, 120, 120, 120, 120] Try.underlying30 Try.underlying5 Try.underlying9 (fun i hi => ?_)
  match i, hi with
  | 0, _ => simp [go_sem]; omega
  | 1, _ => simp [go_sem]
  | 2, _ => simp [go_sem]
  | 3, _ => simp [go_sem]
  | 4, _ => simp [go_sem]
  | 5, _ => simp [go_sem]
  | 6, _ => simp [go_sem]
  | 7, _ => simp [go_sem]

set_option maxRecDepth 100000 in
set_option maxHeartbeats 2000000 in
theorem prior_any (m q : Nat) (hm : m < 256) (hq : q < 256) (w : World) : Calls Try.prog 8 #[.int .u8 m, .int .u8 q] w (TrueBelow w) := by
  obtain ⟨n, hn1, hn⟩ : ∃ n : Nat, (m : Int).tmod 4 = (n : Int) ∧ n < 4 := ⟨m % 4, by rw [Int.tmod_eq_emod_of_nonneg (by omega)]; omega, by omega⟩
  go_enter Try.func8, Try.ntmps8
  go_wp2_with (fail)
  refine (sane7 w).mono ?_
  rintro e w0 ⟨rfl, hb0⟩
  go_wp2_with (fail)
  refine (newRemote_yes sA w0 (by decide)).mono ?_
  rintro e w1 ⟨B, rfl, hR, hB, hb1⟩
  have HR : Hid (IsRem B (remP 0) (.slice none 0 0) w1) := hR
  have HB : Hid (Below w.heap.size w w1) := below_then hb0 hb1
  have hBw : w.heap.size ≤ B := Nat.le_trans hb0.size hB
  clear hR hb0 hb1 hB
  go_wp2
  clear hn1
  go_loopg [8] 4 (fun g i wr => ∃ (j : Nat) (v : Value), g + j = 4 ∧ j ≤ n ∧ i = .int .i64 ((j : Int) + 1) ∧ Hid (IsRem B (remP j) v wr) ∧ Hid (Below w.heap.size w wr) ∧ (∀ k, v.ownBlock = some k → w.heap.size ≤ k))
  case atStart => exact ⟨0, .slice none 0 0, rfl, Nat.zero_le _, rfl, HR, HB, fun k hk => by simp [Value.ownBlock] at hk⟩
  case round =>
    clear HR HB
    obtain ⟨j, v, hg, hj, rfl, HR, HB, hv⟩ := hrel
    by_cases hlt : j < n
    · have hlt1 : (j : Int) + 1 ≤ n := by omega
      have hj3 : j < 3 := by omega
      have hcv := conv_idX wr j hj3
      obtain ⟨hy1, hy2⟩ := remP_yes ⟨j, hj3⟩
      obtain ⟨hs1, hs2, hs3⟩ := remP_small ⟨j, by omega⟩
      have HY := Lib.hid hy1; clear hy1
      have HS := Lib.hid hs3; clear hs3
      go_wp2_with (fail)
      refine (add_main B (remP j) v _ (HR.out.alloc _) _ _ _ _ _ _ _ _ _ (j + 1) 0 ((j : Int) + 1) 0 rfl rfl (idX (j + 1)) (idX_size _) (Nat.zero_le _) (by omega) hy2 hs1 hs2).mono ?_
      rintro e w2 ⟨he, v2, hR2, ho2, hk2⟩
      obtain rfl : e = .returned (.int .i64 0) := he.trans (congrArg (fun z => Ending.returned (.int .i64 z)) HY.out)
      have HR2 : Hid (IsRem B (remP (j + 1)) v2 w2) := hR2
      have hsz := HB.out.size
      have HB2 := Lib.hid (hk2.below (below_alloc HB.out _) (fun i e => by rcases e with e | e; omega; exact hv i e) (below_alloc HB.out _).size)
      have hv2 : ∀ k, v2.ownBlock = some k → w.heap.size ≤ k := fun k hk => by
        rcases ho2 k hk with e | e
        · exact hv k e
        · simp at e; omega
      clear hR2 ho2 hk2 he hcv HR HB hy2 HS HY
      go_wp2
      go_roundg (gk - 1)
      case measure => omega
      case rel => exact ⟨j + 1, v2, by omega, by omega, by go_num, HR2, HB2, hv2⟩
    · obtain rfl : j = n := by omega
      obtain ⟨r, hr1, hr2⟩ : ∃ r : Nat, (q : Int).tmod (32 - (j : Int) - 1) = (r : Int) ∧ j + 1 + r < 32 := by
        refine ⟨q % (31 - j), ?_, by have := Nat.mod_lt q (show 0 < 31 - j by omega); omega⟩
        rw [show (32 : Int) - (j : Int) - 1 = ((31 - j : Nat) : Int) by omega, Int.tmod_eq_emod_of_nonneg (by omega)]
        rfl
      obtain ⟨hs1, hs2, hs3⟩ := remP_small ⟨j, hn⟩
      have HS := Lib.hid hs3; clear hs3
      obtain ⟨hq1, hq2, hq3, hq4, hq5⟩ := remQ_yes ⟨j, hn⟩ ⟨j + 1 + r, hr2⟩ (by show j < j + 1 + r; omega)
      have HQ1 := Lib.hid hq1
      have HQ3 := Lib.hid hq3
      have HQ4 := Lib.hid hq4
      have HQ5 := Lib.hid hq5
      clear hq1 hq3 hq4 hq5
      go_wp2_with (fail)
      refine (unused_any B (remP j) v wr HR.out).mono ?_
      rintro e w2 ⟨rfl, hb2⟩
      rw [show ((hits ((remP j).ent.isIn 1) 32).length) = j from HS.out]
      have HR2 := Lib.hid (HR.out.below hb2)
      have HB2 := Lib.hid (below_then HB.out hb2)
      clear HR HB hb2 HS
      go_wp2_with (fail)
      refine (add_main B (remP j) v w2 HR2.out _ _ _ _ _ _ _ _ _ (j + 1 + r) (j + 1 + r) ((j : Int) + 1 + (r : Int)) ((j : Int) + 1 + (r : Int)) (by simp) (by simp) sZ rfl (Nat.le_refl _) hr2 hq2 hs1 hs2).mono ?_
      rintro e w3 ⟨he, v3, hR3, ho3, hk3⟩
      obtain rfl : e = .returned (.int .i64 0) := he.trans (congrArg (fun z => Ending.returned (.int .i64 z)) HQ1.out)
      have HR3 : Hid (IsRem B (remQ j (j + 1 + r)) v3 w3) := hR3
      have hsz := HB2.out.size
      have HB3 := Lib.hid (hk3.below HB2.out (fun i e => by rcases e with e | e; omega; exact hv i e) HB2.out.size)
      clear hR3 ho3 hk3 he HR2 HB2 hr1 hq2 hs1 hs2 HQ1
      go_wp2_with (fail)
      refine (retired_any B (remQ j (j + 1 + r)) v3 w3 HR3.out).mono ?_
      rintro e w4 ⟨rfl, hR4, hO4⟩
      have hown := ownsRow_keeps HR3.out.own hO4.keeps (HR3.out.blk.ne_row (by decide) HR3.out.own)
      rw [show (remQ j (j + 1 + r)).left = List.range (j + 1) from HQ3.out, List.length_range] at hown
      obtain ⟨g, cap, rfl⟩ := ownsRow_succ hown
      have HO4 := Lib.hid hown
      have HR4 := Lib.hid hR4
      have HB4 := Lib.hid (hO4.keeps.below HB3.out (fun i e => by omega) HB3.out.size)
      clear hR4 hO4 hown HR3 HB3
      go_wp2_with (fail)
      go_loop [11] (fun i => ∃ t : Nat, t ≤ j + 1 ∧ i = .int .i64 t) (fun i => j + 1 - (intOf i).toNat)
      case atStart => exact ⟨0, Nat.zero_le _, rfl⟩
      case round =>
        obtain ⟨t, ht, rfl⟩ := hrel
        by_cases htl : t < j + 1
        · have hc := own_src HO4.out t (.int .i64 (t : Int)) (by simp [natVals, htl])
          simp only [Addr.add_mid, Nat.zero_add] at hc
          have hle : (t : Int) ≤ (j : Int) := by omega
          go_wp2
          go_round
          case rel => exact ⟨t + 1, by omega, by go_num⟩
          case measure => simp [intOf]; omega
        · have hle : ¬ ((t : Int) ≤ (j : Int)) := by omega
          go_wp2_with (fail)
          refine (current_any B _ _ w4 HR4.out).mono ?_
          rintro e w5 ⟨rfl, hb5⟩
          rw [show ({ ent := (remQ j (j + 1 + r)).ent, left := [] } : Rem).ent.cur = sZ from HQ4.out]
          have HR5 := Lib.hid (HR4.out.below hb5)
          have HB5 := Lib.hid (below_then HB4.out hb5)
          clear hb5 HR4 HB4
          go_wp2_with (fail)
          refine (unused_any B _ _ w5 HR5.out).mono ?_
          rintro e w6 ⟨rfl, hb6⟩
          rw [show hits (({ ent := (remQ j (j + 1 + r)).ent, left := [] } : Rem).ent.isIn 1) 32 = [] from HQ5.out]
          have HR6 := Lib.hid (HR5.out.below hb6)
          have HB6 := Lib.hid (below_then HB5.out hb6)
          clear hb6 HR5 HB5
          go_wp2_with (fail)
          refine (retired_any B _ _ w6 HR6.out).mono ?_
          rintro e w7 ⟨rfl, _, hO7⟩
          have HB7 := Lib.hid (hO7.keeps.below HB6.out (fun i e => by omega) HB6.out.size)
          clear hO7 HR6 HB6
          go_wp2
          go_ret
          exact ⟨rfl, HB7.out⟩

theorem prior_walk (a b : Int) (ha : (Lit.int .u8 a).wf = true) (hb : (Lit.int .u8 b).wf = true) (w : World) : Calls Try.prog 8 #[.int .u8 a, .int .u8 b] w (TrueBelow w) := by
  have h1 := bounds_u8 ha
  have h2 := bounds_u8 hb
  obtain ⟨m, rfl⟩ : ∃ m : Nat, a = m := ⟨a.toNat, by omega⟩
  obtain ⟨q, rfl⟩ : ∃ q : Nat, b = q := ⟨b.toNat, by omega⟩
  exact prior_any m q (by omega) (by omega) w

end Go.Proofs.Ytmdfpknhfkgfoaa
