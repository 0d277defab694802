/- The walk of CIDRemoteMatchesReference. -/
import Derived.Test.YtmdfpknhfkgfoaaRM1
import Derived.Test.YtmdfpknhfkgfoaaSane7
import Derived.Deep.RegionHeld3
import Derived.Deep.MidRow
namespace Go.Proofs.Ytmdfpknhfkgfoaa
open Go.RowKit Go.Shelf

/-- What NewRemote answers. -/
def nrErr (first : ByteArray) : Int := if first.size = 8 then 0 else 70
def NRPost (first : ByteArray) (w : World) (e : Ending) (w' : World) : Prop := ∃ p : Option Addr, e = .returned (.tuple #[.pointer p, .int .i64 (nrErr first)]) ∧ Below w.heap.size w w'
theorem newRemote_any (first : ByteArray) (w : World) : Calls Try.prog 21 #[.string first] w (NRPost first w) := by
  by_cases h : first.size = 8
  · exact (newRemote_yes first w h).mono fun e w' ⟨B, he, _, _, hb⟩ => ⟨_, he.trans (by rw [nrErr, if_pos h]), hb⟩
  · exact (newRemote_no first w h).mono fun e w' ⟨he, hw⟩ => ⟨_, he.trans (by rw [nrErr, if_neg h]), by rw [← hw]; exact Below.refl _ _⟩
theorem rnewRemote_any (first : ByteArray) (w : World) : Calls Try.prog 22 #[.string first] w (NRPost first w) := by
  by_cases h : first.size = 8
  · exact (rnewRemote_yes first w h).mono fun e w' ⟨B, v, he, _, _, _, hb⟩ => ⟨_, he.trans (by rw [nrErr, if_pos h]), hb⟩
  · exact (rnewRemote_no first w h).mono fun e w' ⟨he, hw⟩ => ⟨_, he.trans (by rw [nrErr, if_neg h]), by rw [← hw]; exact Below.refl _ _⟩

theorem size_callp : (Try.prog.info? 44).map (·.size) = some 16 := by kernel_rfl
/-- The call's cells, as a range. -/
theorem range_call {C : Call7} {b o n : Nat} {w W : World} (hb : Below n w W) (hbw : b < n) (h : ∀ k, k < 16 → w.cell? ⟨b, o + k, none⟩ = some (C.at k)) : W.rangeAt b o (callA C).toList := by
  intro k v hv
  have hk : k < 16 := by have := (List.getElem?_eq_some_iff.1 hv).1; simpa using this
  rw [hb.cell (p := ⟨b, o + k, none⟩) hbw, h k hk, ← hv]
  have : k = 0 ∨ k = 1 ∨ k = 2 ∨ k = 3 ∨ k = 4 ∨ k = 5 ∨ k = 6 ∨ k = 7 ∨ k = 8 ∨ k = 9 ∨ k = 10 ∨ k = 11 ∨ k = 12 ∨ k = 13 ∨ k = 14 ∨ k = 15 := by omega
  rcases this with rfl | rfl | rfl | rfl | rfl | rfl | rfl | rfl | rfl | rfl | rfl | rfl | rfl | rfl | rfl | rfl <;> rfl
theorem range_frame {C : Call7} {b o n : Nat} {w W : World} (hb : Below n w W) (hbw : b < n) (h : ∀ k, k < 16 → w.cell? ⟨b, o + k, none⟩ = some (C.at k)) : W.rangeAt b (o + 3) (frmC C).toList := by
  intro k v hv
  have hk : k < 13 := by have := (List.getElem?_eq_some_iff.1 hv).1; simpa using this
  rw [show o + 3 + k = o + (k + 3) by omega, hb.cell (p := ⟨b, o + (k + 3), none⟩) hbw, h (k + 3) (by omega), ← hv]
  have : k = 0 ∨ k = 1 ∨ k = 2 ∨ k = 3 ∨ k = 4 ∨ k = 5 ∨ k = 6 ∨ k = 7 ∨ k = 8 ∨ k = 9 ∨ k = 10 ∨ k = 11 ∨ k = 12 := by omega
  rcases this with rfl | rfl | rfl | rfl | rfl | rfl | rfl | rfl | rfl | rfl | rfl | rfl | rfl <;> rfl

/-- FrameFrom's frame. -/
def ffC (s r : Nat) (cc : ByteArray) : Call7 := { kind := 0, n := 0, other := 0, ty := 24, v := fun k => zeroFrame.getD k undef, seq := s, ret := r, cid := cc }
theorem ffC_agg (s r : Nat) (cc : ByteArray) : frameV 24 (s : Int) (r : Int) cc = .agg (frmC (ffC s r cc)) := rfl
theorem ffC_one (s r : Nat) (cc : ByteArray) : (ffC s r cc).one := by
  intro k h1 h2
  have : k = 1 ∨ k = 2 ∨ k = 3 ∨ k = 4 ∨ k = 5 ∨ k = 6 ∨ k = 7 ∨ k = 8 ∨ k = 9 := by omega
  rcases this with rfl | rfl | rfl | rfl | rfl | rfl | rfl | rfl | rfl <;> rfl

theorem frame13 {W : World} {gx : Nat} {F : Call7} (h : W.heap[gx]? = some (.cells (frmC F) 42 (0, 0))) : W.cell? ⟨gx, 0, none⟩ = some (.int .i64 F.ty) ∧ W.cell? ⟨gx, 1, none⟩ = some (F.v 1) ∧ W.cell? ⟨gx, 2, none⟩ = some (F.v 2) ∧ W.cell? ⟨gx, 3, none⟩ = some (F.v 3) ∧ W.cell? ⟨gx, 4, none⟩ = some (F.v 4) ∧ W.cell? ⟨gx, 5, none⟩ = some (F.v 5) ∧ W.cell? ⟨gx, 6, none⟩ = some (F.v 6) ∧ W.cell? ⟨gx, 7, none⟩ = some (F.v 7) ∧ W.cell? ⟨gx, 8, none⟩ = some (F.v 8) ∧ W.cell? ⟨gx, 9, none⟩ = some (F.v 9) ∧ W.cell? ⟨gx, 10, none⟩ = some (.int .i64 F.seq) ∧ W.cell? ⟨gx, 11, none⟩ = some (.int .i64 F.ret) ∧ W.cell? ⟨gx, 12, none⟩ = some (.string F.cid) :=
  ⟨cell_of_heap h 0, cell_of_heap h 1, cell_of_heap h 2, cell_of_heap h 3, cell_of_heap h 4, cell_of_heap h 5, cell_of_heap h 6, cell_of_heap h 7, cell_of_heap h 8, cell_of_heap h 9, cell_of_heap h 10, cell_of_heap h 11, cell_of_heap h 12⟩
theorem blk_ne {W : World} {B k gx : Nat} {f : Nat → Value} {A : Array Value} (hb : Blk B k f 84 W) (h : W.heap[gx]? = some (.cells A 42 (0, 0))) : gx ≠ B := fun e => by
  have h1 : W.heap[B]? = _ := hb
  rw [← e, h] at h1
  injection h1 with h2
  injection h2 with _ h3
  exact absurd h3 (by decide)
theorem frame_kept {W W' : World} {gx B : Nat} {X X' : RR} {A : Array Value} {v vl : Value} (h : W.heap[gx]? = some (.cells A 42 (0, 0))) (hX : IsRR B X v vl W) (hc : ChgRR B X' v vl W W') : W'.heap[gx]? = some (.cells A 42 (0, 0)) := by
  obtain ⟨_, _, _, _, _, hk⟩ := hc
  refine heap_keeps h hk (fun e => ?_)
  rcases e with e | e | e
  · have h1 := hX.blk
    rw [← e, h] at h1
    injection h1 with h2
    injection h2 with _ h3
    exact absurd h3 (by decide)
  · exact row_type hX.own _ _ h (by decide) e
  · exact row_type hX.lft _ _ h (by decide) e

set_option maxRecDepth 100000 in
set_option maxHeartbeats 6400000 in
theorem remM_any (first : ByteArray) (a : Option Addr) (len cap : Nat) (C : Nat → Call7) (w : World) (hA : ArgCalls a len C w) (hO : ∀ i, i < len → (C i).one) :
    Calls Try.prog 7 #[.string first, .slice a len cap] w (TrueBelow w) := by
  have HA := Lib.hid hA; clear hA
  have HO := Lib.hid hO; clear hO
  go_enter Try.func7, Try.ntmps7
  go_wp2_with (fail)
  refine (sane7 w).mono ?_
  rintro e w0 ⟨rfl, hb0⟩
  go_wp2_with (fail)
  refine (newRemote_any first w0).mono ?_
  rintro e w1 ⟨p1, rfl, hb1⟩
  have HB1 := Lib.hid (below_then hb0 hb1)
  clear hb0 hb1
  go_wp2_with (fail)
  refine (rnewRemote_any first w1).mono ?_
  rintro e w2 ⟨p2, rfl, hb2⟩
  have HB2 := Lib.hid (below_then HB1.out hb2)
  clear hb2 HB1
  generalize nrErr first = z0 at *
  go_wp2_with (fail)
  refine (newRemote_yes sA w2 (by decide)).mono ?_
  rintro e w3 ⟨B, rfl, hR, hB, hb3⟩
  have HR3 := Lib.hid hR
  have hBw : w.heap.size ≤ B := Nat.le_trans HB2.out.size hB
  have HB3 := Lib.hid (below_then HB2.out hb3)
  clear hR hB hb3 HB2
  go_wp2_with (fail)
  refine (rnewRemote_yes sA w3 (by decide)).mono ?_
  rintro e w4 ⟨Br, vr0, rfl, hX, hBr, hvr, hb4⟩
  have hBrw : w.heap.size ≤ Br := Nat.le_trans HB3.out.size hBr
  have HM : Hid (RMAt B Br (newRem sA) (simR (newRem sA) 0) (.slice none 0 0) vr0 (.slice none 0 0) w w4) := by
    have hs3 := HB3.out.size
    refine ⟨HR3.out.below hb4, ?_, fun g hg => by simp [Value.ownBlock] at hg, fun g hg => Nat.le_trans hs3 (hvr g hg), fun g hg => by simp [Value.ownBlock] at hg, fun g hg => by simp [Value.ownBlock] at hg, below_then HB3.out hb4⟩
    rw [simR_new]; exact hX
  have HG := Lib.hid (good_new sA)
  clear hX hBr hvr hb4 HR3 HB3
  have hR0 : (newRem sA).left.length ≤ 0 := Nat.le_refl _
  generalize newRem sA = R0 at *
  go_wp2_with (fail)
  go_loopg [13] 60 (fun g i wr => ∃ (j : Nat) (R : Rem) (c : Nat) (v vr vl : Value), g + j = 60 ∧ i = .int .i64 j ∧ Hid (RMAt B Br R (simR R c) v vr vl w wr) ∧ Hid (Good R.ent c) ∧ R.left.length ≤ 40 * j)
  case atStart => exact ⟨0, R0, 0, _, _, _, rfl, rfl, HM, HG, hR0⟩
  case round =>
    clear HM HG hR0
    obtain ⟨j, R, c, v, vr, vl, hg, rfl, HM, HG, hlf⟩ := hrel
    by_cases hjl : j < len
    · by_cases hj60 : j < 60
      · obtain ⟨hok, b, o, rfl, hbw, hcell⟩ := HA.out j hjl
        have hone := Lib.hid (HO.out j hjl)
        have hc0 := (HM.out.below.cell (p := ⟨b, o + j * 16 + 0, none⟩) hbw).trans (hcell 0 (by decide))
        rw [show (C j).at 0 = .int .u8 (C j).kind from rfl] at hc0
        simp only [Nat.add_zero] at hc0
        have Hcell := Lib.hid hcell; clear hcell
        obtain ⟨q, hq1, hq⟩ : ∃ q : Nat, ((C j).kind : Int).tmod 9 = (q : Int) ∧ q < 9 := ⟨(C j).kind % 9, by rw [Int.tmod_eq_emod_of_nonneg (by omega)]; omega, by omega⟩
        go_upto_block 2 with (fail)
        go_cut [] (fun wx => ∃ (R' : Rem) (c' : Nat) (v' vr' vl' : Value), Hid (RMAt B Br R' (simR R' c') v' vr' vl' w wx) ∧ Hid (Good R'.ent c') ∧ R'.left.length ≤ 40 * (j + 1))
        case first =>
          by_cases hq6 : q = 6
          · have hq6' : ((q : Int) == 6) = true := by rw [hq6]; rfl
            obtain ⟨err, R', c', hG', hl', hA1, hA2⟩ := rot_both R c HG.out (by omega)
            have HA1 := Lib.hid hA1; have HA2 := Lib.hid hA2; have HG' := Lib.hid hG'
            clear hA1 hA2 hG' hc0 hq1 hq6
            go_wp2_with (fail)
            refine (HA1.out B v _ HM.out.rem).mono ?_
            rintro e w5 ⟨rfl, v5, hR5, ho5, hk5⟩
            have HM5 := Lib.hid (HM.out.setRem hBw hR5 ho5 hk5)
            clear hR5 ho5 hk5 HM
            go_wp2_with (fail)
            refine (HA2.out Br vr vl _ HM5.out.ref).mono ?_
            rintro e w6 ⟨rfl, hc6⟩
            obtain ⟨vr6, vl6, h6⟩ := HM5.out.setRef hBrw hc6
            have H6 := Lib.hid h6
            clear h6 hc6 HM5 HA1 HA2
            go_wp2
            go_meet
            exact ⟨R', c', v5, vr6, vl6, H6, HG', by omega⟩
          · have hq6' : ((q : Int) == 6) = false := by rw [beq_eq_false_iff_ne]; omega
            by_cases hq7 : q = 7
            · have hq7' : ((q : Int) == 7) = true := by rw [hq7]; rfl
              clear hc0 hq1 hq6 hq7
              go_wp2_with (fail)
              refine (retired_any B R v _ HM.out.rem).mono ?_
              rintro e w5 ⟨rfl, hR5, hO5⟩
              have row5 := Lib.hid (ownsRow_keeps HM.out.rem.own hO5.keeps (HM.out.rem.blk.ne_row (by decide) HM.out.rem.own))
              have HM5 := Lib.hid (HM.out.setRem hBw hR5 (fun g hg => by simp [Value.ownBlock] at hg) (hO5.keeps.mono (fun _ e => .inl e)))
              clear hR5 hO5 HM
              go_wp2_with (fail)
              refine (rretired_any Br (simR R c) vr vl _ HM5.out.ref).mono ?_
              rintro e w6 ⟨rfl, hX6, hO6⟩
              have row6 := Lib.hid (ownsRow_keeps row5.out hO6.keeps (fun g hg e => row_type row5.out Br _ HM5.out.ref.blk (by decide) (by rw [hg, e])))
              have rowl := Lib.hid (ownsRow_keeps HM5.out.ref.lft hO6.keeps (fun g hg e => row_type HM5.out.ref.lft Br _ HM5.out.ref.blk (by decide) (by rw [hg, e])))
              obtain ⟨vr6, vl6, h6⟩ := HM5.out.setRef hBrw (X' := simR { R with left := [] } c) ⟨vr, .slice none 0 0, hX6, OldOrNew.refl _ _, fun g hg => by simp [Value.ownBlock] at hg, hO6.keeps.mono (fun _ e => .inl e)⟩
              have H6 := Lib.hid h6
              clear h6 hX6 hO6 HM5 row5
              go_wp2_with (fail)
              refine (ints_same 0 0 R.left v vl _ (by omega) row6.out rowl.out).mono ?_
              rintro e w7 ⟨rfl, hb7⟩
              have H7 := Lib.hid (H6.out.of_below hb7)
              clear H6 hb7 row6 rowl
              go_wp2
              go_meet
              exact ⟨{ R with left := [] }, c, _, vr6, vl6, H7, HG, Nat.zero_le _⟩
            · have hq7' : ((q : Int) == 7) = false := by rw [beq_eq_false_iff_ne]; omega
              clear hq6 hq7
              have hrg : wr.rangeAt b (o + j * 16) (callA (C j)).toList := range_call HM.out.below hbw Hcell.out
              have hrg3 : ∀ W, Below w.heap.size w W → W.rangeAt b (o + j * 16 + 3) (frmC (C j)).toList := fun W hb => range_frame hb hbw Hcell.out
              have Hrg3 := Lib.hid hrg3; clear hrg3
              have Hk0 : Hid (∀ W, Below w.heap.size w W → W.cell? ⟨b, o + j * 16, none⟩ = some (.int .u8 (C j).kind)) := fun W hb => by
                have := (hb.cell (p := ⟨b, o + j * 16 + 0, none⟩) hbw).trans (Hcell.out 0 (by decide))
                rw [show (C j).at 0 = .int .u8 (C j).kind from rfl] at this
                simpa only [Nat.add_zero] using this
              go_wp2_with (refine wpList_load_mid rfl 44 (.tmp 60) rfl b (o + j * 16) rfl _ _ hrg Try.underlying44 rfl size_callp ?_)
              refine (frameFrom_any (C j) hok _).mono ?_
              rintro e w5 ⟨s, r, cc, rfl, hs9, hrs, hc8, hb5⟩
              rw [ffC_agg]
              have h1F := Lib.hid (ffC_one s r cc)
              generalize ffC s r cc = F0 at *
              have HM5 := Lib.hid (HM.out.of_below hb5)
              have HX := Lib.hid (heap_alloc_new w5 (.cells zeroFrame 42))
              obtain ⟨gx, hgx⟩ : ∃ gx, w5.heap.size = gx := ⟨_, rfl⟩
              rw [hgx] at HX
              clear hb5 HM hc0 hrg hs9 hrs hc8
              go_upto_region 14 with (refine wpList_store_mid rfl 42 (.tmp 14) (.tmp 62) rfl gx 0 (frmC F0) (by rw [← hgx]; rfl) rfl (by exact frame_there _ _ zeroFrame rfl HX.out) size_frame (frmC_one F0 h1F.out) ?_; have hst := frame_set _ gx zeroFrame (frmC F0) rfl rfl HX.out; generalize World.setCells _ _ _ _ = W7 at hst ⊢)
              have HB7 : Hid (Below w5.heap.size w5 W7) := Only.below ((Below.refl _ w5).alloc (Nat.le_refl _) (.cells zeroFrame 42)) hst.2 (by omega) (by simp)
              have HX7 := Lib.hid hst.1
              have hk0 := Hk0.out W7 (below_then HM5.out.below HB7.out)
              clear hst HX
              go_upto_if 69 with (fail)
              go_cut [] (fun wx => ∃ F : Call7, F.one ∧ Hid (Below w5.heap.size w5 wx) ∧ Hid (wx.heap[gx]? = some (.cells (frmC F) 42 (0, 0))))
              case first =>
                by_cases hq8 : q = 8
                · have hq8' : ((q : Int) == 8) = true := by rw [hq8]; rfl
                  have hr3 := Hrg3.out W7 (below_then HM5.out.below HB7.out)
                  clear hk0 hq1 hq8
                  go_wp2_with (first
                    | (refine wpList_load_mid rfl 42 (.tmp 73) rfl b (o + j * 16 + 3) rfl _ _ hr3 Try.underlying42 rfl size_frame ?_)
                    | (refine wpList_store_mid rfl 42 (.tmp 14) (.tmp 74) rfl gx 0 (frmC (C j)) rfl rfl (by exact frame_there _ _ (frmC F0) rfl HX7.out) size_frame (frmC_one (C j) hone.out) ?_; have hst := frame_set _ gx (frmC F0) (frmC (C j)) rfl rfl HX7.out; generalize World.setCells _ _ _ _ = W8 at hst ⊢))
                  go_meet
                  exact ⟨C j, hone.out, Only.below HB7.out hst.2 (by omega) HB7.out.size, hst.1⟩
                · have hq8' : ((q : Int) == 8) = false := by rw [beq_eq_false_iff_ne]; omega
                  clear hq8
                  go_wp2
                  go_meet
                  exact ⟨F0, h1F.out, HB7, HX7⟩
              case rest =>
                clear HB7 HX7 hk0 hq1 h1F
                obtain ⟨F, hF1, HB7, HX7⟩ := hcut
                clear hF1 Hk0 Hrg3 Hcell hone
                have HM6 := Lib.hid (HM5.out.of_below HB7.out)
                obtain ⟨err, R', c', hG', hl', hA1, hA2⟩ := add_both R c HG.out (by omega) F
                have HA1 := Lib.hid hA1; have HA2 := Lib.hid hA2; have HG' := Lib.hid hG'
                have hS0 : wc.drew.cell? ⟨gx, 0, none⟩ = some (.int .i64 F.ty) ∧ wc.drew.cell? ⟨gx, 1, none⟩ = some (F.v 1) ∧ wc.drew.cell? ⟨gx, 2, none⟩ = some (F.v 2) ∧ wc.drew.cell? ⟨gx, 3, none⟩ = some (F.v 3) ∧ wc.drew.cell? ⟨gx, 4, none⟩ = some (F.v 4) ∧ wc.drew.cell? ⟨gx, 5, none⟩ = some (F.v 5) ∧ wc.drew.cell? ⟨gx, 6, none⟩ = some (F.v 6) ∧ wc.drew.cell? ⟨gx, 7, none⟩ = some (F.v 7) ∧ wc.drew.cell? ⟨gx, 8, none⟩ = some (F.v 8) ∧ wc.drew.cell? ⟨gx, 9, none⟩ = some (F.v 9) ∧ wc.drew.cell? ⟨gx, 10, none⟩ = some (.int .i64 F.seq) ∧ wc.drew.cell? ⟨gx, 11, none⟩ = some (.int .i64 F.ret) ∧ wc.drew.cell? ⟨gx, 12, none⟩ = some (.string F.cid) := frame13 HX7.out
                clear hA1 hA2 hG' HM5
                go_wp2_with (fail)
                go_region_held3 (fun W => W.cell? ⟨gx, 0, none⟩ = some (.int .i64 F.ty) ∧ W.cell? ⟨gx, 1, none⟩ = some (F.v 1) ∧ W.cell? ⟨gx, 2, none⟩ = some (F.v 2) ∧ W.cell? ⟨gx, 3, none⟩ = some (F.v 3) ∧ W.cell? ⟨gx, 4, none⟩ = some (F.v 4) ∧ W.cell? ⟨gx, 5, none⟩ = some (F.v 5) ∧ W.cell? ⟨gx, 6, none⟩ = some (F.v 6) ∧ W.cell? ⟨gx, 7, none⟩ = some (F.v 7) ∧ W.cell? ⟨gx, 8, none⟩ = some (F.v 8) ∧ W.cell? ⟨gx, 9, none⟩ = some (F.v 9) ∧ W.cell? ⟨gx, 10, none⟩ = some (.int .i64 F.seq) ∧ W.cell? ⟨gx, 11, none⟩ = some (.int .i64 F.ret) ∧ W.cell? ⟨gx, 12, none⟩ = some (.string F.cid)) (first | exact hS2 | exact hS1 | exact hS0 | go_keep)
                  (first
                    | (go_at_call 29; refine (HA1.out B v _ HM6.out.drew.rem).mono ?_; rintro e w8 ⟨rfl, v8, hR8, ho8, hk8⟩; have HX8 := Lib.hid (heap_keeps (show wc.drew.heap[gx]? = _ from HX7.out) hk8 (fun e => e.elim (fun e => blk_ne HM6.out.rem.blk HX7.out e) (fun e => row_type HM6.out.rem.own _ _ HX7.out (by decide) e))); have HM8 := Lib.hid (HM6.out.drew.setRem hBw hR8 ho8 hk8); have hS1 := frame13 HX8.out; clear hR8 ho8 hk8)
                    | (go_at_call 30; refine (HA2.out Br vr vl _ HM8.out.ref).mono ?_; rintro e w9 ⟨rfl, hc9⟩; have HX9 := Lib.hid (frame_kept HX8.out HM8.out.ref hc9); obtain ⟨vr9, vl9, h9⟩ := HM8.out.setRef hBrw hc9; have HM9 := Lib.hid h9; have hS2 := frame13 HX9.out; clear h9 hc9))
                go_wp2
                go_meet
                exact ⟨R', c', v8, vr9, vl9, HM9, HG', by omega⟩
        case rest =>
          clear HM HG hc0 hq1 Hcell hone hlf
          obtain ⟨R5, c5, v5, vr5, vl5, HM, HG, hlf⟩ := hcut
          have hcur := Good.curR HG.out
          have hlive := live_simR HG.out
          have hle5 : (simR R5 c5).es.length ≤ 64 := Nat.le_trans (ents_len R5.ent) (by decide)
          go_wp2_with (fail)
          refine (current_any B R5 v5 _ HM.out.rem).mono ?_
          rintro e w7 ⟨rfl, hb7⟩
          have HM7 := Lib.hid (HM.out.of_below hb7)
          clear hb7 HM
          go_wp2_with (fail)
          refine (rcurrent_any Br (simR R5 c5) vr5 vl5 _ HM7.out.ref hle5).mono ?_
          rintro e w8 ⟨rfl, hb8⟩
          have HM8 := Lib.hid (HM7.out.of_below hb8)
          rw [hcur]
          clear hb8 HM7 hcur
          generalize R5.ent.cur = cc
          have hcc : ((cc.toList == cc.toList) : Bool) = true := by simp
          go_wp2_with (fail)
          refine (unused_any B R5 v5 _ HM8.out.rem).mono ?_
          rintro e w9 ⟨rfl, hb9⟩
          have HM9 := Lib.hid (HM8.out.of_below hb9)
          clear hb9 HM8
          go_wp2_with (fail)
          refine (runused_any Br (simR R5 c5) vr5 vl5 _ HM9.out.ref hle5).mono ?_
          rintro e w' ⟨rfl, rfl⟩
          rw [hlive]
          have hnn : (((hits (R5.ent.isIn 1) 32).length + 1 : Nat) : Int) - 1 = ((hits (R5.ent.isIn 1) 32).length : Int) := by omega
          rw [hnn]
          generalize (hits (R5.ent.isIn 1) 32).length = hn at *
          go_wp2
          go_roundg (gk - 1)
          case measure => omega
          case rel => exact ⟨j + 1, R5, c5, v5, vr5, vl5, by omega, by go_num, HM9, HG, hlf⟩
      · go_wp2_with (fail)
        refine (retired_any B R v _ HM.out.rem).mono ?_
        rintro e w5 ⟨rfl, hR5, hO5⟩
        have row5 := Lib.hid (ownsRow_keeps HM.out.rem.own hO5.keeps (HM.out.rem.blk.ne_row (by decide) HM.out.rem.own))
        have HM5 := Lib.hid (HM.out.setRem hBw hR5 (fun g hg => by simp [Value.ownBlock] at hg) (hO5.keeps.mono (fun _ e => .inl e)))
        clear hR5 hO5 HM
        go_wp2_with (fail)
        refine (rretired_any Br (simR R c) vr vl _ HM5.out.ref).mono ?_
        rintro e w6 ⟨rfl, hX6, hO6⟩
        have row6 := Lib.hid (ownsRow_keeps row5.out hO6.keeps (fun g hg e => row_type row5.out Br _ HM5.out.ref.blk (by decide) (by rw [hg, e])))
        have rowl := Lib.hid (ownsRow_keeps HM5.out.ref.lft hO6.keeps (fun g hg e => row_type HM5.out.ref.lft Br _ HM5.out.ref.blk (by decide) (by rw [hg, e])))
        obtain ⟨vr6, vl6, h6⟩ := HM5.out.setRef hBrw (X' := simR { R with left := [] } c) ⟨vr, .slice none 0 0, hX6, OldOrNew.refl _ _, fun g hg => by simp [Value.ownBlock] at hg, hO6.keeps.mono (fun _ e => .inl e)⟩
        have H6 := Lib.hid h6
        clear h6 hX6 hO6 HM5 row5
        go_wp2_with (fail)
        refine (ints_same 0 0 R.left v vl _ (by omega) row6.out rowl.out).mono ?_
        rintro e w7 ⟨rfl, hb7⟩
        have H7 := Lib.hid (H6.out.of_below hb7)
        clear H6 hb7 row6 rowl
        go_wp2
        go_ret
        exact ⟨rfl, H7.out.below⟩
    · go_wp2_with (fail)
      refine (retired_any B R v _ HM.out.rem).mono ?_
      rintro e w5 ⟨rfl, hR5, hO5⟩
      have row5 := Lib.hid (ownsRow_keeps HM.out.rem.own hO5.keeps (HM.out.rem.blk.ne_row (by decide) HM.out.rem.own))
      have HM5 := Lib.hid (HM.out.setRem hBw hR5 (fun g hg => by simp [Value.ownBlock] at hg) (hO5.keeps.mono (fun _ e => .inl e)))
      clear hR5 hO5 HM
      go_wp2_with (fail)
      refine (rretired_any Br (simR R c) vr vl _ HM5.out.ref).mono ?_
      rintro e w6 ⟨rfl, hX6, hO6⟩
      have row6 := Lib.hid (ownsRow_keeps row5.out hO6.keeps (fun g hg e => row_type row5.out Br _ HM5.out.ref.blk (by decide) (by rw [hg, e])))
      have rowl := Lib.hid (ownsRow_keeps HM5.out.ref.lft hO6.keeps (fun g hg e => row_type HM5.out.ref.lft Br _ HM5.out.ref.blk (by decide) (by rw [hg, e])))
      obtain ⟨vr6, vl6, h6⟩ := HM5.out.setRef hBrw (X' := simR { R with left := [] } c) ⟨vr, .slice none 0 0, hX6, OldOrNew.refl _ _, fun g hg => by simp [Value.ownBlock] at hg, hO6.keeps.mono (fun _ e => .inl e)⟩
      have H6 := Lib.hid h6
      clear h6 hX6 hO6 HM5 row5
      go_wp2_with (fail)
      refine (ints_same 0 0 R.left v vl _ (by omega) row6.out rowl.out).mono ?_
      rintro e w7 ⟨rfl, hb7⟩
      have H7 := Lib.hid (H6.out.of_below hb7)
      clear H6 hb7 row6 rowl
      go_wp2
      go_ret
      exact ⟨rfl, H7.out.below⟩

end Go.Proofs.Ytmdfpknhfkgfoaa
