/- The walk of CIDLocalMatchesReference. -/
import Derived.Test.YtmdfpknhfkgfoaaRef7I
namespace Go.Proofs.Ytmdfpknhfkgfoaa
open Go.RowKit Go.Shelf

/-- What NewLocal answers. -/
def nlErr (key : ByteArray) : Int := if key.size = 16 then 0 else 70
def NLPost (key : ByteArray) (w : World) (e : Ending) (w' : World) : Prop := ∃ p : Option Addr, e = .returned (.tuple #[.pointer p, .int .i64 (nlErr key)]) ∧ Below w.heap.size w w'
theorem newLocal_any (key : ByteArray) (w : World) : Calls Try.prog 35 #[.string key] w (NLPost key w) := by
  by_cases h : key.size = 16
  · exact (newLocal_yes key w h).mono fun e w' ⟨B, he, _, _, hb⟩ => ⟨_, he.trans (by rw [nlErr, if_pos h]), hb⟩
  · exact (newLocal_no key w h).mono fun e w' ⟨he, hw⟩ => ⟨_, he.trans (by rw [nlErr, if_neg h]), by rw [← hw]; exact Below.refl _ _⟩
theorem rnewLocal_any (key : ByteArray) (w : World) : Calls Try.prog 36 #[.string key] w (NLPost key w) := by
  by_cases h : key.size = 16
  · exact (rnewLocal_yes key w h).mono fun e w' ⟨B, v, he, _, _, _, hb⟩ => ⟨_, he.trans (by rw [nlErr, if_pos h]), hb⟩
  · exact (rnewLocal_no key w h).mono fun e w' ⟨he, hw⟩ => ⟨_, he.trans (by rw [nlErr, if_neg h]), by rw [← hw]; exact Below.refl _ _⟩

/-- Where the law stands. -/
structure LMAt (B Br : Nat) (L1 L2 : Loc) (v seen : Value) (sl : List ByteArray) (w W : World) : Prop where
  loc : IsLoc B L1 W
  ref : IsRLoc Br L2 v W
  vw : ∀ g, v.ownBlock = some g → w.heap.size ≤ g
  sn : W.ownsRow w.heap.size 9 1 seen sl.length (strVals sl)
  below : Below w.heap.size w W

section
variable {B Br : Nat} {L1 L2 : Loc} {v seen : Value} {sl : List ByteArray} {w W : World}
theorem LMAt.of_below (h : LMAt B Br L1 L2 v seen sl w W) {W' : World} (hb : Below W.heap.size W W') : LMAt B Br L1 L2 v seen sl w W' :=
  ⟨h.loc.below hb, h.ref.below hb, h.vw, ownsRow_below h.sn hb, below_then h.below hb⟩
theorem LMAt.alloc (h : LMAt B Br L1 L2 v seen sl w W) (o : Obj) : LMAt B Br L1 L2 v seen sl w (W.alloc o) := h.of_below ((Below.refl _ _).alloc (Nat.le_refl _) _)
theorem LMAt.ne (h : LMAt B Br L1 L2 v seen sl w W) : B ≠ Br := fun e => by
  have h1 : W.heap[B]? = _ := h.loc.blk
  have h2 := h.ref.blk
  rw [← e, h1] at h2
  injection h2 with h3
  injection h3 with _ h4
  exact absurd h4 (by decide)
theorem LMAt.setLoc (h : LMAt B Br L1 L2 v seen sl w W) (hB : w.heap.size ≤ B) {W' : World} {L' : Loc} (hL : IsLoc B L' W') (ho : Only B W W') : LMAt B Br L' L2 v seen sl w W' :=
  ⟨hL, h.ref.kept ho.keeps (fun e => h.ne e.symm) (h.loc.blk.ne_row (by decide) h.ref.own), h.vw, ownsRow_keeps h.sn ho.keeps (h.loc.blk.ne_row (by decide) h.sn), ho.keeps.below h.below (fun i e => by rw [e]; exact hB) h.below.size⟩
theorem LMAt.setRef (h : LMAt B Br L1 L2 v seen sl w W) (hB : w.heap.size ≤ Br) {W' : World} {L' : Loc} (hc : ChgRL Br L' v W W') : ∃ v', LMAt B Br L1 L' v' seen sl w W' := by
  obtain ⟨v', hL, ho, hk⟩ := hc
  refine ⟨v', h.loc.keeps hk (fun e => e.elim h.ne (fun e => h.loc.blk.ne_row (by decide) h.ref.own _ e rfl)), hL, fun g hg => ?_, ownsRow_keeps h.sn hk (fun g hg e => e.elim (fun e => row_type h.sn Br _ h.ref.blk (by decide) (by rw [← e]; exact hg)) (rows_ne h.sn h.ref.own (by decide) g hg)), hk.below h.below (fun i e => e.elim (fun e => by rw [e]; exact hB) (h.vw i)) h.below.size⟩
  rcases ho g hg with e | e
  · exact h.vw g e
  · exact Nat.le_trans h.below.size e
theorem LMAt.setSeen (h : LMAt B Br L1 L2 v seen sl w W) {W' : World} {seen' : Value} {sl' : List ByteArray} (hs : W'.ownsRow w.heap.size 9 1 seen' sl'.length (strVals sl')) (hg : W.grownBy W' seen.ownBlock) : LMAt B Br L1 L2 v seen' sl' w W' :=
  have hk : Keeps (fun i => seen.ownBlock = some i) W W' := Keeps.of_grown hg (fun _ e => e)
  ⟨h.loc.keeps hk (fun e => h.loc.blk.ne_row (by decide) h.sn _ e rfl), h.ref.kept hk (fun e => row_type h.sn Br _ h.ref.blk (by decide) e) (rows_ne h.ref.own h.sn (by decide)), h.vw, hs, hk.below h.below (fun i e => row_ge h.sn i e) h.below.size⟩
end

theorem least_hit (p : Nat → Prop) : ∀ n, ∃ m, m ≤ n ∧ (∀ i, i < m → ¬ p i) ∧ (m = n ∨ (m < n ∧ p m)) := by
  intro n
  induction n with
  | zero => exact ⟨0, Nat.le_refl _, fun i hi => by omega, .inl rfl⟩
  | succ n ih =>
    obtain ⟨m, h1, h2, h3⟩ := ih
    rcases h3 with rfl | h3
    · by_cases hp : p m
      · exact ⟨m, by omega, h2, .inr ⟨by omega, hp⟩⟩
      · exact ⟨m + 1, Nat.le_refl _, fun i hi => by
          by_cases e : i = m
          · rw [e]; exact hp
          · exact h2 i (by omega), .inl rfl⟩
    · exact ⟨m, by omega, h2, .inr ⟨by omega, h3.2⟩⟩

set_option maxRecDepth 100000 in
set_option maxHeartbeats 4000000 in
theorem locM_any (key : ByteArray) (a : Option Addr) (len cap : Nat) (C : Nat → Call7) (id : ByteArray) (w : World) (hs : key.size ≤ maxLen) (hA : ArgCalls a len C w) :
    Calls Try.prog 9 #[.string key, .slice a len cap, .string id] w (TrueBelow w) := by
  have Hs := Lib.hid hs; clear hs
  have HA := Lib.hid hA; clear hA
  obtain ⟨i0, hi, hz0, hz1, hz2⟩ := info_parts info_str
  go_enter Try.func9, Try.ntmps9
  go_wp2_with (fail)
  refine (sane7 w).mono ?_
  rintro e w0 ⟨rfl, hb0⟩
  go_wp2_with (fail)
  refine (newLocal_any key w0).mono ?_
  rintro e w1 ⟨p1, rfl, hb1⟩
  have HB1 := Lib.hid (below_then hb0 hb1)
  clear hb0 hb1
  go_wp2_with (fail)
  refine (rnewLocal_any key w1).mono ?_
  rintro e w2 ⟨p2, rfl, hb2⟩
  have HB2 := Lib.hid (below_then HB1.out hb2)
  clear hb2 HB1
  go_wp2_with (fail)
  refine (keyFrom_any key w2 Hs.out).mono ?_
  rintro e w3 ⟨rfl, hb3⟩
  have HB3 := Lib.hid (below_then HB2.out hb3)
  clear hb3 HB2
  have hks := Lib.hid (keyFrom_size key)
  obtain ⟨k, Hk⟩ : ∃ k, Hid (keyFrom key = k) := ⟨_, rfl⟩
  rw [Hk.out] at hks ⊢
  go_wp2_with (fail)
  refine (newLocal_yes k w3 hks.out).mono ?_
  rintro e w4 ⟨B, rfl, hL, hB, hb4⟩
  have HL4 : Hid (IsLoc B (locN k 1) w4) := hL
  have hBw : w.heap.size ≤ B := Nat.le_trans HB3.out.size hB
  have HB4 := Lib.hid (below_then HB3.out hb4)
  clear hL hB hb4 HB3
  go_wp2_with (fail)
  refine (keyFrom_any key w4 Hs.out).mono ?_
  rintro e w5 ⟨rfl, hb5⟩
  rw [Hk.out]
  have HL5 := Lib.hid (HL4.out.below hb5)
  have HB5 := Lib.hid (below_then HB4.out hb5)
  clear hb5 HB4 HL4
  go_wp2_with (fail)
  refine (rnewLocal_yes k w5 hks.out).mono ?_
  rintro e w6 ⟨Br, v6, rfl, hR, hBr, hv6, hb6⟩
  have hBrw : w.heap.size ≤ Br := Nat.le_trans HB5.out.size hBr
  have HM : Hid (LMAt B Br (locN k 1) (locN k 1) v6 (.slice (some ⟨w6.heap.size, 0, none⟩) 1 1) [id] w (w6.alloc (.cells #[.string id] 9))) := by
    have hb := below_then HB5.out hb6
    have hbs := hb.size
    refine ⟨(HL5.out.below hb6).alloc _, hR.alloc _, fun g hg => Nat.le_trans HB5.out.size (hv6 g hg), ?_, below_alloc hb _⟩
    exact ⟨rfl, .inr ⟨w6.heap.size, 1, #[.string id], rfl, hbs, heap_alloc_new _ _, Nat.le_refl _, by unfold maxLen; decide, rfl, rfl⟩⟩
  clear hR hBr hv6 hb6 HL5 HB5
  generalize nlErr key = z0 at *
  go_wp2_with (fail)
  go_loopg [15, 16] 80 (fun g seen i wr => ∃ (j : Nat) (L : Loc) (v : Value) (sl : List ByteArray), g + j = 80 ∧ i = .int .i64 j ∧ Hid (LMAt B Br L L v seen sl w wr) ∧ 1 ≤ sl.length ∧ sl.length ≤ j + 1)
  case atStart => exact ⟨0, _, _, _, rfl, rfl, HM, Nat.le_refl _, Nat.le_refl _⟩
  case round =>
    clear HM
    obtain ⟨j, L, v, sl, hg, rfl, HM, hsl1, hsl⟩ := hrel
    by_cases hjl : j < len
    · by_cases hj80 : j < 80
      · obtain ⟨hok, b, o, rfl, hbw, hcell⟩ := HA.out j hjl
        have HC1 := Lib.hid (hcell 1 (by decide))
        have HC2 := Lib.hid (hcell 2 (by decide))
        have HC0 := Lib.hid (hcell 0 (by decide))
        have hc0 := (HM.out.below.cell (p := ⟨b, o + j * 16 + 0, none⟩) hbw).trans HC0.out
        rw [show (C j).at 0 = .int .u8 (C j).kind from rfl] at hc0
        simp only [Nat.add_zero] at hc0
        clear hcell
        have hz := hok.n
        have ho := hok.other
        obtain ⟨q, hq1, hq⟩ : ∃ q : Nat, ((C j).kind : Int).tmod 4 = (q : Int) ∧ q < 4 := ⟨(C j).kind % 4, by rw [Int.tmod_eq_emod_of_nonneg (by omega)]; omega, by omega⟩
        go_upto_if 75 with (fail)
        go_cut [15] (fun seen' wx => ∃ (L' : Loc) (v' : Value) (sl' : List ByteArray), Hid (LMAt B Br L' L' v' seen' sl' w wx) ∧ 1 ≤ sl'.length ∧ sl'.length ≤ j + 2)
        case first =>
          by_cases hq2 : q < 2
          · clear hc0 hq1 HC1 HC2 HC0
            have hq2' : (q : Int) < 2 := by omega
            go_wp2_with (fail)
            refine (issue_any B L _ HM.out.loc).mono ?_
            rintro e w7 ⟨ty, seq, c, err, L7, rfl, hL7, hO7, hc7⟩
            have HM7 := Lib.hid ((HM.out.setLoc hBw hL7 hO7).alloc (.cells (frameC ty seq 0 c) 42))
            have HF7 := Lib.hid (heap_alloc_new w7 (.cells (frameC ty seq 0 c) 42))
            clear hL7 hO7 HM
            go_wp2_with (fail)
            refine (rissue_any Br L v _ HM7.out.ref).mono ?_
            rintro e w8 ⟨ty2, seq2, c2, err2, L8, rfl, hC8, hc8⟩
            have hk8 : Keeps (fun k => k = Br ∨ v.ownBlock = some k) (w7.alloc (.cells (frameC ty seq 0 c) 42)) w8 := by obtain ⟨_, _, _, h⟩ := hC8; exact h
            have HF8 := Lib.hid (heap_alloc (heap_keeps HF7.out hk8 (fun e => e.elim (fun e => by
              have h1 := HM7.out.ref.blk
              rw [← e, HF7.out] at h1
              injection h1 with h2
              injection h2 with _ h3
              exact absurd h3 (by decide)) (fun e => row_type HM7.out.ref.own _ _ HF7.out (by decide) e))) (.cells (frameC ty2 seq2 0 c2) 42))
            obtain ⟨v8, hM8⟩ := HM7.out.setRef hBrw hC8
            have HM8 := Lib.hid (hM8.alloc (.cells (frameC ty2 seq2 0 c2) 42))
            have HG8 := Lib.hid (heap_alloc_new w8 (.cells (frameC ty2 seq2 0 c2) 42))
            clear hM8 hC8 HF7 HM7 hk8
            obtain ⟨rfl, rfl, rfl, rfl, rfl⟩ : ty2 = ty ∧ seq2 = seq ∧ c2 = c ∧ err2 = err ∧ L8 = L7 := by
              rcases hc7 with ⟨rfl, rfl, rfl, rfl, rfl, h1, h2⟩ | ⟨rfl, rfl, rfl, rfl, rfl, h1⟩
              · rcases hc8 with ⟨rfl, rfl, rfl, rfl, rfl, _, _⟩ | ⟨rfl, rfl, rfl, rfl, rfl, h3⟩
                · exact ⟨rfl, rfl, rfl, rfl, rfl⟩
                · omega
              · rcases hc8 with ⟨rfl, rfl, rfl, rfl, rfl, h3, h4⟩ | ⟨rfl, rfl, rfl, rfl, rfl, _⟩
                · omega
                · exact ⟨rfl, rfl, rfl, rfl, rfl⟩
            clear hc7 hc8
            have x0 := cell_of_heap HF8.out 0
            have x10 := cell_of_heap HF8.out 10
            have x11 := cell_of_heap HF8.out 11
            have x12 := cell_of_heap HF8.out 12
            have y0 := cell_of_heap HG8.out 0
            have y10 := cell_of_heap HG8.out 10
            have y11 := cell_of_heap HG8.out 11
            have y12 := cell_of_heap HG8.out 12
            have hsz := HM8.out.below.size
            go_wp2_with (at_builtin; refine wpList_append_own _ rfl _ _ 24 rfl w.heap.size 9 i0 (.string ⟨#[]⟩) 1 16 Try.underlying24 hi hz0 hz1 hz2 rfl (by decide) _ _ _ rfl (HM8.out.sn.alloc _) ⟨w8.heap.size + 1, 0, none⟩ 1 1 [.string c2] rfl rfl (cells_new _ #[.string c2] _ _ (by simp)) (by simp [Value.oneCell']) (by unfold maxLen; omega) (by omega) (by simp at hsz ⊢; omega) ?_; intro v' w9 hown' hgrow _)
            go_meet
            refine ⟨L8, v8, sl ++ [c2], (HM8.out.alloc _).setSeen ?_ hgrow, by simp, by simp; omega⟩
            simpa [strVals] using hown'
          · have hq2' : ¬ ((q : Int) < 2) := by omega
            have hc1 := (HM.out.below.cell (p := ⟨b, o + j * 16 + 1, none⟩) hbw).trans HC1.out
            have hc2 := (HM.out.below.cell (p := ⟨b, o + j * 16 + 2, none⟩) hbw).trans HC2.out
            rw [show (C j).at 1 = .int .i64 (C j).n from rfl] at hc1
            rw [show (C j).at 2 = .int .i64 (C j).other from rfl] at hc2
            clear HC1 HC2 HC0
            go_wp2_with (fail)
            refine (pick7_any (C j).n 40 _ (by decide) (by decide) hz.1 hz.2).mono ?_
            rintro e w' ⟨rfl, rfl⟩
            have hpl := pickN_lt (C j).n 40 (by decide)
            generalize pickN (C j).n 40 = p at *
            go_upto_if 135 with (fail)
            go_cut [21] (fun s wx => ∃ z : Int, s = .int .i64 z ∧ Hid (LMAt B Br L L v u15 sl w wx))
            case first =>
              by_cases hq3 : q = 3
              · subst hq3
                go_wp2
                go_meet
                exact ⟨_, rfl, HM⟩
              · have hq3' : ((q : Int) == 3) = false := by rw [beq_eq_false_iff_ne]; omega
                clear hq3
                go_wp2
                go_meet
                exact ⟨_, rfl, HM⟩
            case rest =>
              clear HM hc0 hc1 hc2 hq1
              obtain ⟨z, rfl, HM⟩ := hcut
              go_wp2_with (fail)
              refine (retire_any B z L _ HM.out.loc).mono ?_
              rintro e w7 ⟨err, L7, rfl, hL7, hO7, hc7⟩
              have HM7 := Lib.hid (HM.out.setLoc hBw hL7 hO7)
              clear hL7 hO7 HM
              go_wp2_with (fail)
              refine (rretire_any Br z L v _ HM7.out.ref).mono ?_
              rintro e w8 ⟨err2, L8, rfl, hC8, hc8⟩
              obtain ⟨v8, hM8⟩ := HM7.out.setRef hBrw hC8
              have HM8 := Lib.hid hM8
              clear hM8 hC8 HM7
              obtain ⟨rfl, rfl⟩ : err2 = err ∧ L8 = L7 := by
                rcases hc7 with ⟨rfl, n1, h1, h2, rfl⟩ | ⟨rfl, rfl, h1⟩
                · rcases hc8 with ⟨rfl, n2, h3, h4, rfl⟩ | ⟨rfl, rfl, h3⟩
                  · obtain rfl : n1 = n2 := by omega
                    exact ⟨rfl, rfl⟩
                  · omega
                · rcases hc8 with ⟨rfl, n2, h3, h4, rfl⟩ | ⟨rfl, rfl, h3⟩
                  · omega
                  · exact ⟨rfl, rfl⟩
              clear hc7 hc8
              go_wp2
              go_meet
              exact ⟨L8, v8, sl, HM8, hsl1, by omega⟩
        case rest =>
          clear HM hc0 hq1 HC1 HC0 hsl1 hsl
          obtain ⟨L5, v5, sl5, HM, hsl1, hsl⟩ := hcut
          have hc2 := (HM.out.below.cell (p := ⟨b, o + j * 16 + 2, none⟩) hbw).trans HC2.out
          rw [show (C j).at 2 = .int .i64 (C j).other from rfl] at hc2
          obtain ⟨gs, cs, rfl⟩ := slice_at HM.out.sn hsl1
          have hpl := pickN_lt (C j).other sl5.length (by omega)
          have hpk := fun W => pick7_any (C j).other sl5.length W (by omega) (by omega) ho.1 ho.2
          have HPk := Lib.hid hpk; clear hpk
          generalize pickN (C j).other sl5.length = p at *
          generalize (C j).other = zo at *
          obtain ⟨x, hx⟩ : ∃ x, sl5[p]? = some x := ⟨_, List.getElem?_eq_getElem hpl⟩
          have hcx := own_src HM.out.sn p (.string x) (by simp [strVals, hx])
          simp only [Addr.add_mid, Nat.zero_add] at hcx
          have hpl1 : (p : Int) < (sl5.length : Int) := by omega
          obtain ⟨m, hm1, hm2, hm3⟩ := least_hit (L5.hits x) L5.n
          have Hm2 := Lib.hid hm2
          have Hm3 := Lib.hid hm3
          clear hx hm2 hm3
          obtain ⟨zz, Hzz⟩ : ∃ zz : Int, Hid ((if m < L5.n then (m : Int) else 0) = zz) := ⟨_, rfl⟩
          obtain ⟨bb, Hbb⟩ : ∃ bb : Bool, Hid (decide (m < L5.n) = bb) := ⟨_, rfl⟩
          go_wp2_with (fail)
          refine (HPk.out _).mono ?_
          rintro e w' ⟨rfl, rfl⟩
          go_wp2_with (fail)
          refine (owns_loop B L5 x m _ HM.out.loc hm1 Hm2.out Hm3.out).mono ?_
          rintro e w' ⟨rfl, rfl⟩
          rw [Hzz.out, Hbb.out]
          go_wp2_with (fail)
          refine (HPk.out _).mono ?_
          rintro e w' ⟨rfl, rfl⟩
          go_wp2_with (fail)
          refine (rowns_loop Br L5 v5 x m _ HM.out.ref hm1 Hm2.out Hm3.out).mono ?_
          rintro e w7 ⟨rfl, hb7⟩
          rw [Hzz.out, Hbb.out]
          have HM7 := Lib.hid (HM.out.of_below hb7)
          clear hb7 HM hcx hc2 Hm2 Hm3 Hzz Hbb
          go_wp2_with (fail)
          refine (active_any B L5 _ HM7.out.loc).mono ?_
          rintro e w8 ⟨v8, rfl, hown8, hb8⟩
          have HM8 := Lib.hid (HM7.out.of_below hb8)
          have Hown8 := Lib.hid hown8
          clear hown8 hb8 HM7
          go_wp2_with (fail)
          refine (ractive_any Br L5 v5 _ HM8.out.ref).mono ?_
          rintro e w9 ⟨v9, rfl, hown9, hb9⟩
          have HM9 := Lib.hid (HM8.out.of_below hb9)
          have Hown9 := Lib.hid hown9
          have Hown8' := Lib.hid (ownsRow_below Hown8.out hb9)
          clear hown9 hb9 HM8 Hown8
          go_wp2_with (fail)
          refine (texts_same _ _ (L5.actives L5.n) v8 v9 _ (by have := L5.actives_le L5.n; have := HM9.out.loc.le; omega) Hown8'.out Hown9.out).mono ?_
          rintro e w10 ⟨rfl, hb10⟩
          have HM10 := Lib.hid (HM9.out.of_below hb10)
          clear hb10 HM9 Hown8' Hown9
          go_wp2
          go_roundg (gk - 1)
          case measure => omega
          case rel => exact ⟨j + 1, L5, v5, sl5, by omega, by go_num, HM10, hsl1, by omega⟩
      · go_wp2
        go_ret
        exact ⟨rfl, HM.out.below⟩
    · go_wp2
      go_ret
      exact ⟨rfl, HM.out.below⟩

end Go.Proofs.Ytmdfpknhfkgfoaa
