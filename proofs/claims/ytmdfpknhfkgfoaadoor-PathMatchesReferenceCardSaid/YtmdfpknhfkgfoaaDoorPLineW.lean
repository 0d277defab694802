/- The walks of law24's straight statements. Printed by genline.py. -/
import Derived.Test.YtmdfpknhfkgfoaaDoorPDoN
import Derived.Test.YtmdfpknhfkgfoaaDoorPLine
import Derived.StillTailTactics
namespace Go.Proofs.YtmdfpknhfkgfoaaDoor
open Go.RowKit Go.Shelf

theorem pick24_quiet (c : Int) (n : Nat) (w : World) (h0 : 0 < n) (h1 : n ≤ 10000000000) (hlo : -9223372036854775808 ≤ c) (hhi : c ≤ 9223372036854775807) :
    Calls Tryd.prog 16 #[.int .i64 c, .int .i64 n] w fun e w' => e = .returned (.int .i64 (pkN c n : Nat)) ∧ w' = w :=
  (pick24_any c n w h0 h1 hlo hhi).mono fun _ _ h => ⟨h.1, h.2.symm⟩

theorem pactive_is (B : Nat) (β : Int × Int → Nat) (S : PS) (v : Value) (w : World) (hS : IsPS B β S v w) (l r : Int) (h : S.act = (l, r)) :
    Calls Tryd.prog 23 #[.pointer (some ⟨B, 0, none⟩)] w (SomeB (.tuple #[.int .i64 l, .int .i64 r]) w) := by
  have h1 := pactive_any B β S v w hS
  rw [h] at h1
  exact h1

set_option maxRecDepth 100000 in
set_option maxHeartbeats 1600000 in
theorem nil_any (aA aP : Addr) (c : Call24) (w : World) (hE : Errs aA aP w) (hc : c.ok) :
    Calls Tryd.prog 10 #[c.val] w (SomeB (.bool true) w) := by
  have HE := Lib.hid hE; clear hE
  have HC := Lib.hid hc
  have hl := hc.later
  have HD := fun now W hb => don_any aA aP now c W (HE.out.below hb) HC.out
  clear hc
  have HD := Lib.hid HD
  go_enter Tryd.func10, Tryd.ntmps10
  go_wp2_with (fail)
  refine (sane24_any aA aP _ (HE.out.below ((Below.refl _ w).alloc (Nat.le_refl _) _))).mono ?_
  rintro e w0 ⟨rfl, hb0⟩
  have HB0 : Hid (Below w.heap.size w w0) := ((Below.refl _ w).alloc (Nat.le_refl _) _).trans (hb0.mono ((Below.refl _ w).alloc (Nat.le_refl _) _).size)
  have HF0 : Hid (w0.heap[w.heap.size]? = some (.cells c.cells 45 (0, 0))) := (hb0.block _ (by simp)).trans (heap_alloc_new w _)
  clear hb0
  go_wp2_with (fail)
  refine (active_nil _).mono ?_
  rintro e w1 ⟨rfl, hb⟩
  have HB1 := Lib.hid (HB0.out.trans (hb.mono HB0.out.size))
  have HF1 := Lib.hid ((hb.block _ (heap_lt HF0.out)).trans HF0.out); clear hb HB0 HF0
  have c0 := cell_of_heap HF1.out 0
  have c1 := cell_of_heap HF1.out 1
  have c2 := cell_of_heap HF1.out 2
  have c3 := cell_of_heap HF1.out 3
  have c4 := cell_of_heap HF1.out 4
  go_wp2
  refine wp_region_still_tail 5 (by kernel_rfl) (by kernel_rfl) ?_
  simp only [List.take_succ_cons, List.take_zero, List.drop_succ_cons, List.drop_zero]
  repeat still_step
  still_call (pick24_quiet c.later 100 _ (by decide) (by decide) hl.1 hl.2)
  repeat still_step
  refine wpStill_nil ?_
  go_wp2_with (fail)
  refine (HD.out _ _ (HB1.out.trans (((below_drewN w1 1).mono HB1.out.size)))).mono ?_
  rintro e w2 ⟨rfl, hb⟩
  have HB2 := Lib.hid (HB1.out.trans (((below_drewN w1 1).trans hb).mono HB1.out.size))
  have HF2 := Lib.hid ((hb.block _ (heap_lt HF1.out)).trans HF1.out); clear hb HB1 HF1
  clear c0 c1 c2 c3 c4
  have c0 := cell_of_heap HF2.out 0
  have fin : ∀ W, Below w.heap.size w W → Calls Tryd.prog 19 #[.pointer none, .int .i64 100, .int .i64 1] W (SomeB (.bool false) W) := fun W hb => valid_nil aA aP 100 1 W (HE.out.below hb)
  have fin2 : ∀ W, Below w.heap.size w W → Calls Tryd.prog 28 #[.pointer none, .int .i64 100, .int .i64 1, .int .i64 0] W (SomeB (.bool false) W) := fun W hb => allows_nil aA aP 100 1 0 W (HE.out.below hb)
  have HV := Lib.hid fin
  have HW := Lib.hid fin2
  clear fin fin2
  have hk : c.kind = 3 ∨ c.kind = 6 ∨ (c.kind ≠ 3 ∧ c.kind ≠ 6) := by omega
  rcases hk with hk | hk | hk
  · have hn : nilOf c.kind = 0 := if_pos (.inl hk)
    have q3 : ((c.kind : Int) == 3) = true := by rw [hk]; rfl
    rw [hn]
    clear hn hk
    go_wp2_with (fail)
    refine (len_nil _).mono ?_
    rintro e w3 ⟨rfl, hb⟩
    have HB3 := Lib.hid (HB2.out.trans (hb.mono HB2.out.size)); clear hb HB2
    go_wp2_with (fail)
    refine (HV.out _ HB3.out).mono ?_
    rintro e w4 ⟨rfl, hb⟩
    have HB4 := Lib.hid (HB3.out.trans (hb.mono HB3.out.size)); clear hb HB3
    go_wp2_with (fail)
    refine (HW.out _ HB4.out).mono ?_
    rintro e w5 ⟨rfl, hb⟩
    have HB5 := Lib.hid (HB4.out.trans (hb.mono HB4.out.size)); clear hb HB4
    go_wp2
    go_ret
    exact ⟨rfl, HB5.out⟩
  · have hn : nilOf c.kind = 0 := if_pos (.inr hk)
    have q3 : ((c.kind : Int) == 3) = false := by rw [hk]; rfl
    have q6 : ((c.kind : Int) == 6) = true := by rw [hk]; rfl
    rw [hn]
    clear hn hk
    go_wp2_with (fail)
    refine (len_nil _).mono ?_
    rintro e w3 ⟨rfl, hb⟩
    have HB3 := Lib.hid (HB2.out.trans (hb.mono HB2.out.size)); clear hb HB2
    go_wp2_with (fail)
    refine (HV.out _ HB3.out).mono ?_
    rintro e w4 ⟨rfl, hb⟩
    have HB4 := Lib.hid (HB3.out.trans (hb.mono HB3.out.size)); clear hb HB3
    go_wp2_with (fail)
    refine (HW.out _ HB4.out).mono ?_
    rintro e w5 ⟨rfl, hb⟩
    have HB5 := Lib.hid (HB4.out.trans (hb.mono HB4.out.size)); clear hb HB4
    go_wp2
    go_ret
    exact ⟨rfl, HB5.out⟩
  · have hn : nilOf c.kind = 1 := if_neg (by omega)
    rw [hn]
    clear hn hk
    go_wp2_with (fail)
    refine (len_nil _).mono ?_
    rintro e w3 ⟨rfl, hb⟩
    have HB3 := Lib.hid (HB2.out.trans (hb.mono HB2.out.size)); clear hb HB2
    go_wp2_with (fail)
    refine (HV.out _ HB3.out).mono ?_
    rintro e w4 ⟨rfl, hb⟩
    have HB4 := Lib.hid (HB3.out.trans (hb.mono HB3.out.size)); clear hb HB3
    go_wp2_with (fail)
    refine (HW.out _ HB4.out).mono ?_
    rintro e w5 ⟨rfl, hb⟩
    have HB5 := Lib.hid (HB4.out.trans (hb.mono HB4.out.size)); clear hb HB4
    go_wp2
    go_ret
    exact ⟨rfl, HB5.out⟩

set_option maxRecDepth 100000 in
set_option maxHeartbeats 8000000 in
theorem independent_any (aA aP : Addr) (a b n m : Int) (vd : Bool) (w : World) (hE : Errs aA aP w) (ha : in63 a) (hb : in63 b) (hn : in63 n) (hm : in63 m) :
    Calls Tryd.prog 9 #[.int .i64 a, .int .i64 b, .int .i64 n, .int .i64 m, .bool vd] w (SomeB (.bool true) w) := by
  have HE := Lib.hid hE; clear hE
  go_enter Tryd.func9, Tryd.ntmps9
  go_wp2_with (fail)
  refine (sane24_any aA aP w HE.out).mono ?_
  rintro e w0 ⟨rfl, hb0⟩
  have HB0 := Lib.hid hb0; clear hb0
  go_wp2_with (fail)
  refine (pick24_any a 500 _ (by decide) (by decide) ha.1 ha.2).mono ?_
  rintro e w1 ⟨rfl, rfl⟩
  have hpa := pkN_lt a 500 (by decide)
  generalize pkN a 500 = pa at *
  go_wp2_with (fail)
  refine (pick24_any b 500 _ (by decide) (by decide) hb.1 hb.2).mono ?_
  rintro e w1 ⟨rfl, rfl⟩
  have hpb := pkN_lt b 500 (by decide)
  generalize pkN b 500 = pb at *
  go_wp2_with (fail)
  refine (pick24_any n 1000 _ (by decide) (by decide) hn.1 hn.2).mono ?_
  rintro e w1 ⟨rfl, rfl⟩
  have hpn := pkN_lt n 1000 (by decide)
  generalize pkN n 1000 = pn at *
  go_wp2_with (fail)
  refine (pick24_any m 3001 _ (by decide) (by decide) hm.1 hm.2).mono ?_
  rintro e w1 ⟨rfl, rfl⟩
  have hpm := pkN_lt m 3001 (by decide)
  generalize pkN m 3001 = pm at *
  have HI : Hid ((2 ≤ 2 + (pa : Int) ∧ 2 + (pa : Int) ≤ 501) ∧ (502 ≤ 502 + (pb : Int) ∧ 502 + (pb : Int) ≤ 1001) ∧ (0 ≤ (pn : Int) ∧ (pn : Int) ≤ 999) ∧ (0 ≤ (pm : Int) ∧ (pm : Int) ≤ 3000)) := ⟨by omega, by omega, by omega, by omega⟩
  go_wp2_with (fail)
  refine (pnew_yes 100 1 true _ rfl).mono ?_
  rintro e w1 ⟨B, β1, v1, rfl, hA⟩
  have HA1 := Lib.hid (hA.base_mono HB0.out); clear hA HB0
  go_wp2_with (fail)
  refine (received_any aA aP w B β1 _ v1 1 100 (2 + (pa : Int)) (pn : Int) _ HE.out HA1.out (by intro k hk; cases hk) (by intro e he; simp [PS1] at he; subst he; intro h; show (0 : Int) + _ ≤ _; omega)).mono ?_
  rintro e w2 h
  rw [in_recv1 HI.out.1 HI.out.2.2.1] at h
  obtain ⟨rfl, β2, v2, hA⟩ := turn_of h
  have HA2 := Lib.hid hA; clear hA h HA1
  go_wp2_with (fail)
  refine (allows_any aA aP w B β2 _ v2 100 (2 + (pa : Int)) (pm : Int) _ (HE.out.below HA2.out.below) HA2.out).mono ?_
  rintro e w3 ⟨rfl, hb⟩
  rw [in_alw HI.out.1 HI.out.2.2.2]
  have HA3 := Lib.hid (HA2.out.of_below hb); clear hb HA2
  have Hq : Hid (decide ((pm : Int) ≤ 3 * (pn : Int)) = decide ((pm : Int) ≤ 3 * (pn : Int))) := rfl
  go_wp2_with (fail)
  refine (received_any aA aP w B β2 _ v2 2 100 (502 + (pb : Int)) 1000 _ HE.out HA3.out (by intro k hk; cases hk) (by intro e he; simp [inA] at he; rcases he with rfl | rfl <;> intro h <;> simp <;> omega)).mono ?_
  rintro e w4 h
  rw [in_recv2 HI.out.1 HI.out.2.1] at h
  obtain ⟨rfl, β4, v4, hA⟩ := turn_of h
  have HA4 := Lib.hid hA; clear hA h HA3
  go_wp2_with (fail)
  refine (sent_any aA aP w B β4 _ v4 100 (502 + (pb : Int)) 3000 _ (HE.out.below HA4.out.below) HA4.out (by intro e he; simp [inS] at he; rcases he with rfl | rfl | rfl <;> simp)).mono ?_
  rintro e w5 h
  rw [in_sent HI.out.1 HI.out.2.1] at h
  obtain ⟨rfl, β5, v5, hA⟩ := turn_of h
  have HA5 := Lib.hid hA; clear hA h HA4
  cases vd
  · go_wp2_with (fail)
    refine (allows_any aA aP w B β5 _ v5 100 (2 + (pa : Int)) (pm : Int) _ (HE.out.below HA5.out.below) HA5.out).mono ?_
    rintro e w6 ⟨rfl, hb⟩
    rw [in_alw2 HI.out.1 HI.out.2.2.2]
    have HA6 := Lib.hid (HA5.out.of_below hb); clear hb HA5
    have w3 : IntKind.i64.wrap (3 * (pn : Int)) = 3 * (pn : Int) := IntWalk.i64_in _ (by omega)
    go_wp2_with (fail)
    refine (valid_any aA aP B β5 _ v5 100 (2 + (pa : Int)) _ (HE.out.below HA6.out.below) HA6.out.is).mono ?_
    rintro e w7 ⟨rfl, hb⟩
    rw [in_val HI.out.1]
    have HA7 := Lib.hid (HA6.out.of_below hb); clear hb HA6
    go_wp2_with (fail)
    refine (allows_any aA aP w B β5 _ v5 100 (502 + (pb : Int)) 1 _ (HE.out.below HA7.out.below) HA7.out).mono ?_
    rintro e w8 ⟨rfl, hb⟩
    rw [in_alw3 HI.out.1 HI.out.2.1]
    have HA8 := Lib.hid (HA7.out.of_below hb); clear hb HA7
    go_wp2
    go_ret
    exact ⟨rfl, HA8.out.below⟩
  · go_wp2_with (fail)
    refine (validate_any aA aP w B β5 _ v5 100 (502 + (pb : Int)) _ (HE.out.below HA5.out.below) HA5.out).mono ?_
    rintro e w6 h
    rw [in_vld HI.out.1 HI.out.2.1] at h
    obtain ⟨rfl, β6, v6, hA⟩ := turn_of h
    have HA6 := Lib.hid hA; clear hA h HA5
    go_wp2_with (fail)
    refine (allows_any aA aP w B β6 _ v6 100 (2 + (pa : Int)) (pm : Int) _ (HE.out.below HA6.out.below) HA6.out).mono ?_
    rintro e w7 ⟨rfl, hb⟩
    rw [in_alw2 HI.out.1 HI.out.2.2.2]
    have HA7 := Lib.hid (HA6.out.of_below hb); clear hb HA6
    have w3 : IntKind.i64.wrap (3 * (pn : Int)) = 3 * (pn : Int) := IntWalk.i64_in _ (by omega)
    go_wp2_with (fail)
    refine (valid_any aA aP B β6 _ v6 100 (2 + (pa : Int)) _ (HE.out.below HA7.out.below) HA7.out.is).mono ?_
    rintro e w8 ⟨rfl, hb⟩
    rw [in_val HI.out.1]
    have HA8 := Lib.hid (HA7.out.of_below hb); clear hb HA7
    go_wp2_with (fail)
    refine (allows_any aA aP w B β6 _ v6 100 (502 + (pb : Int)) 1 _ (HE.out.below HA8.out.below) HA8.out).mono ?_
    rintro e w9 ⟨rfl, hb⟩
    rw [in_alw3 HI.out.1 HI.out.2.1]
    have HA9 := Lib.hid (HA8.out.of_below hb); clear hb HA8
    go_wp2
    go_ret
    exact ⟨rfl, HA9.out.below⟩

set_option maxRecDepth 100000 in
set_option maxHeartbeats 8000000 in
theorem fallback_any (aA aP : Addr) (a b now later : Int) (ans : Bool) (w : World) (hE : Errs aA aP w) (ha : in63 a) (hb : in63 b) (hnow : in63 now) (hlater : in63 later) :
    Calls Tryd.prog 4 #[.int .i64 a, .int .i64 b, .int .i64 now, .int .i64 later, .bool ans] w (SomeB (.bool true) w) := by
  have HE := Lib.hid hE; clear hE
  go_enter Tryd.func4, Tryd.ntmps4
  go_wp2_with (fail)
  refine (sane24_any aA aP w HE.out).mono ?_
  rintro e w0 ⟨rfl, hb0⟩
  have HB0 := Lib.hid hb0; clear hb0
  go_wp2_with (fail)
  refine (pick24_any a 1000 _ (by decide) (by decide) ha.1 ha.2).mono ?_
  rintro e w1 ⟨rfl, rfl⟩
  have hpa := pkN_lt a 1000 (by decide)
  generalize pkN a 1000 = pa at *
  go_wp2_with (fail)
  refine (pick24_any b 1000 _ (by decide) (by decide) hb.1 hb.2).mono ?_
  rintro e w1 ⟨rfl, rfl⟩
  have hpb := pkN_lt b 1000 (by decide)
  generalize pkN b 1000 = pb at *
  go_wp2_with (fail)
  refine (pick24_any now 1000000 _ (by decide) (by decide) hnow.1 hnow.2).mono ?_
  rintro e w1 ⟨rfl, rfl⟩
  have hpnow := pkN_lt now 1000000 (by decide)
  generalize pkN now 1000000 = pn at *
  go_wp2_with (fail)
  refine (pick24_any later 400 _ (by decide) (by decide) hlater.1 hlater.2).mono ?_
  rintro e w1 ⟨rfl, rfl⟩
  have hplater := pkN_lt later 400 (by decide)
  generalize pkN later 400 = pl at *
  have HI : Hid ((1 ≤ 1 + (pa : Int) ∧ 1 + (pa : Int) ≤ 1000) ∧ (1001 ≤ 1001 + (pb : Int) ∧ 1001 + (pb : Int) ≤ 2000) ∧ (0 ≤ (pn : Int) ∧ (pn : Int) ≤ 999999) ∧ (0 ≤ (pl : Int) ∧ (pl : Int) ≤ 399)) := ⟨by omega, by omega, by omega, by omega⟩
  go_wp2_with (fail)
  refine (pnew_yes (1 + (pa : Int)) 7 true _ (by unfold addrsOk; rw [within_yes (by omega) (by omega)]; rfl)).mono ?_
  rintro e w1 ⟨B, β1, v1, rfl, hA⟩
  have HA1 := Lib.hid (hA.base_mono HB0.out); clear hA HB0
  go_wp2_with (fail)
  refine (received_any aA aP w B β1 _ v1 (pn : Int) (1001 + (pb : Int)) 7 50 _ HE.out HA1.out (by intro k hk; cases hk) (by intro e he; simp [PS1] at he; subst he; intro h; show (0 : Int) + _ ≤ _; omega)).mono ?_
  rintro e w2 h
  rw [fb_recv HI.out.1 HI.out.2.1 HI.out.2.2.1] at h
  obtain ⟨rfl, β2, v2, hA⟩ := turn_of h
  have HA2 := Lib.hid hA; clear hA h HA1
  go_wp2_with (fail)
  refine (challenge_any aA aP w B β2 _ v2 (pn : Int) (1001 + (pb : Int)) 7 snA _ (HE.out.below HA2.out.below) HA2.out).mono ?_
  rintro e w3 h
  rw [fb_chal HI.out.1 HI.out.2.1 HI.out.2.2.1] at h
  obtain ⟨rfl, β3, v3, hA⟩ := turn_of h
  have HA3 := Lib.hid hA; clear hA h HA2
  go_wp2_with (fail)
  refine (migrate_any aA aP w B β3 _ v3 (1001 + (pb : Int)) 7 _ (HE.out.below HA3.out.below) HA3.out).mono ?_
  rintro e w4 h
  rw [fb_migr HI.out.1 HI.out.2.1] at h
  obtain ⟨rfl, β4, v4, hA⟩ := turn_of h
  have HA4 := Lib.hid hA; clear hA h HA3
  cases ans
  · by_cases hlt : 200 < (pl : Int)
    · have t1 : ((pl : Int) ≤ 200) = False := eq_false (by omega)
      go_wp2_with (fail)
      refine (tick_any w B β4 _ v4 ((pn : Int) + (pl : Int)) _ HA4.out).mono ?_
      rintro e w5 h
      rw [fb_tick3 HI.out.1 HI.out.2.1 (by omega)] at h
      obtain ⟨rfl, β5, v5, hA⟩ := turn_of h
      have HA5 := Lib.hid hA; clear hA h HA4
      go_wp2_with (fail)
      refine (pactive_is B β5 _ v5 _ HA5.out.is (1 + (pa : Int)) 7 rfl).mono ?_
      rintro e w6 ⟨rfl, hb⟩
      have HA6 := Lib.hid (HA5.out.of_below hb); clear hb HA5
      go_wp2_with (fail)
      refine (tick_any w B β5 _ v5 ((pn : Int) + 1000) _ HA6.out).mono ?_
      rintro e w7 h
      rw [fb_tick4] at h
      obtain ⟨rfl, β7, v7, hA⟩ := turn_of h
      have HA7 := Lib.hid hA; clear hA h HA6
      go_wp2_with (fail)
      refine (pactive_is B β7 _ v7 _ HA7.out.is (1 + (pa : Int)) 7 rfl).mono ?_
      rintro e w8 ⟨rfl, hb⟩
      have HA8 := Lib.hid (HA7.out.of_below hb); clear hb HA7
      go_wp2_with (fail)
      refine (valid_any aA aP B β7 _ v7 (1 + (pa : Int)) 7 _ (HE.out.below HA8.out.below) HA8.out.is).mono ?_
      rintro e w9 ⟨rfl, hb⟩
      rw [fb_val1]
      have HA9 := Lib.hid (HA8.out.of_below hb); clear hb HA8
      go_wp2_with (fail)
      refine (valid_any aA aP B β7 _ v7 (1001 + (pb : Int)) 7 _ (HE.out.below HA9.out.below) HA9.out.is).mono ?_
      rintro e w10 ⟨rfl, hb⟩
      rw [fb_val2 HI.out.1 HI.out.2.1]
      have HA10 := Lib.hid (HA9.out.of_below hb); clear hb HA9
      go_wp2
      go_ret
      exact ⟨rfl, HA10.out.below⟩
    · have t1 : ((pl : Int) ≤ 200) = True := eq_true (by omega)
      have t2 : ((200 : Int) < (pl : Int)) = False := eq_false (by omega)
      have t3 : ((1001 + (pb : Int)) == (1 + (pa : Int))) = false := by rw [beq_eq_false_iff_ne]; omega
      go_wp2_with (fail)
      refine (tick_any w B β4 _ v4 ((pn : Int) + (pl : Int)) _ HA4.out).mono ?_
      rintro e w5 h
      rw [fb_tick2 (by omega)] at h
      obtain ⟨rfl, β5, v5, hA⟩ := turn_of h
      have HA5 := Lib.hid hA; clear hA h HA4
      go_wp2_with (fail)
      refine (pactive_is B β5 _ v5 _ HA5.out.is (1001 + (pb : Int)) 7 rfl).mono ?_
      rintro e w6 ⟨rfl, hb⟩
      have HA6 := Lib.hid (HA5.out.of_below hb); clear hb HA5
      go_wp2_with (fail)
      refine (tick_any w B β5 _ v5 ((pn : Int) + 1000) _ HA6.out).mono ?_
      rintro e w7 h
      rw [fb_tick3 HI.out.1 HI.out.2.1 (by omega)] at h
      obtain ⟨rfl, β7, v7, hA⟩ := turn_of h
      have HA7 := Lib.hid hA; clear hA h HA6
      go_wp2_with (fail)
      refine (pactive_is B β7 _ v7 _ HA7.out.is (1 + (pa : Int)) 7 rfl).mono ?_
      rintro e w8 ⟨rfl, hb⟩
      have HA8 := Lib.hid (HA7.out.of_below hb); clear hb HA7
      go_wp2_with (fail)
      refine (valid_any aA aP B β7 _ v7 (1 + (pa : Int)) 7 _ (HE.out.below HA8.out.below) HA8.out.is).mono ?_
      rintro e w9 ⟨rfl, hb⟩
      rw [fb_val1]
      have HA9 := Lib.hid (HA8.out.of_below hb); clear hb HA8
      go_wp2_with (fail)
      refine (valid_any aA aP B β7 _ v7 (1001 + (pb : Int)) 7 _ (HE.out.below HA9.out.below) HA9.out.is).mono ?_
      rintro e w10 ⟨rfl, hb⟩
      rw [fb_val2 HI.out.1 HI.out.2.1]
      have HA10 := Lib.hid (HA9.out.of_below hb); clear hb HA9
      go_wp2
      go_ret
      exact ⟨rfl, HA10.out.below⟩
  · go_wp2_with (fail)
    refine (respond_any aA aP w B β4 _ v4 (pn : Int) (1001 + (pb : Int)) 7 snA _ (HE.out.below HA4.out.below) HA4.out).mono ?_
    rintro e w5 h
    rw [fb_resp HI.out.1 HI.out.2.1] at h
    obtain ⟨rfl, β5, v5, hA⟩ := turn_of h
    have HA5 := Lib.hid hA; clear hA h HA4
    go_wp2_with (fail)
    refine (tick_any w B β5 _ v5 ((pn : Int) + (pl : Int)) _ HA5.out).mono ?_
    rintro e w6 h
    rw [fb_tick1] at h
    obtain ⟨rfl, β6, v6, hA⟩ := turn_of h
    have HA6 := Lib.hid hA; clear hA h HA5
    go_wp2_with (fail)
    refine (pactive_is B β6 _ v6 _ HA6.out.is (1001 + (pb : Int)) 7 rfl).mono ?_
    rintro e w7 ⟨rfl, hb⟩
    have HA7 := Lib.hid (HA6.out.of_below hb); clear hb HA6
    go_wp2_with (fail)
    refine (tick_any w B β6 _ v6 ((pn : Int) + 1000) _ HA7.out).mono ?_
    rintro e w8 h
    rw [fb_tick1] at h
    obtain ⟨rfl, β8, v8, hA⟩ := turn_of h
    have HA8 := Lib.hid hA; clear hA h HA7
    go_wp2_with (fail)
    refine (pactive_is B β8 _ v8 _ HA8.out.is (1001 + (pb : Int)) 7 rfl).mono ?_
    rintro e w9 ⟨rfl, hb⟩
    have HA9 := Lib.hid (HA8.out.of_below hb); clear hb HA8
    go_wp2
    go_ret
    exact ⟨rfl, HA9.out.below⟩

end Go.Proofs.YtmdfpknhfkgfoaaDoor
