/- law24.sane: the walk. Printed by gensane.py. -/
import Derived.Test.YtmdfpknhfkgfoaaDoorPSaneP
namespace Go.Proofs.YtmdfpknhfkgfoaaDoor
open Go.RowKit Go.Shelf

theorem turn_of {w0 : World} {B : Nat} {β : Int × Int → Nat} {S S' : PS} {v x : Value} {w w' : World} {e : Ending} (h : TurnPost w0 B β S v x S' w e w') : e = .returned x ∧ ∃ β' v', PAt w0 B β' S' v' w' := ⟨h.1, let ⟨b, u, hG⟩ := h.2; ⟨b, u, hG.now⟩⟩

set_option maxRecDepth 100000 in
set_option maxHeartbeats 4000000 in
theorem sane24_any (aA aP : Addr) (w : World) (hE : Errs aA aP w) : Calls Tryd.prog 12 #[] w (SomeB (.bool true) w) := by
  have HE := Lib.hid hE; clear hE
  go_enter Tryd.func12, Tryd.ntmps12
  go_wp2_with (fail)
  refine (pnew_yes 100 1 true _ rfl).mono ?_
  rintro e w1 ⟨B, β1, v1, rfl, hA⟩
  have HA1 := Lib.hid hA; clear hA
  go_wp2_with (fail)
  refine (pnew_no 100 0 true _ rfl).mono ?_
  rintro e w2 ⟨rfl, hb⟩
  have HA2 := Lib.hid (HA1.out.of_below hb); clear hb HA1
  go_wp2_with (fail)
  refine (received_any aA aP w B β1 _ v1 5 100 2 40 _ HE.out HA2.out (by intro k hk; cases hk) (by intro e he; simp [PS1] at he; subst he; decide)).mono ?_
  rintro e w3 h
  rw [sn_recv] at h
  obtain ⟨rfl, β3, v3, hA⟩ := turn_of h
  have HA3 := Lib.hid hA; clear hA h HA2
  go_wp2_with (fail)
  refine (allows_any aA aP w B β3 _ v3 100 2 120 _ (HE.out.below HA3.out.below) HA3.out).mono ?_
  rintro e w4 ⟨rfl, hb⟩
  rw [sn_alw1]
  have HA4 := Lib.hid (HA3.out.of_below hb); clear hb HA3
  go_wp2_with (fail)
  refine (allows_any aA aP w B β3 _ v3 100 2 121 _ (HE.out.below HA4.out.below) HA4.out).mono ?_
  rintro e w5 ⟨rfl, hb⟩
  rw [sn_alw2]
  have HA5 := Lib.hid (HA4.out.of_below hb); clear hb HA4
  go_wp2_with (fail)
  refine (challenge_any aA aP w B β3 _ v3 5 100 2 snA _ (HE.out.below HA5.out.below) HA5.out).mono ?_
  rintro e w6 h
  rw [sn_chal] at h
  obtain ⟨rfl, β6, v6, hA⟩ := turn_of h
  have HA6 := Lib.hid hA; clear hA h HA5
  go_wp2_with (fail)
  refine (migrate_any aA aP w B β6 _ v6 100 2 _ (HE.out.below HA6.out.below) HA6.out).mono ?_
  rintro e w7 h
  rw [sn_migr] at h
  obtain ⟨rfl, β7, v7, hA⟩ := turn_of h
  have HA7 := Lib.hid hA; clear hA h HA6
  go_wp2_with (fail)
  refine (respond_any aA aP w B β7 _ v7 6 100 2 _ _ (HE.out.below HA7.out.below) HA7.out).mono ?_
  rintro e w8 h
  rw [sn_resp] at h
  obtain ⟨rfl, β8, v8, hA⟩ := turn_of h
  have HA8 := Lib.hid hA; clear hA h HA7
  go_wp2_with (fail)
  refine (tick_any w B β8 _ v8 205 _ HA8.out).mono ?_
  rintro e w9 h
  rw [sn_tick1] at h
  obtain ⟨rfl, β9, v9, hA⟩ := turn_of h
  have HA9 := Lib.hid hA; clear hA h HA8
  go_wp2_with (fail)
  refine (tick_any w B β9 _ v9 206 _ HA9.out).mono ?_
  rintro e w10 h
  rw [sn_tick2] at h
  obtain ⟨rfl, β10, v10, hA⟩ := turn_of h
  have HA10 := Lib.hid hA; clear hA h HA9
  go_wp2_with (fail)
  refine (pactive_any B β10 _ v10 _ HA10.out.is).mono ?_
  rintro e w11 ⟨rfl, hb⟩
  have HA11 := Lib.hid (HA10.out.of_below hb); clear hb HA10
  go_wp2_with (fail)
  refine (migrate_any aA aP w B β10 _ v10 100 3 _ (HE.out.below HA11.out.below) HA11.out).mono ?_
  rintro e w12 h
  rw [sn_migr2] at h
  obtain ⟨rfl, β12, v12, hA⟩ := turn_of h
  have HA12 := Lib.hid hA; clear hA h HA11
  go_wp2_with (fail)
  refine (sent_any aA aP w B β12 _ v12 100 2 121 _ (HE.out.below HA12.out.below) HA12.out (by intro e he; simp [snS1, sn1, sn2] at he; rcases he with rfl | rfl <;> decide)).mono ?_
  rintro e w13 h
  rw [sn_sent] at h
  obtain ⟨rfl, β13, v13, hA⟩ := turn_of h
  have HA13 := Lib.hid hA; clear hA h HA12
  go_wp2_with (fail)
  refine (challenge_any aA aP w B β13 _ v13 7 100 2 snB _ (HE.out.below HA13.out.below) HA13.out).mono ?_
  rintro e w14 h
  rw [sn_chal2] at h
  obtain ⟨rfl, β14, v14, hA⟩ := turn_of h
  have HA14 := Lib.hid hA; clear hA h HA13
  go_wp2_with (fail)
  refine (respond_any aA aP w B β14 _ v14 8 100 2 snB _ (HE.out.below HA14.out.below) HA14.out).mono ?_
  rintro e w15 h
  rw [sn_resp2] at h
  obtain ⟨rfl, β15, v15, hA⟩ := turn_of h
  have HA15 := Lib.hid hA; clear hA h HA14
  go_wp2_with (fail)
  refine (valid_any aA aP B β15 _ v15 100 2 _ (HE.out.below HA15.out.below) HA15.out.is).mono ?_
  rintro e w16 ⟨rfl, hb⟩
  rw [sn_val1]
  have HA16 := Lib.hid (HA15.out.of_below hb); clear hb HA15
  go_wp2_with (fail)
  refine (valid_any aA aP B β15 _ v15 100 1 _ (HE.out.below HA16.out.below) HA16.out.is).mono ?_
  rintro e w17 ⟨rfl, hb⟩
  rw [sn_val2]
  have HA17 := Lib.hid (HA16.out.of_below hb); clear hb HA16
  go_wp2_with (fail)
  refine (len_any B β15 _ v15 _ HA17.out.is).mono ?_
  rintro e w18 ⟨rfl, hb⟩
  rw [sn_len]
  have HA18 := Lib.hid (HA17.out.of_below hb); clear hb HA17
  go_wp2
  go_ret
  exact ⟨rfl, HA18.out.below⟩

end Go.Proofs.YtmdfpknhfkgfoaaDoor
