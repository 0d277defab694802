/- The walk of PathBadArguments. Printed by genline.py. -/
import Derived.Test.YtmdfpknhfkgfoaaDoorPLineW
namespace Go.Proofs.YtmdfpknhfkgfoaaDoor
open Go.RowKit Go.Shelf
set_option linter.unusedVariables false

set_option maxRecDepth 100000 in
set_option maxHeartbeats 8000000 in
theorem bad_lo_e (aA aP : Addr) (now n : Int) (s : ByteArray) (w : World) (hE : Errs aA aP w) (hnow : in63 now) (hn : in63 n) (hs : s.size ≤ maxLen) (ht : now < 0) (hz : s.size = 8) :
    Calls Tryd.prog 3 #[.int .i64 now, .int .i64 n, .string s] w (SomeB (.bool true) w) := by
  have HE := Lib.hid hE; clear hE
  have HZ := Lib.hid hz
  have t1 : ((0 : Int) ≤ now) = False := eq_false (by omega)
  have z2 : (((s.size : Nat) : Int) == 8) = true := by rw [hz]; rfl
  have z1 : s.size ≤ 20 := by omega
  clear hz
  have hpl := pkN_lt n 100 (by decide)
  obtain ⟨pn, hpn⟩ : ∃ p, Hid (pkN n 100 = p) := ⟨_, rfl⟩
  rw [hpn.out] at hpl
  go_enter Tryd.func3, Tryd.ntmps3
  go_wp2_with (fail)
  refine (sane24_any aA aP w HE.out).mono ?_
  rintro e w0 ⟨rfl, hb0⟩
  have HB0 := Lib.hid hb0; clear hb0
  go_wp2_with (fail)
  refine (pnew_yes 100 1 false _ rfl).mono ?_
  rintro e w1 ⟨B, β1, v1, rfl, hA⟩
  have HA1 := Lib.hid (hA.base_mono HB0.out); clear hA HB0
  have HA1 : Hid (PAt w B β1 (baS ⟨#[]⟩ 0 0) v1 w1) := HA1
  go_wp2_with (fail)
  refine (challenge_any aA aP w B β1 _ v1 now 100 1 s _ (HE.out.below HA1.out.below) HA1.out).mono ?_
  rintro e w2 h
  rw [ba_chal_no (by rintro ⟨⟨_, _⟩, _⟩; omega)] at h
  obtain ⟨rfl, β2, v2, hA⟩ := turn_of h
  have HA2 := Lib.hid hA; clear hA h HA1
  go_wp2_with (fail)
  refine (challenge_any aA aP w B β2 _ v2 5 100 2 snA _ (HE.out.below HA2.out.below) HA2.out).mono ?_
  rintro e w3 h
  rw [ba_chal2] at h
  obtain ⟨rfl, β3, v3, hA⟩ := turn_of h
  have HA3 := Lib.hid hA; clear hA h HA2
  go_wp2_with (fail)
  refine (pick24_any n 100 _ (by decide) (by decide) hn.1 hn.2).mono ?_
  rintro e w1 ⟨rfl, rfl⟩
  rw [hpn.out]
  go_wp2_with (fail)
  refine (sent_any aA aP w B β3 _ v3 100 2 (pn : Int) _ (HE.out.below HA3.out.below) HA3.out (by intro e he; simp [baS] at he; subst he; show (0 : Int) + _ ≤ _; omega)).mono ?_
  rintro e w4 h
  rw [ba_sent (by omega)] at h
  obtain ⟨rfl, β4, v4, hA⟩ := turn_of h
  have HA4 := Lib.hid hA; clear hA h HA3
  go_wp2_with (fail)
  refine (pick24_any n 100 _ (by decide) (by decide) hn.1 hn.2).mono ?_
  rintro e w1 ⟨rfl, rfl⟩
  rw [hpn.out]
  go_wp2_with (fail)
  refine (sent_any aA aP w B β4 _ v4 100 1 (-1 - (pn : Int)) _ (HE.out.below HA4.out.below) HA4.out (by intro e he; simp [baS] at he; subst he; show (0 : Int) + _ ≤ _; omega)).mono ?_
  rintro e w5 h
  rw [ba_sent2 (by omega)] at h
  obtain ⟨rfl, β5, v5, hA⟩ := turn_of h
  have HA5 := Lib.hid hA; clear hA h HA4
  go_wp2_with (fail)
  refine (pick24_any n 100 _ (by decide) (by decide) hn.1 hn.2).mono ?_
  rintro e w1 ⟨rfl, rfl⟩
  rw [hpn.out]
  go_wp2_with (fail)
  refine (received_any aA aP w B β5 _ v5 now 100 1 (pn : Int) _ HE.out HA5.out (by intro k hk; cases hk) (by intro e he; simp [baS] at he; subst he; intro h; show (0 : Int) + _ ≤ _; omega)).mono ?_
  rintro e w6 h
  rw [ba_recv_no (by omega)] at h
  obtain ⟨rfl, β6, v6, hA⟩ := turn_of h
  have HA6 := Lib.hid hA; clear hA h HA5
  go_wp2_with (fail)
  refine (pick24_any n 100 _ (by decide) (by decide) hn.1 hn.2).mono ?_
  rintro e w1 ⟨rfl, rfl⟩
  rw [hpn.out]
  go_wp2_with (fail)
  refine (received_any aA aP w B β6 _ v6 5 100 (65536 + (pn : Int)) 1 _ HE.out HA6.out (by intro k hk; cases hk) (by intro e he; simp [baS] at he; subst he; intro h; simp <;> omega)).mono ?_
  rintro e w7 h
  rw [ba_recv2 (by omega)] at h
  obtain ⟨rfl, β7, v7, hA⟩ := turn_of h
  have HA7 := Lib.hid hA; clear hA h HA6
  go_wp2_with (fail)
  refine (len_any B β7 _ v7 _ HA7.out.is).mono ?_
  rintro e w8 ⟨rfl, hb⟩
  rw [show (baS ⟨#[]⟩ 0 0).es.length = 1 from rfl]
  have HA8 := Lib.hid (HA7.out.of_below hb); clear hb HA7
  go_wp2_with (fail)
  refine (valid_any aA aP B β7 _ v7 100 1 _ (HE.out.below HA8.out.below) HA8.out.is).mono ?_
  rintro e w9 ⟨rfl, hb⟩
  rw [ba_val]
  have HA9 := Lib.hid (HA8.out.of_below hb); clear hb HA8
  go_wp2
  go_ret
  exact ⟨rfl, HA9.out.below⟩

set_option maxRecDepth 100000 in
set_option maxHeartbeats 8000000 in
theorem bad_lo_n (aA aP : Addr) (now n : Int) (s : ByteArray) (w : World) (hE : Errs aA aP w) (hnow : in63 now) (hn : in63 n) (hs : s.size ≤ maxLen) (ht : now < 0) (hz : s.size ≤ 20 ∧ s.size ≠ 8) :
    Calls Tryd.prog 3 #[.int .i64 now, .int .i64 n, .string s] w (SomeB (.bool true) w) := by
  have HE := Lib.hid hE; clear hE
  have HZ := Lib.hid hz
  have t1 : ((0 : Int) ≤ now) = False := eq_false (by omega)
  have z2 : (((s.size : Nat) : Int) == 8) = false := by rw [beq_eq_false_iff_ne]; omega
  obtain ⟨hz, _⟩ := hz
  have hpl := pkN_lt n 100 (by decide)
  obtain ⟨pn, hpn⟩ : ∃ p, Hid (pkN n 100 = p) := ⟨_, rfl⟩
  rw [hpn.out] at hpl
  go_enter Tryd.func3, Tryd.ntmps3
  go_wp2_with (fail)
  refine (sane24_any aA aP w HE.out).mono ?_
  rintro e w0 ⟨rfl, hb0⟩
  have HB0 := Lib.hid hb0; clear hb0
  go_wp2_with (fail)
  refine (pnew_yes 100 1 false _ rfl).mono ?_
  rintro e w1 ⟨B, β1, v1, rfl, hA⟩
  have HA1 := Lib.hid (hA.base_mono HB0.out); clear hA HB0
  have HA1 : Hid (PAt w B β1 (baS ⟨#[]⟩ 0 0) v1 w1) := HA1
  go_wp2_with (fail)
  refine (challenge_any aA aP w B β1 _ v1 now 100 1 s _ (HE.out.below HA1.out.below) HA1.out).mono ?_
  rintro e w2 h
  rw [ba_chal_no (by rintro ⟨_, hh⟩; exact absurd hh HZ.out.2)] at h
  obtain ⟨rfl, β2, v2, hA⟩ := turn_of h
  have HA2 := Lib.hid hA; clear hA h HA1
  go_wp2_with (fail)
  refine (challenge_any aA aP w B β2 _ v2 5 100 2 snA _ (HE.out.below HA2.out.below) HA2.out).mono ?_
  rintro e w3 h
  rw [ba_chal2] at h
  obtain ⟨rfl, β3, v3, hA⟩ := turn_of h
  have HA3 := Lib.hid hA; clear hA h HA2
  go_wp2_with (fail)
  refine (pick24_any n 100 _ (by decide) (by decide) hn.1 hn.2).mono ?_
  rintro e w1 ⟨rfl, rfl⟩
  rw [hpn.out]
  go_wp2_with (fail)
  refine (sent_any aA aP w B β3 _ v3 100 2 (pn : Int) _ (HE.out.below HA3.out.below) HA3.out (by intro e he; simp [baS] at he; subst he; show (0 : Int) + _ ≤ _; omega)).mono ?_
  rintro e w4 h
  rw [ba_sent (by omega)] at h
  obtain ⟨rfl, β4, v4, hA⟩ := turn_of h
  have HA4 := Lib.hid hA; clear hA h HA3
  go_wp2_with (fail)
  refine (pick24_any n 100 _ (by decide) (by decide) hn.1 hn.2).mono ?_
  rintro e w1 ⟨rfl, rfl⟩
  rw [hpn.out]
  go_wp2_with (fail)
  refine (sent_any aA aP w B β4 _ v4 100 1 (-1 - (pn : Int)) _ (HE.out.below HA4.out.below) HA4.out (by intro e he; simp [baS] at he; subst he; show (0 : Int) + _ ≤ _; omega)).mono ?_
  rintro e w5 h
  rw [ba_sent2 (by omega)] at h
  obtain ⟨rfl, β5, v5, hA⟩ := turn_of h
  have HA5 := Lib.hid hA; clear hA h HA4
  go_wp2_with (fail)
  refine (pick24_any n 100 _ (by decide) (by decide) hn.1 hn.2).mono ?_
  rintro e w1 ⟨rfl, rfl⟩
  rw [hpn.out]
  go_wp2_with (fail)
  refine (received_any aA aP w B β5 _ v5 now 100 1 (pn : Int) _ HE.out HA5.out (by intro k hk; cases hk) (by intro e he; simp [baS] at he; subst he; intro h; show (0 : Int) + _ ≤ _; omega)).mono ?_
  rintro e w6 h
  rw [ba_recv_no (by omega)] at h
  obtain ⟨rfl, β6, v6, hA⟩ := turn_of h
  have HA6 := Lib.hid hA; clear hA h HA5
  go_wp2_with (fail)
  refine (pick24_any n 100 _ (by decide) (by decide) hn.1 hn.2).mono ?_
  rintro e w1 ⟨rfl, rfl⟩
  rw [hpn.out]
  go_wp2_with (fail)
  refine (received_any aA aP w B β6 _ v6 5 100 (65536 + (pn : Int)) 1 _ HE.out HA6.out (by intro k hk; cases hk) (by intro e he; simp [baS] at he; subst he; intro h; simp <;> omega)).mono ?_
  rintro e w7 h
  rw [ba_recv2 (by omega)] at h
  obtain ⟨rfl, β7, v7, hA⟩ := turn_of h
  have HA7 := Lib.hid hA; clear hA h HA6
  go_wp2_with (fail)
  refine (len_any B β7 _ v7 _ HA7.out.is).mono ?_
  rintro e w8 ⟨rfl, hb⟩
  rw [show (baS ⟨#[]⟩ 0 0).es.length = 1 from rfl]
  have HA8 := Lib.hid (HA7.out.of_below hb); clear hb HA7
  go_wp2_with (fail)
  refine (valid_any aA aP B β7 _ v7 100 1 _ (HE.out.below HA8.out.below) HA8.out.is).mono ?_
  rintro e w9 ⟨rfl, hb⟩
  rw [ba_val]
  have HA9 := Lib.hid (HA8.out.of_below hb); clear hb HA8
  go_wp2
  go_ret
  exact ⟨rfl, HA9.out.below⟩

set_option maxRecDepth 100000 in
set_option maxHeartbeats 8000000 in
theorem bad_lo_g (aA aP : Addr) (now n : Int) (s : ByteArray) (w : World) (hE : Errs aA aP w) (hnow : in63 now) (hn : in63 n) (hs : s.size ≤ maxLen) (ht : now < 0) (hz : 20 < s.size) :
    Calls Tryd.prog 3 #[.int .i64 now, .int .i64 n, .string s] w (SomeB (.bool true) w) := by
  have HE := Lib.hid hE; clear hE
  have HZ := Lib.hid hz
  have t1 : ((0 : Int) ≤ now) = False := eq_false (by omega)
  have z3 : (s.extract 0 20).size = 20 := by rw [ByteArray.size_extract]; omega
  have HZ3 := Lib.hid z3
  have hpl := pkN_lt n 100 (by decide)
  obtain ⟨pn, hpn⟩ : ∃ p, Hid (pkN n 100 = p) := ⟨_, rfl⟩
  rw [hpn.out] at hpl
  go_enter Tryd.func3, Tryd.ntmps3
  go_wp2_with (fail)
  refine (sane24_any aA aP w HE.out).mono ?_
  rintro e w0 ⟨rfl, hb0⟩
  have HB0 := Lib.hid hb0; clear hb0
  go_wp2_with (fail)
  refine (pnew_yes 100 1 false _ rfl).mono ?_
  rintro e w1 ⟨B, β1, v1, rfl, hA⟩
  have HA1 := Lib.hid (hA.base_mono HB0.out); clear hA HB0
  have HA1 : Hid (PAt w B β1 (baS ⟨#[]⟩ 0 0) v1 w1) := HA1
  go_wp2_with (fail)
  refine (challenge_any aA aP w B β1 _ v1 now 100 1 (s.extract 0 20) _ (HE.out.below HA1.out.below) HA1.out).mono ?_
  rintro e w2 h
  rw [ba_chal_no (by rintro ⟨_, hh⟩; rw [HZ3.out] at hh; exact absurd hh (by decide))] at h
  obtain ⟨rfl, β2, v2, hA⟩ := turn_of h
  have HA2 := Lib.hid hA; clear hA h HA1
  go_wp2_with (fail)
  refine (challenge_any aA aP w B β2 _ v2 5 100 2 snA _ (HE.out.below HA2.out.below) HA2.out).mono ?_
  rintro e w3 h
  rw [ba_chal2] at h
  obtain ⟨rfl, β3, v3, hA⟩ := turn_of h
  have HA3 := Lib.hid hA; clear hA h HA2
  go_wp2_with (fail)
  refine (pick24_any n 100 _ (by decide) (by decide) hn.1 hn.2).mono ?_
  rintro e w1 ⟨rfl, rfl⟩
  rw [hpn.out]
  go_wp2_with (fail)
  refine (sent_any aA aP w B β3 _ v3 100 2 (pn : Int) _ (HE.out.below HA3.out.below) HA3.out (by intro e he; simp [baS] at he; subst he; show (0 : Int) + _ ≤ _; omega)).mono ?_
  rintro e w4 h
  rw [ba_sent (by omega)] at h
  obtain ⟨rfl, β4, v4, hA⟩ := turn_of h
  have HA4 := Lib.hid hA; clear hA h HA3
  go_wp2_with (fail)
  refine (pick24_any n 100 _ (by decide) (by decide) hn.1 hn.2).mono ?_
  rintro e w1 ⟨rfl, rfl⟩
  rw [hpn.out]
  go_wp2_with (fail)
  refine (sent_any aA aP w B β4 _ v4 100 1 (-1 - (pn : Int)) _ (HE.out.below HA4.out.below) HA4.out (by intro e he; simp [baS] at he; subst he; show (0 : Int) + _ ≤ _; omega)).mono ?_
  rintro e w5 h
  rw [ba_sent2 (by omega)] at h
  obtain ⟨rfl, β5, v5, hA⟩ := turn_of h
  have HA5 := Lib.hid hA; clear hA h HA4
  go_wp2_with (fail)
  refine (pick24_any n 100 _ (by decide) (by decide) hn.1 hn.2).mono ?_
  rintro e w1 ⟨rfl, rfl⟩
  rw [hpn.out]
  go_wp2_with (fail)
  refine (received_any aA aP w B β5 _ v5 now 100 1 (pn : Int) _ HE.out HA5.out (by intro k hk; cases hk) (by intro e he; simp [baS] at he; subst he; intro h; show (0 : Int) + _ ≤ _; omega)).mono ?_
  rintro e w6 h
  rw [ba_recv_no (by omega)] at h
  obtain ⟨rfl, β6, v6, hA⟩ := turn_of h
  have HA6 := Lib.hid hA; clear hA h HA5
  go_wp2_with (fail)
  refine (pick24_any n 100 _ (by decide) (by decide) hn.1 hn.2).mono ?_
  rintro e w1 ⟨rfl, rfl⟩
  rw [hpn.out]
  go_wp2_with (fail)
  refine (received_any aA aP w B β6 _ v6 5 100 (65536 + (pn : Int)) 1 _ HE.out HA6.out (by intro k hk; cases hk) (by intro e he; simp [baS] at he; subst he; intro h; simp <;> omega)).mono ?_
  rintro e w7 h
  rw [ba_recv2 (by omega)] at h
  obtain ⟨rfl, β7, v7, hA⟩ := turn_of h
  have HA7 := Lib.hid hA; clear hA h HA6
  go_wp2_with (fail)
  refine (len_any B β7 _ v7 _ HA7.out.is).mono ?_
  rintro e w8 ⟨rfl, hb⟩
  rw [show (baS ⟨#[]⟩ 0 0).es.length = 1 from rfl]
  have HA8 := Lib.hid (HA7.out.of_below hb); clear hb HA7
  go_wp2_with (fail)
  refine (valid_any aA aP B β7 _ v7 100 1 _ (HE.out.below HA8.out.below) HA8.out.is).mono ?_
  rintro e w9 ⟨rfl, hb⟩
  rw [ba_val]
  have HA9 := Lib.hid (HA8.out.of_below hb); clear hb HA8
  go_wp2
  go_ret
  exact ⟨rfl, HA9.out.below⟩

set_option maxRecDepth 100000 in
set_option maxHeartbeats 8000000 in
theorem bad_in_e (aA aP : Addr) (now n : Int) (s : ByteArray) (w : World) (hE : Errs aA aP w) (hnow : in63 now) (hn : in63 n) (hs : s.size ≤ maxLen) (ht : 0 ≤ now ∧ now ≤ 1000000000) (hz : s.size = 8) :
    Calls Tryd.prog 3 #[.int .i64 now, .int .i64 n, .string s] w (SomeB (.bool true) w) := by
  have HE := Lib.hid hE; clear hE
  have HZ := Lib.hid hz
  have t1 : ((0 : Int) ≤ now) = True := eq_true (by omega)
  have t2 : (now ≤ (1000000000 : Int)) = True := eq_true (by omega)
  have z2 : (((s.size : Nat) : Int) == 8) = true := by rw [hz]; rfl
  have z1 : s.size ≤ 20 := by omega
  clear hz
  have hpl := pkN_lt n 100 (by decide)
  obtain ⟨pn, hpn⟩ : ∃ p, Hid (pkN n 100 = p) := ⟨_, rfl⟩
  rw [hpn.out] at hpl
  go_enter Tryd.func3, Tryd.ntmps3
  go_wp2_with (fail)
  refine (sane24_any aA aP w HE.out).mono ?_
  rintro e w0 ⟨rfl, hb0⟩
  have HB0 := Lib.hid hb0; clear hb0
  go_wp2_with (fail)
  refine (pnew_yes 100 1 false _ rfl).mono ?_
  rintro e w1 ⟨B, β1, v1, rfl, hA⟩
  have HA1 := Lib.hid (hA.base_mono HB0.out); clear hA HB0
  have HA1 : Hid (PAt w B β1 (baS ⟨#[]⟩ 0 0) v1 w1) := HA1
  go_wp2_with (fail)
  refine (challenge_any aA aP w B β1 _ v1 now 100 1 s _ (HE.out.below HA1.out.below) HA1.out).mono ?_
  rintro e w2 h
  rw [ba_chal_yes ht HZ.out] at h
  obtain ⟨rfl, β2, v2, hA⟩ := turn_of h
  have HA2 := Lib.hid hA; clear hA h HA1
  go_wp2_with (fail)
  refine (challenge_any aA aP w B β2 _ v2 5 100 2 snA _ (HE.out.below HA2.out.below) HA2.out).mono ?_
  rintro e w3 h
  rw [ba_chal2] at h
  obtain ⟨rfl, β3, v3, hA⟩ := turn_of h
  have HA3 := Lib.hid hA; clear hA h HA2
  go_wp2_with (fail)
  refine (pick24_any n 100 _ (by decide) (by decide) hn.1 hn.2).mono ?_
  rintro e w1 ⟨rfl, rfl⟩
  rw [hpn.out]
  go_wp2_with (fail)
  refine (sent_any aA aP w B β3 _ v3 100 2 (pn : Int) _ (HE.out.below HA3.out.below) HA3.out (by intro e he; simp [baS] at he; subst he; show (0 : Int) + _ ≤ _; omega)).mono ?_
  rintro e w4 h
  rw [ba_sent (by omega)] at h
  obtain ⟨rfl, β4, v4, hA⟩ := turn_of h
  have HA4 := Lib.hid hA; clear hA h HA3
  go_wp2_with (fail)
  refine (pick24_any n 100 _ (by decide) (by decide) hn.1 hn.2).mono ?_
  rintro e w1 ⟨rfl, rfl⟩
  rw [hpn.out]
  go_wp2_with (fail)
  refine (sent_any aA aP w B β4 _ v4 100 1 (-1 - (pn : Int)) _ (HE.out.below HA4.out.below) HA4.out (by intro e he; simp [baS] at he; subst he; show (0 : Int) + _ ≤ _; omega)).mono ?_
  rintro e w5 h
  rw [ba_sent2 (by omega)] at h
  obtain ⟨rfl, β5, v5, hA⟩ := turn_of h
  have HA5 := Lib.hid hA; clear hA h HA4
  go_wp2_with (fail)
  refine (pick24_any n 100 _ (by decide) (by decide) hn.1 hn.2).mono ?_
  rintro e w1 ⟨rfl, rfl⟩
  rw [hpn.out]
  go_wp2_with (fail)
  refine (received_any aA aP w B β5 _ v5 now 100 1 (pn : Int) _ HE.out HA5.out (by intro k hk; cases hk) (by intro e he; simp [baS] at he; subst he; intro h; show (0 : Int) + _ ≤ _; omega)).mono ?_
  rintro e w6 h
  rw [ba_recv_yes (by omega) ht] at h
  obtain ⟨rfl, β6, v6, hA⟩ := turn_of h
  have HA6 := Lib.hid hA; clear hA h HA5
  go_wp2_with (fail)
  refine (pick24_any n 100 _ (by decide) (by decide) hn.1 hn.2).mono ?_
  rintro e w1 ⟨rfl, rfl⟩
  rw [hpn.out]
  go_wp2_with (fail)
  refine (received_any aA aP w B β6 _ v6 5 100 (65536 + (pn : Int)) 1 _ HE.out HA6.out (by intro k hk; cases hk) (by intro e he; simp [baS] at he; subst he; intro h; simp <;> omega)).mono ?_
  rintro e w7 h
  rw [ba_recv2 (by omega)] at h
  obtain ⟨rfl, β7, v7, hA⟩ := turn_of h
  have HA7 := Lib.hid hA; clear hA h HA6
  go_wp2_with (fail)
  refine (len_any B β7 _ v7 _ HA7.out.is).mono ?_
  rintro e w8 ⟨rfl, hb⟩
  rw [show (baS s now (0 + (pn : Int))).es.length = 1 from rfl]
  have HA8 := Lib.hid (HA7.out.of_below hb); clear hb HA7
  go_wp2_with (fail)
  refine (valid_any aA aP B β7 _ v7 100 1 _ (HE.out.below HA8.out.below) HA8.out.is).mono ?_
  rintro e w9 ⟨rfl, hb⟩
  rw [ba_val]
  have HA9 := Lib.hid (HA8.out.of_below hb); clear hb HA8
  go_wp2
  go_ret
  exact ⟨rfl, HA9.out.below⟩

set_option maxRecDepth 100000 in
set_option maxHeartbeats 8000000 in
theorem bad_in_n (aA aP : Addr) (now n : Int) (s : ByteArray) (w : World) (hE : Errs aA aP w) (hnow : in63 now) (hn : in63 n) (hs : s.size ≤ maxLen) (ht : 0 ≤ now ∧ now ≤ 1000000000) (hz : s.size ≤ 20 ∧ s.size ≠ 8) :
    Calls Tryd.prog 3 #[.int .i64 now, .int .i64 n, .string s] w (SomeB (.bool true) w) := by
  have HE := Lib.hid hE; clear hE
  have HZ := Lib.hid hz
  have t1 : ((0 : Int) ≤ now) = True := eq_true (by omega)
  have t2 : (now ≤ (1000000000 : Int)) = True := eq_true (by omega)
  have z2 : (((s.size : Nat) : Int) == 8) = false := by rw [beq_eq_false_iff_ne]; omega
  obtain ⟨hz, _⟩ := hz
  have hpl := pkN_lt n 100 (by decide)
  obtain ⟨pn, hpn⟩ : ∃ p, Hid (pkN n 100 = p) := ⟨_, rfl⟩
  rw [hpn.out] at hpl
  go_enter Tryd.func3, Tryd.ntmps3
  go_wp2_with (fail)
  refine (sane24_any aA aP w HE.out).mono ?_
  rintro e w0 ⟨rfl, hb0⟩
  have HB0 := Lib.hid hb0; clear hb0
  go_wp2_with (fail)
  refine (pnew_yes 100 1 false _ rfl).mono ?_
  rintro e w1 ⟨B, β1, v1, rfl, hA⟩
  have HA1 := Lib.hid (hA.base_mono HB0.out); clear hA HB0
  have HA1 : Hid (PAt w B β1 (baS ⟨#[]⟩ 0 0) v1 w1) := HA1
  go_wp2_with (fail)
  refine (challenge_any aA aP w B β1 _ v1 now 100 1 s _ (HE.out.below HA1.out.below) HA1.out).mono ?_
  rintro e w2 h
  rw [ba_chal_no (by rintro ⟨_, hh⟩; exact absurd hh HZ.out.2)] at h
  obtain ⟨rfl, β2, v2, hA⟩ := turn_of h
  have HA2 := Lib.hid hA; clear hA h HA1
  go_wp2_with (fail)
  refine (challenge_any aA aP w B β2 _ v2 5 100 2 snA _ (HE.out.below HA2.out.below) HA2.out).mono ?_
  rintro e w3 h
  rw [ba_chal2] at h
  obtain ⟨rfl, β3, v3, hA⟩ := turn_of h
  have HA3 := Lib.hid hA; clear hA h HA2
  go_wp2_with (fail)
  refine (pick24_any n 100 _ (by decide) (by decide) hn.1 hn.2).mono ?_
  rintro e w1 ⟨rfl, rfl⟩
  rw [hpn.out]
  go_wp2_with (fail)
  refine (sent_any aA aP w B β3 _ v3 100 2 (pn : Int) _ (HE.out.below HA3.out.below) HA3.out (by intro e he; simp [baS] at he; subst he; show (0 : Int) + _ ≤ _; omega)).mono ?_
  rintro e w4 h
  rw [ba_sent (by omega)] at h
  obtain ⟨rfl, β4, v4, hA⟩ := turn_of h
  have HA4 := Lib.hid hA; clear hA h HA3
  go_wp2_with (fail)
  refine (pick24_any n 100 _ (by decide) (by decide) hn.1 hn.2).mono ?_
  rintro e w1 ⟨rfl, rfl⟩
  rw [hpn.out]
  go_wp2_with (fail)
  refine (sent_any aA aP w B β4 _ v4 100 1 (-1 - (pn : Int)) _ (HE.out.below HA4.out.below) HA4.out (by intro e he; simp [baS] at he; subst he; show (0 : Int) + _ ≤ _; omega)).mono ?_
  rintro e w5 h
  rw [ba_sent2 (by omega)] at h
  obtain ⟨rfl, β5, v5, hA⟩ := turn_of h
  have HA5 := Lib.hid hA; clear hA h HA4
  go_wp2_with (fail)
  refine (pick24_any n 100 _ (by decide) (by decide) hn.1 hn.2).mono ?_
  rintro e w1 ⟨rfl, rfl⟩
  rw [hpn.out]
  go_wp2_with (fail)
  refine (received_any aA aP w B β5 _ v5 now 100 1 (pn : Int) _ HE.out HA5.out (by intro k hk; cases hk) (by intro e he; simp [baS] at he; subst he; intro h; show (0 : Int) + _ ≤ _; omega)).mono ?_
  rintro e w6 h
  rw [ba_recv_yes (by omega) ht] at h
  obtain ⟨rfl, β6, v6, hA⟩ := turn_of h
  have HA6 := Lib.hid hA; clear hA h HA5
  go_wp2_with (fail)
  refine (pick24_any n 100 _ (by decide) (by decide) hn.1 hn.2).mono ?_
  rintro e w1 ⟨rfl, rfl⟩
  rw [hpn.out]
  go_wp2_with (fail)
  refine (received_any aA aP w B β6 _ v6 5 100 (65536 + (pn : Int)) 1 _ HE.out HA6.out (by intro k hk; cases hk) (by intro e he; simp [baS] at he; subst he; intro h; simp <;> omega)).mono ?_
  rintro e w7 h
  rw [ba_recv2 (by omega)] at h
  obtain ⟨rfl, β7, v7, hA⟩ := turn_of h
  have HA7 := Lib.hid hA; clear hA h HA6
  go_wp2_with (fail)
  refine (len_any B β7 _ v7 _ HA7.out.is).mono ?_
  rintro e w8 ⟨rfl, hb⟩
  rw [show (baS ⟨#[]⟩ 0 (0 + (pn : Int))).es.length = 1 from rfl]
  have HA8 := Lib.hid (HA7.out.of_below hb); clear hb HA7
  go_wp2_with (fail)
  refine (valid_any aA aP B β7 _ v7 100 1 _ (HE.out.below HA8.out.below) HA8.out.is).mono ?_
  rintro e w9 ⟨rfl, hb⟩
  rw [ba_val]
  have HA9 := Lib.hid (HA8.out.of_below hb); clear hb HA8
  go_wp2
  go_ret
  exact ⟨rfl, HA9.out.below⟩

set_option maxRecDepth 100000 in
set_option maxHeartbeats 8000000 in
theorem bad_in_g (aA aP : Addr) (now n : Int) (s : ByteArray) (w : World) (hE : Errs aA aP w) (hnow : in63 now) (hn : in63 n) (hs : s.size ≤ maxLen) (ht : 0 ≤ now ∧ now ≤ 1000000000) (hz : 20 < s.size) :
    Calls Tryd.prog 3 #[.int .i64 now, .int .i64 n, .string s] w (SomeB (.bool true) w) := by
  have HE := Lib.hid hE; clear hE
  have HZ := Lib.hid hz
  have t1 : ((0 : Int) ≤ now) = True := eq_true (by omega)
  have t2 : (now ≤ (1000000000 : Int)) = True := eq_true (by omega)
  have z3 : (s.extract 0 20).size = 20 := by rw [ByteArray.size_extract]; omega
  have HZ3 := Lib.hid z3
  have hpl := pkN_lt n 100 (by decide)
  obtain ⟨pn, hpn⟩ : ∃ p, Hid (pkN n 100 = p) := ⟨_, rfl⟩
  rw [hpn.out] at hpl
  go_enter Tryd.func3, Tryd.ntmps3
  go_wp2_with (fail)
  refine (sane24_any aA aP w HE.out).mono ?_
  rintro e w0 ⟨rfl, hb0⟩
  have HB0 := Lib.hid hb0; clear hb0
  go_wp2_with (fail)
  refine (pnew_yes 100 1 false _ rfl).mono ?_
  rintro e w1 ⟨B, β1, v1, rfl, hA⟩
  have HA1 := Lib.hid (hA.base_mono HB0.out); clear hA HB0
  have HA1 : Hid (PAt w B β1 (baS ⟨#[]⟩ 0 0) v1 w1) := HA1
  go_wp2_with (fail)
  refine (challenge_any aA aP w B β1 _ v1 now 100 1 (s.extract 0 20) _ (HE.out.below HA1.out.below) HA1.out).mono ?_
  rintro e w2 h
  rw [ba_chal_no (by rintro ⟨_, hh⟩; rw [HZ3.out] at hh; exact absurd hh (by decide))] at h
  obtain ⟨rfl, β2, v2, hA⟩ := turn_of h
  have HA2 := Lib.hid hA; clear hA h HA1
  go_wp2_with (fail)
  refine (challenge_any aA aP w B β2 _ v2 5 100 2 snA _ (HE.out.below HA2.out.below) HA2.out).mono ?_
  rintro e w3 h
  rw [ba_chal2] at h
  obtain ⟨rfl, β3, v3, hA⟩ := turn_of h
  have HA3 := Lib.hid hA; clear hA h HA2
  go_wp2_with (fail)
  refine (pick24_any n 100 _ (by decide) (by decide) hn.1 hn.2).mono ?_
  rintro e w1 ⟨rfl, rfl⟩
  rw [hpn.out]
  go_wp2_with (fail)
  refine (sent_any aA aP w B β3 _ v3 100 2 (pn : Int) _ (HE.out.below HA3.out.below) HA3.out (by intro e he; simp [baS] at he; subst he; show (0 : Int) + _ ≤ _; omega)).mono ?_
  rintro e w4 h
  rw [ba_sent (by omega)] at h
  obtain ⟨rfl, β4, v4, hA⟩ := turn_of h
  have HA4 := Lib.hid hA; clear hA h HA3
  go_wp2_with (fail)
  refine (pick24_any n 100 _ (by decide) (by decide) hn.1 hn.2).mono ?_
  rintro e w1 ⟨rfl, rfl⟩
  rw [hpn.out]
  go_wp2_with (fail)
  refine (sent_any aA aP w B β4 _ v4 100 1 (-1 - (pn : Int)) _ (HE.out.below HA4.out.below) HA4.out (by intro e he; simp [baS] at he; subst he; show (0 : Int) + _ ≤ _; omega)).mono ?_
  rintro e w5 h
  rw [ba_sent2 (by omega)] at h
  obtain ⟨rfl, β5, v5, hA⟩ := turn_of h
  have HA5 := Lib.hid hA; clear hA h HA4
  go_wp2_with (fail)
  refine (pick24_any n 100 _ (by decide) (by decide) hn.1 hn.2).mono ?_
  rintro e w1 ⟨rfl, rfl⟩
  rw [hpn.out]
  go_wp2_with (fail)
  refine (received_any aA aP w B β5 _ v5 now 100 1 (pn : Int) _ HE.out HA5.out (by intro k hk; cases hk) (by intro e he; simp [baS] at he; subst he; intro h; show (0 : Int) + _ ≤ _; omega)).mono ?_
  rintro e w6 h
  rw [ba_recv_yes (by omega) ht] at h
  obtain ⟨rfl, β6, v6, hA⟩ := turn_of h
  have HA6 := Lib.hid hA; clear hA h HA5
  go_wp2_with (fail)
  refine (pick24_any n 100 _ (by decide) (by decide) hn.1 hn.2).mono ?_
  rintro e w1 ⟨rfl, rfl⟩
  rw [hpn.out]
  go_wp2_with (fail)
  refine (received_any aA aP w B β6 _ v6 5 100 (65536 + (pn : Int)) 1 _ HE.out HA6.out (by intro k hk; cases hk) (by intro e he; simp [baS] at he; subst he; intro h; simp <;> omega)).mono ?_
  rintro e w7 h
  rw [ba_recv2 (by omega)] at h
  obtain ⟨rfl, β7, v7, hA⟩ := turn_of h
  have HA7 := Lib.hid hA; clear hA h HA6
  go_wp2_with (fail)
  refine (len_any B β7 _ v7 _ HA7.out.is).mono ?_
  rintro e w8 ⟨rfl, hb⟩
  rw [show (baS ⟨#[]⟩ 0 (0 + (pn : Int))).es.length = 1 from rfl]
  have HA8 := Lib.hid (HA7.out.of_below hb); clear hb HA7
  go_wp2_with (fail)
  refine (valid_any aA aP B β7 _ v7 100 1 _ (HE.out.below HA8.out.below) HA8.out.is).mono ?_
  rintro e w9 ⟨rfl, hb⟩
  rw [ba_val]
  have HA9 := Lib.hid (HA8.out.of_below hb); clear hb HA8
  go_wp2
  go_ret
  exact ⟨rfl, HA9.out.below⟩

set_option maxRecDepth 100000 in
set_option maxHeartbeats 8000000 in
theorem bad_hi_e (aA aP : Addr) (now n : Int) (s : ByteArray) (w : World) (hE : Errs aA aP w) (hnow : in63 now) (hn : in63 n) (hs : s.size ≤ maxLen) (ht : 1000000000 < now) (hz : s.size = 8) :
    Calls Tryd.prog 3 #[.int .i64 now, .int .i64 n, .string s] w (SomeB (.bool true) w) := by
  have HE := Lib.hid hE; clear hE
  have HZ := Lib.hid hz
  have t1 : ((0 : Int) ≤ now) = True := eq_true (by omega)
  have t2 : (now ≤ (1000000000 : Int)) = False := eq_false (by omega)
  have z2 : (((s.size : Nat) : Int) == 8) = true := by rw [hz]; rfl
  have z1 : s.size ≤ 20 := by omega
  clear hz
  have hpl := pkN_lt n 100 (by decide)
  obtain ⟨pn, hpn⟩ : ∃ p, Hid (pkN n 100 = p) := ⟨_, rfl⟩
  rw [hpn.out] at hpl
  go_enter Tryd.func3, Tryd.ntmps3
  go_wp2_with (fail)
  refine (sane24_any aA aP w HE.out).mono ?_
  rintro e w0 ⟨rfl, hb0⟩
  have HB0 := Lib.hid hb0; clear hb0
  go_wp2_with (fail)
  refine (pnew_yes 100 1 false _ rfl).mono ?_
  rintro e w1 ⟨B, β1, v1, rfl, hA⟩
  have HA1 := Lib.hid (hA.base_mono HB0.out); clear hA HB0
  have HA1 : Hid (PAt w B β1 (baS ⟨#[]⟩ 0 0) v1 w1) := HA1
  go_wp2_with (fail)
  refine (challenge_any aA aP w B β1 _ v1 now 100 1 s _ (HE.out.below HA1.out.below) HA1.out).mono ?_
  rintro e w2 h
  rw [ba_chal_no (by rintro ⟨⟨_, _⟩, _⟩; omega)] at h
  obtain ⟨rfl, β2, v2, hA⟩ := turn_of h
  have HA2 := Lib.hid hA; clear hA h HA1
  go_wp2_with (fail)
  refine (challenge_any aA aP w B β2 _ v2 5 100 2 snA _ (HE.out.below HA2.out.below) HA2.out).mono ?_
  rintro e w3 h
  rw [ba_chal2] at h
  obtain ⟨rfl, β3, v3, hA⟩ := turn_of h
  have HA3 := Lib.hid hA; clear hA h HA2
  go_wp2_with (fail)
  refine (pick24_any n 100 _ (by decide) (by decide) hn.1 hn.2).mono ?_
  rintro e w1 ⟨rfl, rfl⟩
  rw [hpn.out]
  go_wp2_with (fail)
  refine (sent_any aA aP w B β3 _ v3 100 2 (pn : Int) _ (HE.out.below HA3.out.below) HA3.out (by intro e he; simp [baS] at he; subst he; show (0 : Int) + _ ≤ _; omega)).mono ?_
  rintro e w4 h
  rw [ba_sent (by omega)] at h
  obtain ⟨rfl, β4, v4, hA⟩ := turn_of h
  have HA4 := Lib.hid hA; clear hA h HA3
  go_wp2_with (fail)
  refine (pick24_any n 100 _ (by decide) (by decide) hn.1 hn.2).mono ?_
  rintro e w1 ⟨rfl, rfl⟩
  rw [hpn.out]
  go_wp2_with (fail)
  refine (sent_any aA aP w B β4 _ v4 100 1 (-1 - (pn : Int)) _ (HE.out.below HA4.out.below) HA4.out (by intro e he; simp [baS] at he; subst he; show (0 : Int) + _ ≤ _; omega)).mono ?_
  rintro e w5 h
  rw [ba_sent2 (by omega)] at h
  obtain ⟨rfl, β5, v5, hA⟩ := turn_of h
  have HA5 := Lib.hid hA; clear hA h HA4
  go_wp2_with (fail)
  refine (pick24_any n 100 _ (by decide) (by decide) hn.1 hn.2).mono ?_
  rintro e w1 ⟨rfl, rfl⟩
  rw [hpn.out]
  go_wp2_with (fail)
  refine (received_any aA aP w B β5 _ v5 now 100 1 (pn : Int) _ HE.out HA5.out (by intro k hk; cases hk) (by intro e he; simp [baS] at he; subst he; intro h; show (0 : Int) + _ ≤ _; omega)).mono ?_
  rintro e w6 h
  rw [ba_recv_no (by omega)] at h
  obtain ⟨rfl, β6, v6, hA⟩ := turn_of h
  have HA6 := Lib.hid hA; clear hA h HA5
  go_wp2_with (fail)
  refine (pick24_any n 100 _ (by decide) (by decide) hn.1 hn.2).mono ?_
  rintro e w1 ⟨rfl, rfl⟩
  rw [hpn.out]
  go_wp2_with (fail)
  refine (received_any aA aP w B β6 _ v6 5 100 (65536 + (pn : Int)) 1 _ HE.out HA6.out (by intro k hk; cases hk) (by intro e he; simp [baS] at he; subst he; intro h; simp <;> omega)).mono ?_
  rintro e w7 h
  rw [ba_recv2 (by omega)] at h
  obtain ⟨rfl, β7, v7, hA⟩ := turn_of h
  have HA7 := Lib.hid hA; clear hA h HA6
  go_wp2_with (fail)
  refine (len_any B β7 _ v7 _ HA7.out.is).mono ?_
  rintro e w8 ⟨rfl, hb⟩
  rw [show (baS ⟨#[]⟩ 0 0).es.length = 1 from rfl]
  have HA8 := Lib.hid (HA7.out.of_below hb); clear hb HA7
  go_wp2_with (fail)
  refine (valid_any aA aP B β7 _ v7 100 1 _ (HE.out.below HA8.out.below) HA8.out.is).mono ?_
  rintro e w9 ⟨rfl, hb⟩
  rw [ba_val]
  have HA9 := Lib.hid (HA8.out.of_below hb); clear hb HA8
  go_wp2
  go_ret
  exact ⟨rfl, HA9.out.below⟩

set_option maxRecDepth 100000 in
set_option maxHeartbeats 8000000 in
theorem bad_hi_n (aA aP : Addr) (now n : Int) (s : ByteArray) (w : World) (hE : Errs aA aP w) (hnow : in63 now) (hn : in63 n) (hs : s.size ≤ maxLen) (ht : 1000000000 < now) (hz : s.size ≤ 20 ∧ s.size ≠ 8) :
    Calls Tryd.prog 3 #[.int .i64 now, .int .i64 n, .string s] w (SomeB (.bool true) w) := by
  have HE := Lib.hid hE; clear hE
  have HZ := Lib.hid hz
  have t1 : ((0 : Int) ≤ now) = True := eq_true (by omega)
  have t2 : (now ≤ (1000000000 : Int)) = False := eq_false (by omega)
  have z2 : (((s.size : Nat) : Int) == 8) = false := by rw [beq_eq_false_iff_ne]; omega
  obtain ⟨hz, _⟩ := hz
  have hpl := pkN_lt n 100 (by decide)
  obtain ⟨pn, hpn⟩ : ∃ p, Hid (pkN n 100 = p) := ⟨_, rfl⟩
  rw [hpn.out] at hpl
  go_enter Tryd.func3, Tryd.ntmps3
  go_wp2_with (fail)
  refine (sane24_any aA aP w HE.out).mono ?_
  rintro e w0 ⟨rfl, hb0⟩
  have HB0 := Lib.hid hb0; clear hb0
  go_wp2_with (fail)
  refine (pnew_yes 100 1 false _ rfl).mono ?_
  rintro e w1 ⟨B, β1, v1, rfl, hA⟩
  have HA1 := Lib.hid (hA.base_mono HB0.out); clear hA HB0
  have HA1 : Hid (PAt w B β1 (baS ⟨#[]⟩ 0 0) v1 w1) := HA1
  go_wp2_with (fail)
  refine (challenge_any aA aP w B β1 _ v1 now 100 1 s _ (HE.out.below HA1.out.below) HA1.out).mono ?_
  rintro e w2 h
  rw [ba_chal_no (by rintro ⟨_, hh⟩; exact absurd hh HZ.out.2)] at h
  obtain ⟨rfl, β2, v2, hA⟩ := turn_of h
  have HA2 := Lib.hid hA; clear hA h HA1
  go_wp2_with (fail)
  refine (challenge_any aA aP w B β2 _ v2 5 100 2 snA _ (HE.out.below HA2.out.below) HA2.out).mono ?_
  rintro e w3 h
  rw [ba_chal2] at h
  obtain ⟨rfl, β3, v3, hA⟩ := turn_of h
  have HA3 := Lib.hid hA; clear hA h HA2
  go_wp2_with (fail)
  refine (pick24_any n 100 _ (by decide) (by decide) hn.1 hn.2).mono ?_
  rintro e w1 ⟨rfl, rfl⟩
  rw [hpn.out]
  go_wp2_with (fail)
  refine (sent_any aA aP w B β3 _ v3 100 2 (pn : Int) _ (HE.out.below HA3.out.below) HA3.out (by intro e he; simp [baS] at he; subst he; show (0 : Int) + _ ≤ _; omega)).mono ?_
  rintro e w4 h
  rw [ba_sent (by omega)] at h
  obtain ⟨rfl, β4, v4, hA⟩ := turn_of h
  have HA4 := Lib.hid hA; clear hA h HA3
  go_wp2_with (fail)
  refine (pick24_any n 100 _ (by decide) (by decide) hn.1 hn.2).mono ?_
  rintro e w1 ⟨rfl, rfl⟩
  rw [hpn.out]
  go_wp2_with (fail)
  refine (sent_any aA aP w B β4 _ v4 100 1 (-1 - (pn : Int)) _ (HE.out.below HA4.out.below) HA4.out (by intro e he; simp [baS] at he; subst he; show (0 : Int) + _ ≤ _; omega)).mono ?_
  rintro e w5 h
  rw [ba_sent2 (by omega)] at h
  obtain ⟨rfl, β5, v5, hA⟩ := turn_of h
  have HA5 := Lib.hid hA; clear hA h HA4
  go_wp2_with (fail)
  refine (pick24_any n 100 _ (by decide) (by decide) hn.1 hn.2).mono ?_
  rintro e w1 ⟨rfl, rfl⟩
  rw [hpn.out]
  go_wp2_with (fail)
  refine (received_any aA aP w B β5 _ v5 now 100 1 (pn : Int) _ HE.out HA5.out (by intro k hk; cases hk) (by intro e he; simp [baS] at he; subst he; intro h; show (0 : Int) + _ ≤ _; omega)).mono ?_
  rintro e w6 h
  rw [ba_recv_no (by omega)] at h
  obtain ⟨rfl, β6, v6, hA⟩ := turn_of h
  have HA6 := Lib.hid hA; clear hA h HA5
  go_wp2_with (fail)
  refine (pick24_any n 100 _ (by decide) (by decide) hn.1 hn.2).mono ?_
  rintro e w1 ⟨rfl, rfl⟩
  rw [hpn.out]
  go_wp2_with (fail)
  refine (received_any aA aP w B β6 _ v6 5 100 (65536 + (pn : Int)) 1 _ HE.out HA6.out (by intro k hk; cases hk) (by intro e he; simp [baS] at he; subst he; intro h; simp <;> omega)).mono ?_
  rintro e w7 h
  rw [ba_recv2 (by omega)] at h
  obtain ⟨rfl, β7, v7, hA⟩ := turn_of h
  have HA7 := Lib.hid hA; clear hA h HA6
  go_wp2_with (fail)
  refine (len_any B β7 _ v7 _ HA7.out.is).mono ?_
  rintro e w8 ⟨rfl, hb⟩
  rw [show (baS ⟨#[]⟩ 0 0).es.length = 1 from rfl]
  have HA8 := Lib.hid (HA7.out.of_below hb); clear hb HA7
  go_wp2_with (fail)
  refine (valid_any aA aP B β7 _ v7 100 1 _ (HE.out.below HA8.out.below) HA8.out.is).mono ?_
  rintro e w9 ⟨rfl, hb⟩
  rw [ba_val]
  have HA9 := Lib.hid (HA8.out.of_below hb); clear hb HA8
  go_wp2
  go_ret
  exact ⟨rfl, HA9.out.below⟩

set_option maxRecDepth 100000 in
set_option maxHeartbeats 8000000 in
theorem bad_hi_g (aA aP : Addr) (now n : Int) (s : ByteArray) (w : World) (hE : Errs aA aP w) (hnow : in63 now) (hn : in63 n) (hs : s.size ≤ maxLen) (ht : 1000000000 < now) (hz : 20 < s.size) :
    Calls Tryd.prog 3 #[.int .i64 now, .int .i64 n, .string s] w (SomeB (.bool true) w) := by
  have HE := Lib.hid hE; clear hE
  have HZ := Lib.hid hz
  have t1 : ((0 : Int) ≤ now) = True := eq_true (by omega)
  have t2 : (now ≤ (1000000000 : Int)) = False := eq_false (by omega)
  have z3 : (s.extract 0 20).size = 20 := by rw [ByteArray.size_extract]; omega
  have HZ3 := Lib.hid z3
  have hpl := pkN_lt n 100 (by decide)
  obtain ⟨pn, hpn⟩ : ∃ p, Hid (pkN n 100 = p) := ⟨_, rfl⟩
  rw [hpn.out] at hpl
  go_enter Tryd.func3, Tryd.ntmps3
  go_wp2_with (fail)
  refine (sane24_any aA aP w HE.out).mono ?_
  rintro e w0 ⟨rfl, hb0⟩
  have HB0 := Lib.hid hb0; clear hb0
  go_wp2_with (fail)
  refine (pnew_yes 100 1 false _ rfl).mono ?_
  rintro e w1 ⟨B, β1, v1, rfl, hA⟩
  have HA1 := Lib.hid (hA.base_mono HB0.out); clear hA HB0
  have HA1 : Hid (PAt w B β1 (baS ⟨#[]⟩ 0 0) v1 w1) := HA1
  go_wp2_with (fail)
  refine (challenge_any aA aP w B β1 _ v1 now 100 1 (s.extract 0 20) _ (HE.out.below HA1.out.below) HA1.out).mono ?_
  rintro e w2 h
  rw [ba_chal_no (by rintro ⟨_, hh⟩; rw [HZ3.out] at hh; exact absurd hh (by decide))] at h
  obtain ⟨rfl, β2, v2, hA⟩ := turn_of h
  have HA2 := Lib.hid hA; clear hA h HA1
  go_wp2_with (fail)
  refine (challenge_any aA aP w B β2 _ v2 5 100 2 snA _ (HE.out.below HA2.out.below) HA2.out).mono ?_
  rintro e w3 h
  rw [ba_chal2] at h
  obtain ⟨rfl, β3, v3, hA⟩ := turn_of h
  have HA3 := Lib.hid hA; clear hA h HA2
  go_wp2_with (fail)
  refine (pick24_any n 100 _ (by decide) (by decide) hn.1 hn.2).mono ?_
  rintro e w1 ⟨rfl, rfl⟩
  rw [hpn.out]
  go_wp2_with (fail)
  refine (sent_any aA aP w B β3 _ v3 100 2 (pn : Int) _ (HE.out.below HA3.out.below) HA3.out (by intro e he; simp [baS] at he; subst he; show (0 : Int) + _ ≤ _; omega)).mono ?_
  rintro e w4 h
  rw [ba_sent (by omega)] at h
  obtain ⟨rfl, β4, v4, hA⟩ := turn_of h
  have HA4 := Lib.hid hA; clear hA h HA3
  go_wp2_with (fail)
  refine (pick24_any n 100 _ (by decide) (by decide) hn.1 hn.2).mono ?_
  rintro e w1 ⟨rfl, rfl⟩
  rw [hpn.out]
  go_wp2_with (fail)
  refine (sent_any aA aP w B β4 _ v4 100 1 (-1 - (pn : Int)) _ (HE.out.below HA4.out.below) HA4.out (by intro e he; simp [baS] at he; subst he; show (0 : Int) + _ ≤ _; omega)).mono ?_
  rintro e w5 h
  rw [ba_sent2 (by omega)] at h
  obtain ⟨rfl, β5, v5, hA⟩ := turn_of h
  have HA5 := Lib.hid hA; clear hA h HA4
  go_wp2_with (fail)
  refine (pick24_any n 100 _ (by decide) (by decide) hn.1 hn.2).mono ?_
  rintro e w1 ⟨rfl, rfl⟩
  rw [hpn.out]
  go_wp2_with (fail)
  refine (received_any aA aP w B β5 _ v5 now 100 1 (pn : Int) _ HE.out HA5.out (by intro k hk; cases hk) (by intro e he; simp [baS] at he; subst he; intro h; show (0 : Int) + _ ≤ _; omega)).mono ?_
  rintro e w6 h
  rw [ba_recv_no (by omega)] at h
  obtain ⟨rfl, β6, v6, hA⟩ := turn_of h
  have HA6 := Lib.hid hA; clear hA h HA5
  go_wp2_with (fail)
  refine (pick24_any n 100 _ (by decide) (by decide) hn.1 hn.2).mono ?_
  rintro e w1 ⟨rfl, rfl⟩
  rw [hpn.out]
  go_wp2_with (fail)
  refine (received_any aA aP w B β6 _ v6 5 100 (65536 + (pn : Int)) 1 _ HE.out HA6.out (by intro k hk; cases hk) (by intro e he; simp [baS] at he; subst he; intro h; simp <;> omega)).mono ?_
  rintro e w7 h
  rw [ba_recv2 (by omega)] at h
  obtain ⟨rfl, β7, v7, hA⟩ := turn_of h
  have HA7 := Lib.hid hA; clear hA h HA6
  go_wp2_with (fail)
  refine (len_any B β7 _ v7 _ HA7.out.is).mono ?_
  rintro e w8 ⟨rfl, hb⟩
  rw [show (baS ⟨#[]⟩ 0 0).es.length = 1 from rfl]
  have HA8 := Lib.hid (HA7.out.of_below hb); clear hb HA7
  go_wp2_with (fail)
  refine (valid_any aA aP B β7 _ v7 100 1 _ (HE.out.below HA8.out.below) HA8.out.is).mono ?_
  rintro e w9 ⟨rfl, hb⟩
  rw [ba_val]
  have HA9 := Lib.hid (HA8.out.of_below hb); clear hb HA8
  go_wp2
  go_ret
  exact ⟨rfl, HA9.out.below⟩

theorem bad_any (aA aP : Addr) (now n : Int) (s : ByteArray) (w : World) (hE : Errs aA aP w) (hnow : in63 now) (hn : in63 n) (hs : s.size ≤ maxLen) :
    Calls Tryd.prog 3 #[.int .i64 now, .int .i64 n, .string s] w (SomeB (.bool true) w) := by
  by_cases h1 : now < 0
  · by_cases h2 : s.size = 8
    · exact bad_lo_e aA aP now n s w hE hnow hn hs h1 h2
    · by_cases h3 : s.size ≤ 20
      · exact bad_lo_n aA aP now n s w hE hnow hn hs h1 ⟨h3, h2⟩
      · exact bad_lo_g aA aP now n s w hE hnow hn hs h1 (by omega)
  · by_cases h4 : now ≤ 1000000000
    · by_cases h2 : s.size = 8
      · exact bad_in_e aA aP now n s w hE hnow hn hs (by omega) h2
      · by_cases h3 : s.size ≤ 20
        · exact bad_in_n aA aP now n s w hE hnow hn hs (by omega) ⟨h3, h2⟩
        · exact bad_in_g aA aP now n s w hE hnow hn hs (by omega) (by omega)
    · by_cases h2 : s.size = 8
      · exact bad_hi_e aA aP now n s w hE hnow hn hs (by omega) h2
      · by_cases h3 : s.size ≤ 20
        · exact bad_hi_n aA aP now n s w hE hnow hn hs (by omega) ⟨h3, h2⟩
        · exact bad_hi_g aA aP now n s w hE hnow hn hs (by omega) (by omega)

end Go.Proofs.YtmdfpknhfkgfoaaDoor
