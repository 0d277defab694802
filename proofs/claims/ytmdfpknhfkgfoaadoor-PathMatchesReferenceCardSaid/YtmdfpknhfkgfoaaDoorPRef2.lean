/- The reference of law24: Valid, Allows, Sent, Challenge, Respond, Validate. -/
import Derived.Test.YtmdfpknhfkgfoaaDoorPRef1
import Derived.StillTailTactics
namespace Go.Proofs.YtmdfpknhfkgfoaaDoor
open Go.RowKit Go.Shelf
set_option linter.unusedVariables false

theorem rsize_is (z : Int) (b : Bool) (h : within 0 65536 z = b) (w : World) : Calls Tryd.prog 60 #[.int .i64 z] w fun e w' => e = .returned (.bool b) ∧ w' = w := by
  rw [← h]
  exact rsize_any z w
theorem rfind_yes (B : Nat) (β : Int × Int → Nat) (S : PS) (v : Value) (l r : Int) (w : World) (hS : IsRS B β S v w) {e0 : PE} (hg : S.get (l, r) = some e0) :
    Calls Tryd.prog 59 #[.pointer (some ⟨B, 0, none⟩), .int .i64 l, .int .i64 r] w (SomeB (.pointer (some ⟨β (l, r), 0, none⟩)) w) := by
  have h := rfind_any B β S v l r w hS
  rw [rptr_yes hg] at h
  exact h
theorem rfind_no (B : Nat) (β : Int × Int → Nat) (S : PS) (v : Value) (l r : Int) (w : World) (hS : IsRS B β S v w) (hg : S.get (l, r) = none) :
    Calls Tryd.prog 59 #[.pointer (some ⟨B, 0, none⟩), .int .i64 l, .int .i64 r] w (SomeB (.pointer none) w) := by
  have h := rfind_any B β S v l r w hS
  rw [rptr_no hg] at h
  exact h

set_option maxRecDepth 100000 in
set_option maxHeartbeats 400000 in
theorem rvalid_any (B : Nat) (β : Int × Int → Nat) (S : PS) (v : Value) (l r : Int) (w : World) (hS : IsRS B β S v w) :
    Calls Tryd.prog 27 #[.pointer (some ⟨B, 0, none⟩), .int .i64 l, .int .i64 r] w (SomeB (.bool (S.valid (l, r))) w) := by
  have HS := Lib.hid hS; clear hS
  cases hg : S.get (l, r) with
  | none =>
    rw [valid_none hg]
    have Hg := Lib.hid hg; clear hg
    go_enter Tryd.func27, Tryd.ntmps27
    go_wp2_with (fail)
    refine (rfind_no B β S v l r w HS.out Hg.out).mono ?_
    rintro e w1 ⟨rfl, hb1⟩
    go_wp2
    go_ret
    exact ⟨rfl, hb1⟩
  | some e0 =>
    rw [valid_of hg]
    have Hg := Lib.hid hg; clear hg
    go_enter Tryd.func27, Tryd.ntmps27
    go_wp2_with (fail)
    refine (rfind_yes B β S v l r w HS.out Hg.out).mono ?_
    rintro e w1 ⟨rfl, hb1⟩
    obtain ⟨t, _, hb⟩ := (HS.out.below hb1).at Hg.out
    have c4 := cell_of_heap hb 4
    clear hb
    go_wp2
    go_ret
    exact ⟨rfl, hb1⟩

set_option maxRecDepth 100000 in
set_option maxHeartbeats 800000 in
theorem rallows_any (w0 : World) (B : Nat) (β : Int × Int → Nat) (S : PS) (v : Value) (l r n : Int) (w : World) (hS : RAt w0 B β S v w) :
    Calls Tryd.prog 29 #[.pointer (some ⟨B, 0, none⟩), .int .i64 l, .int .i64 r, .int .i64 n] w (SomeB (.bool (S.allows (l, r) n)) w) := by
  have HS := Lib.hid hS; clear hS
  cases hw : within 0 65536 n with
  | false =>
    have Hv := Lib.hid (show S.allows (l, r) n = false by
      cases ha : S.allows (l, r) n with
      | false => rfl
      | true => obtain ⟨_, _, h2, _⟩ := allows_split.1 ha; rw [hw] at h2; cases h2)
    rw [Hv.out]
    have Hw := Lib.hid hw; clear hw
    go_enter Tryd.func29, Tryd.ntmps29
    go_wp2_with (fail)
    refine (rfind_any B β S v l r w HS.out.is).mono ?_
    rintro e w1 ⟨rfl, hb1⟩
    generalize rptr β S (l, r) = q at *
    go_wp2_with (fail)
    go_quiet (first | (go_at_call 60; exact Calls.quiet_of_same (rsize_is n _ Hw.out _)))
    go_wp2
    go_ret
    exact ⟨rfl, hb1.trans ((below_drewN _ _).mono hb1.size)⟩
  | true =>
    have Hw := Lib.hid hw; clear hw
    cases hg : S.get (l, r) with
    | none =>
      have Hv := Lib.hid (show S.allows (l, r) n = false by unfold PS.allows; rw [hg])
      rw [Hv.out]
      have Hg := Lib.hid hg; clear hg
      go_enter Tryd.func29, Tryd.ntmps29
      go_wp2_with (fail)
      refine (rfind_no B β S v l r w HS.out.is Hg.out).mono ?_
      rintro e w1 ⟨rfl, hb1⟩
      go_wp2_with (fail)
      go_quiet (first | (go_at_call 60; exact Calls.quiet_of_same (rsize_is n _ Hw.out _)))
      go_wp2
      go_ret
      exact ⟨rfl, hb1.trans ((below_drewN _ _).mono hb1.size)⟩
    | some e0 =>
      obtain ⟨s1, s2, s3, s4, _, _⟩ := HS.out.small e0 (PS.get_mem hg).1
      have hn0 := within_ge Hw.out
      have hn1 := within_le Hw.out
      have Hv0 := Lib.hid (show S.allows (l, r) n = e0.allows n by unfold PS.allows; rw [hg]; show (within 0 65536 n && e0.allows n) = _; rw [Hw.out]; rfl)
      have Hg := Lib.hid hg; clear hg
      cases hok : e0.ok with
      | true =>
        rw [Hv0.out, show e0.allows n = true by unfold PE.allows; rw [hok]; rfl]
        have Hok := Lib.hid hok; clear hok Hv0
        go_enter Tryd.func29, Tryd.ntmps29
        go_wp2_with (fail)
        refine (rfind_yes B β S v l r w HS.out.is Hg.out).mono ?_
        rintro e w1 ⟨rfl, hb1⟩
        obtain ⟨t, _, hb⟩ := (HS.out.is.below hb1).at Hg.out
        have c2 := cell_of_heap hb 2
        have c3 := cell_of_heap hb 3
        have c4 := cell_of_heap hb 4
        simp only [PE.rcells, Hok.out, List.getElem?_toArray, List.getElem?_cons_succ, List.getElem?_cons_zero] at c4
        clear hb
        go_wp2_with (fail)
        go_quiet (first | (go_at_call 60; exact Calls.quiet_of_same (rsize_is n _ Hw.out _)))
        go_wp2
        go_ret
        exact ⟨rfl, hb1.trans ((below_drewN _ _).mono hb1.size)⟩
      | false =>
        obtain ⟨q, hq⟩ : ∃ q, decide (e0.snt + n ≤ 3 * e0.rcv) = q := ⟨_, rfl⟩
        rw [Hv0.out, show e0.allows n = q by unfold PE.allows; rw [hok, ← hq]; rfl]
        have w1 : IntKind.i64.wrap (e0.snt + n) = e0.snt + n := IntWalk.i64_in _ (by omega)
        have w2 : IntKind.i64.wrap (3 * e0.rcv) = 3 * e0.rcv := IntWalk.i64_in _ (by omega)
        have Hok := Lib.hid hok; clear hok Hv0
        go_enter Tryd.func29, Tryd.ntmps29
        go_wp2_with (fail)
        refine (rfind_yes B β S v l r w HS.out.is Hg.out).mono ?_
        rintro e w1 ⟨rfl, hb1⟩
        obtain ⟨t, _, hb⟩ := (HS.out.is.below hb1).at Hg.out
        have c2 := cell_of_heap hb 2
        have c3 := cell_of_heap hb 3
        have c4 := cell_of_heap hb 4
        simp only [PE.rcells, Hok.out, List.getElem?_toArray, List.getElem?_cons_succ, List.getElem?_cons_zero] at c4
        clear hb
        go_wp2_with (fail)
        go_quiet (first | (go_at_call 60; exact Calls.quiet_of_same (rsize_is n _ Hw.out _)))
        go_wp2
        go_ret
        exact ⟨by rw [← hq]; rfl, hb1.trans ((below_drewN _ _).mono hb1.size)⟩

set_option maxRecDepth 100000 in
set_option maxHeartbeats 800000 in
theorem rsent_any (w0 : World) (B : Nat) (β : Int × Int → Nat) (S : PS) (v : Value) (l r n : Int) (w : World) (hS : RAt w0 B β S v w) (hsm : ∀ e ∈ S.es, e.snt + n ≤ 1000000000000) :
    Calls Tryd.prog 53 #[.pointer (some ⟨B, 0, none⟩), .int .i64 l, .int .i64 r, .int .i64 n] w (RTurn w0 B β S v (.int .i64 (S.sent (l, r) n).1) (S.sent (l, r) n).2 w) := by
  have HS := Lib.hid hS; clear hS
  have HM := Lib.hid hsm; clear hsm
  cases hw : within 0 65536 n with
  | false =>
    rw [show S.sent (l, r) n = (2, S) by unfold PS.sent; rw [if_pos hw]]
    have Hw := Lib.hid hw; clear hw
    go_enter Tryd.func53, Tryd.ntmps53
    go_wp2_with (fail)
    refine (rsize_any n w).mono ?_
    rintro e w1 ⟨rfl, rfl⟩
    rw [Hw.out]
    go_wp2
    go_ret
    exact ⟨rfl, β, v, HS.out.go_same (Below.refl _ _)⟩
  | true =>
    have hn0 := within_ge hw
    have hn1 := within_le hw
    cases ha : S.allows (l, r) n with
    | false =>
      rw [show S.sent (l, r) n = (240, S) by unfold PS.sent; rw [if_neg (by rw [hw]; decide), if_pos ha]]
      have Hw := Lib.hid hw; clear hw
      have Ha := Lib.hid ha; clear ha
      go_enter Tryd.func53, Tryd.ntmps53
      go_wp2_with (fail)
      refine (rsize_any n w).mono ?_
      rintro e w1 ⟨rfl, rfl⟩
      rw [Hw.out]
      go_wp2_with (fail)
      refine (rallows_any w0 B β S v l r n _ HS.out).mono ?_
      rintro e w2 ⟨rfl, hb2⟩
      rw [Ha.out]
      go_wp2
      go_ret
      exact ⟨rfl, β, v, HS.out.go_same hb2⟩
    | true =>
      rw [show S.sent (l, r) n = (0, S.upd (l, r) (PE.send n)) by unfold PS.sent; rw [if_neg (by rw [hw]; decide), if_neg (by rw [ha]; decide)]; rfl]
      obtain ⟨e0, hg, _, _⟩ := allows_split.1 ha
      have hm0 := (PS.get_mem hg).1
      obtain ⟨s1, s2, s3, s4, s5, s6⟩ := HS.out.small e0 hm0
      have s7 := HM.out e0 hm0
      have hsm : (e0.send n).small := ⟨s1, s2, by show 0 ≤ e0.snt + n; omega, s7, s5, s6⟩
      have w1 : IntKind.i64.wrap (e0.snt + n) = e0.snt + n := IntWalk.i64_in _ (by omega)
      have Hw := Lib.hid hw; clear hw
      have Ha := Lib.hid ha; clear ha
      have Hg := Lib.hid hg; clear hg
      have Hsm := Lib.hid hsm; clear hsm hm0
      go_enter Tryd.func53, Tryd.ntmps53
      go_wp2_with (fail)
      refine (rsize_any n w).mono ?_
      rintro e w1 ⟨rfl, rfl⟩
      rw [Hw.out]
      go_wp2_with (fail)
      refine (rallows_any w0 B β S v l r n _ HS.out).mono ?_
      rintro e w2 ⟨rfl, hb2⟩
      rw [Ha.out]
      have HB2 := Lib.hid hb2; clear hb2
      go_wp2_with (fail)
      refine (rfind_yes B β S v l r _ (HS.out.is.below HB2.out) Hg.out).mono ?_
      rintro e w3 ⟨rfl, hb3⟩
      have HB3 := Lib.hid (HB2.out.trans (hb3.mono HB2.out.size)); clear hb3
      obtain ⟨t, ht, hb⟩ := (HS.out.is.below HB3.out).at Hg.out
      have c3 := cell_of_heap hb 3
      have f3 := free_of_heap hb 3
      have Hb := Lib.hid hb; have Ht := Lib.hid ht
      clear hb ht
      go_wp2
      go_ret
      refine ⟨rfl, β, v, HS.out.upd Hg.out (PE.send n) (fun _ => rfl) Hsm.out HB3.out ((Keeps.refl _ _).setCell (.inl rfl)) ⟨t, ⟨Ht.out.calm, Ht.out.same, Ht.out.lo, Ht.out.hi⟩, ?_⟩⟩
      exact heap_setCell_at w3 (β (l, r)) _ _ 3 _ Hb.out

set_option maxRecDepth 100000 in
set_option maxHeartbeats 400000 in
theorem rvalidate_any (w0 : World) (B : Nat) (β : Int × Int → Nat) (S : PS) (v : Value) (l r : Int) (w : World) (hS : RAt w0 B β S v w) :
    Calls Tryd.prog 57 #[.pointer (some ⟨B, 0, none⟩), .int .i64 l, .int .i64 r] w (RTurn w0 B β S v (.int .i64 (S.validate (l, r)).1) (S.validate (l, r)).2 w) := by
  have HS := Lib.hid hS; clear hS
  cases hg : S.get (l, r) with
  | none =>
    rw [show S.validate (l, r) = (240, S) by unfold PS.validate; rw [hg]]
    have Hg := Lib.hid hg; clear hg
    go_enter Tryd.func57, Tryd.ntmps57
    go_wp2_with (fail)
    refine (rfind_no B β S v l r w HS.out.is Hg.out).mono ?_
    rintro e w1 ⟨rfl, hb1⟩
    go_wp2
    go_ret
    exact ⟨rfl, β, v, HS.out.go_same hb1⟩
  | some e0 =>
    rw [show S.validate (l, r) = (0, S.upd (l, r) PE.validate) by unfold PS.validate; rw [hg]]
    have Hsm := Lib.hid (HS.out.small e0 (PS.get_mem hg).1)
    have Hg := Lib.hid hg; clear hg
    go_enter Tryd.func57, Tryd.ntmps57
    go_wp2_with (fail)
    refine (rfind_yes B β S v l r w HS.out.is Hg.out).mono ?_
    rintro e w3 ⟨rfl, hb3⟩
    have HB3 := Lib.hid hb3; clear hb3
    obtain ⟨t, ht, hb⟩ := (HS.out.is.below HB3.out).at Hg.out
    have c4 := cell_of_heap hb 4
    have f4 := free_of_heap hb 4
    have Hb := Lib.hid hb; have Ht := Lib.hid ht
    clear hb ht
    go_wp2
    go_ret
    refine ⟨rfl, β, v, HS.out.upd Hg.out PE.validate (fun _ => rfl) Hsm.out HB3.out ((Keeps.refl _ _).setCell (.inl rfl)) ⟨t, ⟨Ht.out.calm, Ht.out.same, Ht.out.lo, Ht.out.hi⟩, ?_⟩⟩
    exact heap_setCell_at w3 (β (l, r)) _ _ 4 _ Hb.out

set_option maxRecDepth 100000 in
set_option maxHeartbeats 800000 in
theorem rchallenge_any (w0 : World) (B : Nat) (β : Int × Int → Nat) (S : PS) (v : Value) (n l r : Int) (d : ByteArray) (w : World) (hS : RAt w0 B β S v w) :
    Calls Tryd.prog 54 #[.pointer (some ⟨B, 0, none⟩), .int .i64 n, .int .i64 l, .int .i64 r, .string d] w (RTurn w0 B β S v (.int .i64 (S.challenge n (l, r) d).1) (S.challenge n (l, r) d).2 w) := by
  have HS := Lib.hid hS; clear hS
  cases hw : within 0 1000000000 n with
  | false =>
    rw [show S.challenge n (l, r) d = (2, S) by unfold PS.challenge; rw [if_pos (.inl hw)]]
    have Hw := Lib.hid hw; clear hw
    go_enter Tryd.func54, Tryd.ntmps54
    go_wp2_with (fail)
    refine (rtime_any n w).mono ?_
    rintro e w1 ⟨rfl, rfl⟩
    rw [Hw.out]
    go_wp2
    go_ret
    exact ⟨rfl, β, v, HS.out.go_same (Below.refl _ _)⟩
  | true =>
    have hn0 := within_ge hw
    have hn1 := within_le hw
    by_cases hd : d.size = 8
    · have q1 : (((d.size : Nat) : Int) != 8) = false := by rw [hd]; rfl
      cases hg : S.get (l, r) with
      | none =>
        rw [show S.challenge n (l, r) d = (240, S) by unfold PS.challenge; rw [if_neg (by rintro (h | h); · rw [hw] at h; cases h
                                                                                          · exact h hd), hg]]
        have Hw := Lib.hid hw; clear hw hd
        have Hg := Lib.hid hg; clear hg
        go_enter Tryd.func54, Tryd.ntmps54
        go_wp2_with (fail)
        refine (rtime_any n w).mono ?_
        rintro e w1 ⟨rfl, rfl⟩
        rw [Hw.out]
        go_wp2_with (fail)
        refine (rfind_no B β S v l r _ HS.out.is Hg.out).mono ?_
        rintro e w1 ⟨rfl, hb1⟩
        go_wp2
        go_ret
        exact ⟨rfl, β, v, HS.out.go_same hb1⟩
      | some e0 =>
        rw [show S.challenge n (l, r) d = (0, S.upd (l, r) (PE.ask d n)) by unfold PS.challenge; rw [if_neg (by rintro (h | h); · rw [hw] at h; cases h
                                                                                                                · exact h hd), hg]]
        obtain ⟨s1, s2, s3, s4, s5, s6⟩ := HS.out.small e0 (PS.get_mem hg).1
        have Hsm : Hid ((e0.ask d n).small) := ⟨s1, s2, s3, s4, hn0, hn1⟩
        have Hne : Hid (d ≠ ⟨#[]⟩) := fun e => by rw [e] at hd; cases hd
        have Hw := Lib.hid hw; clear hw hd
        have Hg := Lib.hid hg; clear hg
        have Hn : Hid (0 ≤ n ∧ n ≤ 1000000000) := ⟨hn0, hn1⟩
        go_enter Tryd.func54, Tryd.ntmps54
        go_wp2_with (fail)
        refine (rtime_any n w).mono ?_
        rintro e w1 ⟨rfl, rfl⟩
        rw [Hw.out]
        go_wp2_with (fail)
        refine (rfind_yes B β S v l r _ HS.out.is Hg.out).mono ?_
        rintro e w3 ⟨rfl, hb3⟩
        have HB3 := Lib.hid hb3; clear hb3
        obtain ⟨t, ht, hb⟩ := (HS.out.is.below HB3.out).at Hg.out
        have c5 := cell_of_heap hb 5
        have f5 := free_of_heap hb 5
        have c6 := cell_of_heap hb 6
        have f6 := free_of_heap hb 6
        have Hb := Lib.hid hb
        clear hb ht
        go_wp2
        go_ret
        refine ⟨rfl, β, v, HS.out.upd Hg.out (PE.ask d n) (fun _ => rfl) Hsm.out HB3.out (((Keeps.refl (fun b => b = β (l, r)) w3).setCell (.inl rfl)).setCell (.inl rfl)) ⟨n, ⟨fun h => absurd h Hne.out, fun _ => rfl, Hn.out.1, Hn.out.2⟩, ?_⟩⟩
        exact heap_setCell_at _ (β (l, r)) _ _ 6 (.int .i64 n) (heap_setCell_at w3 (β (l, r)) _ _ 5 (.string d) Hb.out)
    · have q1 : (((d.size : Nat) : Int) != 8) = true := by rw [bne_iff_ne]; omega
      rw [show S.challenge n (l, r) d = (2, S) by unfold PS.challenge; rw [if_pos (.inr hd)]]
      have Hw := Lib.hid hw; clear hw hd
      go_enter Tryd.func54, Tryd.ntmps54
      go_wp2_with (fail)
      refine (rtime_any n w).mono ?_
      rintro e w1 ⟨rfl, rfl⟩
      rw [Hw.out]
      go_wp2
      go_ret
      exact ⟨rfl, β, v, HS.out.go_same (Below.refl _ _)⟩

set_option maxRecDepth 100000 in
set_option maxHeartbeats 800000 in
theorem rrespond_any (w0 : World) (B : Nat) (β : Int × Int → Nat) (S : PS) (v : Value) (l r : Int) (d : ByteArray) (w : World) (hS : RAt w0 B β S v w) :
    Calls Tryd.prog 55 #[.pointer (some ⟨B, 0, none⟩), .int .i64 l, .int .i64 r, .string d] w (RTurn w0 B β S v (.bool (S.respond (l, r) d).1) (S.respond (l, r) d).2 w) := by
  have HS := Lib.hid hS; clear hS
  cases hg : S.get (l, r) with
  | none =>
    rw [show S.respond (l, r) d = (false, S) by unfold PS.respond; rw [hg]]
    have Hg := Lib.hid hg; clear hg
    go_enter Tryd.func55, Tryd.ntmps55
    go_wp2_with (fail)
    refine (rfind_no B β S v l r w HS.out.is Hg.out).mono ?_
    rintro e w1 ⟨rfl, hb1⟩
    go_wp2
    go_ret
    exact ⟨rfl, β, v, HS.out.go_same hb1⟩
  | some e0 =>
    obtain ⟨t0, ht0, _⟩ := HS.out.is.at hg
    obtain ⟨s1, s2, s3, s4, s5, s6⟩ := HS.out.small e0 (PS.get_mem hg).1
    by_cases he : e0.data = ⟨#[]⟩
    · have hi : e0.idle = true := by unfold PE.idle; rw [decide_eq_true he, decide_eq_true (ht0.calm he)]; rfl
      rw [show S.respond (l, r) d = (false, S) by unfold PS.respond; rw [hg]; show (if e0.idle = true ∨ e0.data ≠ d then _ else _) = _; rw [if_pos (.inl hi)]]
      have q1 : e0.data.toList.isEmpty = true := by rw [List.isEmpty_iff]; exact (empty_iff _).2 he
      have Hg := Lib.hid hg; clear hg hi he ht0
      go_enter Tryd.func55, Tryd.ntmps55
      go_wp2_with (fail)
      refine (rfind_yes B β S v l r w HS.out.is Hg.out).mono ?_
      rintro e w1 ⟨rfl, hb1⟩
      obtain ⟨t, _, hb⟩ := (HS.out.is.below hb1).at Hg.out
      have c5 := cell_of_heap hb 5
      clear hb
      go_wp2
      go_ret
      exact ⟨rfl, β, v, HS.out.go_same hb1⟩
    · have hi : e0.idle = false := by unfold PE.idle; rw [decide_eq_false he]; rfl
      have q1 : e0.data.toList.isEmpty = false := by rw [List.isEmpty_eq_false_iff]; exact fun h => he ((empty_iff _).1 h)
      by_cases hd : e0.data = d
      · rw [show S.respond (l, r) d = (true, S.upd (l, r) PE.answer) by
          unfold PS.respond; rw [hg]; show (if e0.idle = true ∨ e0.data ≠ d then _ else _) = _
          rw [if_neg (fun h => by rcases h with h | h; rw [hi] at h; cases h; exact h hd)]]
        have q2 := str_eq_true hd
        have Hsm : Hid (e0.answer.small) := ⟨s1, s2, s3, s4, Int.le_refl _, by show (0 : Int) ≤ 1000000000; decide⟩
        have Hg := Lib.hid hg; clear hg hi he hd ht0
        go_enter Tryd.func55, Tryd.ntmps55
        go_wp2_with (fail)
        refine (rfind_yes B β S v l r w HS.out.is Hg.out).mono ?_
        rintro e w3 ⟨rfl, hb3⟩
        have HB3 := Lib.hid hb3; clear hb3
        obtain ⟨t, ht, hb⟩ := (HS.out.is.below HB3.out).at Hg.out
        have c4 := cell_of_heap hb 4
        have f4 := free_of_heap hb 4
        have c5 := cell_of_heap hb 5
        have f5 := free_of_heap hb 5
        have Hb := Lib.hid hb
        have Ht := Lib.hid ht
        clear hb ht
        go_wp2
        go_ret
        refine ⟨rfl, β, v, HS.out.upd Hg.out PE.answer (fun _ => rfl) Hsm.out HB3.out (((Keeps.refl (fun b => b = β (l, r)) w3).setCell (.inl rfl)).setCell (.inl rfl)) ⟨t, ⟨fun _ => rfl, fun h => absurd rfl h, Ht.out.lo, Ht.out.hi⟩, ?_⟩⟩
        exact heap_setCell_at _ (β (l, r)) _ _ 5 (.string ⟨#[]⟩) (heap_setCell_at w3 (β (l, r)) _ _ 4 (.bool true) Hb.out)
      · rw [show S.respond (l, r) d = (false, S) by unfold PS.respond; rw [hg]; show (if e0.idle = true ∨ e0.data ≠ d then _ else _) = _; rw [if_pos (.inr hd)]]
        have q2 := str_eq_false hd
        have Hg := Lib.hid hg; clear hg hi he hd ht0
        go_enter Tryd.func55, Tryd.ntmps55
        go_wp2_with (fail)
        refine (rfind_yes B β S v l r w HS.out.is Hg.out).mono ?_
        rintro e w1 ⟨rfl, hb1⟩
        obtain ⟨t, _, hb⟩ := (HS.out.is.below hb1).at Hg.out
        have c5 := cell_of_heap hb 5
        clear hb
        go_wp2
        go_ret
        exact ⟨rfl, β, v, HS.out.go_same hb1⟩
end Go.Proofs.YtmdfpknhfkgfoaaDoor
