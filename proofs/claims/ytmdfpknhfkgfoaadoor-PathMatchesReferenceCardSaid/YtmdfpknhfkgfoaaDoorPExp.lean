/- law24.expected. Printed by genexp.py. -/
import Derived.Test.YtmdfpknhfkgfoaaDoorPRef5
import Derived.Test.YtmdfpknhfkgfoaaDoorPDo
namespace Go.Proofs.YtmdfpknhfkgfoaaDoor
open Go.RowKit Go.Shelf
set_option linter.unusedVariables false

set_option maxRecDepth 100000 in
set_option maxHeartbeats 1600000 in
theorem exp_0 (w0 : World) (B : Nat) (β : Int × Int → Nat) (S : PS) (v : Value) (now : Int) (c : Call24) (w : World) (hS : RAt w0 B β S v w) (m : Nat) (hg : S.good m) (hm : m ≤ 1000000) (hc : c.ok) (hk : c.kind = 0) :
    Calls Tryd.prog 26 #[.pointer (some ⟨B, 0, none⟩), .int .i64 now, c.val] w (RTurn w0 B β S v (.int .i64 (S.doo now c).1) (S.doo now c).2 w) := by
  have hr := hc.remote
  have hn := hc.n
  have Hv := Lib.hid (show S.doo now c = S.received now 100 (rmN c.remote) (pkN c.n 600 : Nat) by unfold PS.doo; simp [hk])
  rw [Hv.out]
  clear Hv
  have HS := Lib.hid hS
  have HG := Lib.hid hg
  have hnd := Lib.hid hS.is.nd
  clear hS hg
  obtain ⟨kd, lt, rm, n, lc⟩ := c
  simp only at hk hr hn ⊢
  subst hk
  have HB : Hid (Below w.heap.size w (w.alloc (.cells #[.int .i64 0, .int .i64 lt, .int .i64 rm, .int .i64 n, .int .i64 lc] 45))) := (Below.refl _ w).alloc (Nat.le_refl _) _
  have HA := Lib.hid (HS.out.of_below HB.out)
  have HG0 := Lib.hid (HS.out.go_same HB.out)
  clear HB
  go_enter Tryd.func26, Tryd.ntmps26
  go_wp2_with (fail)
  refine (remote24_any rm _ hr).mono ?_
  rintro e w1 ⟨rfl, rfl⟩
  have hrm := rmN_in rm
  generalize rmN rm = r at *
  go_wp2_with (fail)
  refine (pick24_any n 600 _ (by decide) (by decide) hn.1 hn.2).mono ?_
  rintro e w1 ⟨rfl, rfl⟩
  have hpk := pkN_lt n 600 (by decide)
  generalize pkN n 600 = p at *
  go_wp2_with (fail)
  refine (rreceived_any w0 B β S v now 100 r (p : Nat) _ HA.out HG.out.prev (HG.out.rcvs hnd.out hm _)).mono ?_
  rintro e w2 ⟨rfl, β2, v2, hG⟩
  have HG2 := Lib.hid (HG0.out.trans hG)
  clear hG
  go_wp2
  go_ret
  exact ⟨rfl, β2, v2, HG2.out⟩

set_option maxRecDepth 100000 in
set_option maxHeartbeats 1600000 in
theorem exp_1 (w0 : World) (B : Nat) (β : Int × Int → Nat) (S : PS) (v : Value) (now : Int) (c : Call24) (w : World) (hS : RAt w0 B β S v w) (m : Nat) (hg : S.good m) (hm : m ≤ 1000000) (hc : c.ok) (hk : c.kind = 1) :
    Calls Tryd.prog 26 #[.pointer (some ⟨B, 0, none⟩), .int .i64 now, c.val] w (RTurn w0 B β S v (.int .i64 (S.doo now c).1) (S.doo now c).2 w) := by
  have hr := hc.remote
  have hn := hc.n
  have Hv := Lib.hid (show S.doo now c = S.sent (100, rmN c.remote) (pkN c.n 600 : Nat) by unfold PS.doo; simp [hk])
  rw [Hv.out]
  clear Hv
  have HS := Lib.hid hS
  have HG := Lib.hid hg
  have hnd := Lib.hid hS.is.nd
  clear hS hg
  obtain ⟨kd, lt, rm, n, lc⟩ := c
  simp only at hk hr hn ⊢
  subst hk
  have HB : Hid (Below w.heap.size w (w.alloc (.cells #[.int .i64 1, .int .i64 lt, .int .i64 rm, .int .i64 n, .int .i64 lc] 45))) := (Below.refl _ w).alloc (Nat.le_refl _) _
  have HA := Lib.hid (HS.out.of_below HB.out)
  have HG0 := Lib.hid (HS.out.go_same HB.out)
  clear HB
  go_enter Tryd.func26, Tryd.ntmps26
  go_wp2_with (fail)
  refine (remote24_any rm _ hr).mono ?_
  rintro e w1 ⟨rfl, rfl⟩
  have hrm := rmN_in rm
  generalize rmN rm = r at *
  go_wp2_with (fail)
  refine (pick24_any n 600 _ (by decide) (by decide) hn.1 hn.2).mono ?_
  rintro e w1 ⟨rfl, rfl⟩
  have hpk := pkN_lt n 600 (by decide)
  generalize pkN n 600 = p at *
  go_wp2_with (fail)
  refine (rsent_any w0 B β S v 100 r (p : Nat) _ HA.out (HG.out.snts hnd.out hm _ (by omega))).mono ?_
  rintro e w2 ⟨rfl, β2, v2, hG⟩
  have HG2 := Lib.hid (HG0.out.trans hG)
  clear hG
  go_wp2
  go_ret
  exact ⟨rfl, β2, v2, HG2.out⟩

set_option maxRecDepth 100000 in
set_option maxHeartbeats 1600000 in
theorem exp_2 (w0 : World) (B : Nat) (β : Int × Int → Nat) (S : PS) (v : Value) (now : Int) (c : Call24) (w : World) (hS : RAt w0 B β S v w) (m : Nat) (hg : S.good m) (hm : m ≤ 1000000) (hc : c.ok) (hk : c.kind = 2) :
    Calls Tryd.prog 26 #[.pointer (some ⟨B, 0, none⟩), .int .i64 now, c.val] w (RTurn w0 B β S v (.int .i64 (S.doo now c).1) (S.doo now c).2 w) := by
  have hr := hc.remote
  have hn := hc.n
  have Hv := Lib.hid (show S.doo now c = S.challenge now (100, rmN c.remote) (datN c.n) by unfold PS.doo; simp [hk])
  rw [Hv.out]
  clear Hv
  have HS := Lib.hid hS
  have HG := Lib.hid hg
  have hnd := Lib.hid hS.is.nd
  clear hS hg
  obtain ⟨kd, lt, rm, n, lc⟩ := c
  simp only at hk hr hn ⊢
  subst hk
  have HB : Hid (Below w.heap.size w (w.alloc (.cells #[.int .i64 2, .int .i64 lt, .int .i64 rm, .int .i64 n, .int .i64 lc] 45))) := (Below.refl _ w).alloc (Nat.le_refl _) _
  have HA := Lib.hid (HS.out.of_below HB.out)
  have HG0 := Lib.hid (HS.out.go_same HB.out)
  clear HB
  go_enter Tryd.func26, Tryd.ntmps26
  go_wp2_with (fail)
  refine (remote24_any rm _ hr).mono ?_
  rintro e w1 ⟨rfl, rfl⟩
  have hrm := rmN_in rm
  generalize rmN rm = r at *
  go_wp2_with (fail)
  refine (data24_any n _ hn).mono ?_
  rintro e w1 ⟨rfl, hb1⟩
  have HA1 := Lib.hid (HA.out.of_below hb1)
  have HG1 := Lib.hid (HG0.out.trans (HA.out.go_same hb1))
  clear hb1 HA HG0
  generalize datN n = d at *
  go_wp2_with (fail)
  refine (rchallenge_any w0 B β S v now 100 r d _ HA1.out).mono ?_
  rintro e w2 ⟨rfl, β2, v2, hG⟩
  have HG2 := Lib.hid (HG1.out.trans hG)
  clear hG
  go_wp2
  go_ret
  exact ⟨rfl, β2, v2, HG2.out⟩

set_option maxRecDepth 100000 in
set_option maxHeartbeats 1600000 in
theorem exp_3 (w0 : World) (B : Nat) (β : Int × Int → Nat) (S : PS) (v : Value) (now : Int) (c : Call24) (w : World) (hS : RAt w0 B β S v w) (m : Nat) (hg : S.good m) (hm : m ≤ 1000000) (hc : c.ok) (hk : c.kind = 3) :
    Calls Tryd.prog 26 #[.pointer (some ⟨B, 0, none⟩), .int .i64 now, c.val] w (RTurn w0 B β S v (.int .i64 (S.doo now c).1) (S.doo now c).2 w) := by
  have hr := hc.remote
  have hn := hc.n
  have Hv := Lib.hid (show S.doo now c = (b2i (S.respond (100, rmN c.remote) (datN c.n)).1, (S.respond (100, rmN c.remote) (datN c.n)).2) by unfold PS.doo; simp [hk])
  rw [Hv.out]
  clear Hv
  have HS := Lib.hid hS
  have HG := Lib.hid hg
  have hnd := Lib.hid hS.is.nd
  clear hS hg
  obtain ⟨kd, lt, rm, n, lc⟩ := c
  simp only at hk hr hn ⊢
  subst hk
  have HB : Hid (Below w.heap.size w (w.alloc (.cells #[.int .i64 3, .int .i64 lt, .int .i64 rm, .int .i64 n, .int .i64 lc] 45))) := (Below.refl _ w).alloc (Nat.le_refl _) _
  have HA := Lib.hid (HS.out.of_below HB.out)
  have HG0 := Lib.hid (HS.out.go_same HB.out)
  clear HB
  go_enter Tryd.func26, Tryd.ntmps26
  go_wp2_with (fail)
  refine (remote24_any rm _ hr).mono ?_
  rintro e w1 ⟨rfl, rfl⟩
  have hrm := rmN_in rm
  generalize rmN rm = r at *
  go_wp2_with (fail)
  refine (data24_any n _ hn).mono ?_
  rintro e w1 ⟨rfl, hb1⟩
  have HA1 := Lib.hid (HA.out.of_below hb1)
  have HG1 := Lib.hid (HG0.out.trans (HA.out.go_same hb1))
  clear hb1 HA HG0
  generalize datN n = d at *
  go_wp2_with (fail)
  refine (rrespond_any w0 B β S v 100 r d _ HA1.out).mono ?_
  rintro e w2 ⟨rfl, β2, v2, hG⟩
  have HG2 := Lib.hid (HG1.out.trans hG)
  clear hG
  generalize S.respond (100, r) d = X at *
  obtain ⟨b, S2⟩ := X
  cases b with
  | true =>
    go_wp2
    go_ret
    exact ⟨rfl, β2, v2, HG2.out⟩
  | false =>
    go_wp2
    go_ret
    exact ⟨rfl, β2, v2, HG2.out⟩

set_option maxRecDepth 100000 in
set_option maxHeartbeats 1600000 in
theorem exp_4 (w0 : World) (B : Nat) (β : Int × Int → Nat) (S : PS) (v : Value) (now : Int) (c : Call24) (w : World) (hS : RAt w0 B β S v w) (m : Nat) (hg : S.good m) (hm : m ≤ 1000000) (hc : c.ok) (hk : c.kind = 4) :
    Calls Tryd.prog 26 #[.pointer (some ⟨B, 0, none⟩), .int .i64 now, c.val] w (RTurn w0 B β S v (.int .i64 (S.doo now c).1) (S.doo now c).2 w) := by
  have hr := hc.remote
  have hn := hc.n
  have Hv := Lib.hid (show S.doo now c = S.migrate (100, rmN c.remote) by unfold PS.doo; simp [hk])
  rw [Hv.out]
  clear Hv
  have HS := Lib.hid hS
  have HG := Lib.hid hg
  have hnd := Lib.hid hS.is.nd
  clear hS hg
  obtain ⟨kd, lt, rm, n, lc⟩ := c
  simp only at hk hr hn ⊢
  subst hk
  have HB : Hid (Below w.heap.size w (w.alloc (.cells #[.int .i64 4, .int .i64 lt, .int .i64 rm, .int .i64 n, .int .i64 lc] 45))) := (Below.refl _ w).alloc (Nat.le_refl _) _
  have HA := Lib.hid (HS.out.of_below HB.out)
  have HG0 := Lib.hid (HS.out.go_same HB.out)
  clear HB
  go_enter Tryd.func26, Tryd.ntmps26
  go_wp2_with (fail)
  refine (remote24_any rm _ hr).mono ?_
  rintro e w1 ⟨rfl, rfl⟩
  have hrm := rmN_in rm
  generalize rmN rm = r at *
  go_wp2_with (fail)
  refine (rmigrate_any w0 B β S v 100 r _ HA.out).mono ?_
  rintro e w2 ⟨rfl, β2, v2, hG⟩
  have HG2 := Lib.hid (HG0.out.trans hG)
  clear hG
  go_wp2
  go_ret
  exact ⟨rfl, β2, v2, HG2.out⟩

set_option maxRecDepth 100000 in
set_option maxHeartbeats 1600000 in
theorem exp_5 (w0 : World) (B : Nat) (β : Int × Int → Nat) (S : PS) (v : Value) (now : Int) (c : Call24) (w : World) (hS : RAt w0 B β S v w) (m : Nat) (hg : S.good m) (hm : m ≤ 1000000) (hc : c.ok) (hk : c.kind = 5) :
    Calls Tryd.prog 26 #[.pointer (some ⟨B, 0, none⟩), .int .i64 now, c.val] w (RTurn w0 B β S v (.int .i64 (S.doo now c).1) (S.doo now c).2 w) := by
  have hr := hc.remote
  have hn := hc.n
  have Hv := Lib.hid (show S.doo now c = S.validate (100, rmN c.remote) by unfold PS.doo; simp [hk])
  rw [Hv.out]
  clear Hv
  have HS := Lib.hid hS
  have HG := Lib.hid hg
  have hnd := Lib.hid hS.is.nd
  clear hS hg
  obtain ⟨kd, lt, rm, n, lc⟩ := c
  simp only at hk hr hn ⊢
  subst hk
  have HB : Hid (Below w.heap.size w (w.alloc (.cells #[.int .i64 5, .int .i64 lt, .int .i64 rm, .int .i64 n, .int .i64 lc] 45))) := (Below.refl _ w).alloc (Nat.le_refl _) _
  have HA := Lib.hid (HS.out.of_below HB.out)
  have HG0 := Lib.hid (HS.out.go_same HB.out)
  clear HB
  go_enter Tryd.func26, Tryd.ntmps26
  go_wp2_with (fail)
  refine (remote24_any rm _ hr).mono ?_
  rintro e w1 ⟨rfl, rfl⟩
  have hrm := rmN_in rm
  generalize rmN rm = r at *
  go_wp2_with (fail)
  refine (rvalidate_any w0 B β S v 100 r _ HA.out).mono ?_
  rintro e w2 ⟨rfl, β2, v2, hG⟩
  have HG2 := Lib.hid (HG0.out.trans hG)
  clear hG
  go_wp2
  go_ret
  exact ⟨rfl, β2, v2, HG2.out⟩

set_option maxRecDepth 100000 in
set_option maxHeartbeats 1600000 in
theorem exp_6 (w0 : World) (B : Nat) (β : Int × Int → Nat) (S : PS) (v : Value) (now : Int) (c : Call24) (w : World) (hS : RAt w0 B β S v w) (m : Nat) (hg : S.good m) (hm : m ≤ 1000000) (hc : c.ok) (hk : c.kind = 6) :
    Calls Tryd.prog 26 #[.pointer (some ⟨B, 0, none⟩), .int .i64 now, c.val] w (RTurn w0 B β S v (.int .i64 (S.doo now c).1) (S.doo now c).2 w) := by
  have hr := hc.remote
  have hn := hc.n
  have Hv := Lib.hid (show S.doo now c = (b2i (S.tick now).1, (S.tick now).2) by unfold PS.doo; simp [hk])
  rw [Hv.out]
  clear Hv
  have HS := Lib.hid hS
  have HG := Lib.hid hg
  have hnd := Lib.hid hS.is.nd
  clear hS hg
  obtain ⟨kd, lt, rm, n, lc⟩ := c
  simp only at hk hr hn ⊢
  subst hk
  have HB : Hid (Below w.heap.size w (w.alloc (.cells #[.int .i64 6, .int .i64 lt, .int .i64 rm, .int .i64 n, .int .i64 lc] 45))) := (Below.refl _ w).alloc (Nat.le_refl _) _
  have HA := Lib.hid (HS.out.of_below HB.out)
  have HG0 := Lib.hid (HS.out.go_same HB.out)
  clear HB
  go_enter Tryd.func26, Tryd.ntmps26
  go_wp2_with (fail)
  refine (remote24_any rm _ hr).mono ?_
  rintro e w1 ⟨rfl, rfl⟩
  have hrm := rmN_in rm
  generalize rmN rm = r at *
  go_wp2_with (fail)
  refine (rtick_any w0 B β S v now _ HA.out).mono ?_
  rintro e w2 ⟨rfl, β2, v2, hG⟩
  have HG2 := Lib.hid (HG0.out.trans hG)
  clear hG
  generalize S.tick now = X at *
  obtain ⟨b, S2⟩ := X
  cases b with
  | true =>
    go_wp2
    go_ret
    exact ⟨rfl, β2, v2, HG2.out⟩
  | false =>
    go_wp2
    go_ret
    exact ⟨rfl, β2, v2, HG2.out⟩

set_option maxRecDepth 100000 in
set_option maxHeartbeats 1600000 in
theorem exp_x (w0 : World) (B : Nat) (β : Int × Int → Nat) (S : PS) (v : Value) (now : Int) (c : Call24) (w : World) (hS : RAt w0 B β S v w) (m : Nat) (hg : S.good m) (hm : m ≤ 1000000) (hc : c.ok) (h0 : c.kind ≠ 0) (h1 : c.kind ≠ 1) (h2 : c.kind ≠ 2) (h3 : c.kind ≠ 3) (h4 : c.kind ≠ 4) (h5 : c.kind ≠ 5) (h6 : c.kind ≠ 6) :
    Calls Tryd.prog 26 #[.pointer (some ⟨B, 0, none⟩), .int .i64 now, c.val] w (RTurn w0 B β S v (.int .i64 (S.doo now c).1) (S.doo now c).2 w) := by
  have hr := hc.remote
  have hn := hc.n
  have Hv := Lib.hid (show S.doo now c = S.received c.later c.loc c.remote c.n by unfold PS.doo; simp [h0, h1, h2, h3, h4, h5, h6])
  rw [Hv.out]
  clear Hv
  have HS := Lib.hid hS
  have HG := Lib.hid hg
  have hnd := Lib.hid hS.is.nd
  clear hS hg
  obtain ⟨kd, lt, rm, n, lc⟩ := c
  simp only at h0 h1 h2 h3 h4 h5 h6 hr hn ⊢
  have q0 : ((kd : Int) == 0) = false := by rw [beq_eq_false_iff_ne]; exact h0
  have q1 : ((kd : Int) == 1) = false := by rw [beq_eq_false_iff_ne]; exact h1
  have q2 : ((kd : Int) == 2) = false := by rw [beq_eq_false_iff_ne]; exact h2
  have q3 : ((kd : Int) == 3) = false := by rw [beq_eq_false_iff_ne]; exact h3
  have q4 : ((kd : Int) == 4) = false := by rw [beq_eq_false_iff_ne]; exact h4
  have q5 : ((kd : Int) == 5) = false := by rw [beq_eq_false_iff_ne]; exact h5
  have q6 : ((kd : Int) == 6) = false := by rw [beq_eq_false_iff_ne]; exact h6
  clear h0 h1 h2 h3 h4 h5 h6
  have HB : Hid (Below w.heap.size w (w.alloc (.cells #[.int .i64 kd, .int .i64 lt, .int .i64 rm, .int .i64 n, .int .i64 lc] 45))) := (Below.refl _ w).alloc (Nat.le_refl _) _
  have HA := Lib.hid (HS.out.of_below HB.out)
  have HG0 := Lib.hid (HS.out.go_same HB.out)
  clear HB
  go_enter Tryd.func26, Tryd.ntmps26
  go_wp2_with (fail)
  refine (remote24_any rm _ hr).mono ?_
  rintro e w1 ⟨rfl, rfl⟩
  have hrm := rmN_in rm
  generalize rmN rm = r at *
  go_wp2_with (fail)
  refine (rreceived_any w0 B β S v lt lc rm n _ HA.out HG.out.prev (HG.out.rcvs hnd.out hm _)).mono ?_
  rintro e w2 ⟨rfl, β2, v2, hG⟩
  have HG2 := Lib.hid (HG0.out.trans hG)
  clear hG
  go_wp2
  go_ret
  exact ⟨rfl, β2, v2, HG2.out⟩

theorem exp_any (w0 : World) (B : Nat) (β : Int × Int → Nat) (S : PS) (v : Value) (now : Int) (c : Call24) (w : World) (hS : RAt w0 B β S v w) (m : Nat) (hg : S.good m) (hm : m ≤ 1000000) (hc : c.ok) :
    Calls Tryd.prog 26 #[.pointer (some ⟨B, 0, none⟩), .int .i64 now, c.val] w (RTurn w0 B β S v (.int .i64 (S.doo now c).1) (S.doo now c).2 w) := by
  by_cases h0 : c.kind = 0
  · exact exp_0 w0 B β S v now c w hS m hg hm hc h0
  by_cases h1 : c.kind = 1
  · exact exp_1 w0 B β S v now c w hS m hg hm hc h1
  by_cases h2 : c.kind = 2
  · exact exp_2 w0 B β S v now c w hS m hg hm hc h2
  by_cases h3 : c.kind = 3
  · exact exp_3 w0 B β S v now c w hS m hg hm hc h3
  by_cases h4 : c.kind = 4
  · exact exp_4 w0 B β S v now c w hS m hg hm hc h4
  by_cases h5 : c.kind = 5
  · exact exp_5 w0 B β S v now c w hS m hg hm hc h5
  by_cases h6 : c.kind = 6
  · exact exp_6 w0 B β S v now c w hS m hg hm hc h6
  exact exp_x w0 B β S v now c w hS m hg hm hc h0 h1 h2 h3 h4 h5 h6

end Go.Proofs.YtmdfpknhfkgfoaaDoor
