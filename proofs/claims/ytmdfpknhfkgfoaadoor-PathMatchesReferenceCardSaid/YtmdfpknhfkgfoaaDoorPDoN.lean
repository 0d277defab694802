/- law24.do at a nil Paths. Printed by gendon.py. -/
import Derived.Test.YtmdfpknhfkgfoaaDoorPDo
namespace Go.Proofs.YtmdfpknhfkgfoaaDoor
open Go.RowKit Go.Shelf

set_option maxRecDepth 100000 in
set_option maxHeartbeats 1600000 in
theorem don_0 (aA aP : Addr) (now : Int) (c : Call24) (w : World) (hE : Errs aA aP w) (hc : c.ok) (hk : c.kind = 0) :
    Calls Tryd.prog 25 #[.pointer none, .int .i64 now, c.val] w (SomeB (.int .i64 1) w) := by
  have hr := hc.remote
  have hn := hc.n
  obtain ⟨kd, lt, rm, n, lc⟩ := c
  simp only at hk hr hn ⊢
  subst hk
  have HB : Hid (Below w.heap.size w (w.alloc (.cells #[.int .i64 0, .int .i64 lt, .int .i64 rm, .int .i64 n, .int .i64 lc] 45))) := (Below.refl _ w).alloc (Nat.le_refl _) _
  have HE := Lib.hid hE
  clear hE
  go_enter Tryd.func25, Tryd.ntmps25
  go_wp2_with (fail)
  refine (remote24_any rm _ hr).mono ?_
  rintro e w1 ⟨rfl, rfl⟩
  have hrm := rmN_in rm
  generalize rmN rm = r at *
  go_wp2_with (fail)
  refine (pick24_any n 600 _ (by decide) (by decide) hn.1 hn.2).mono ?_
  rintro e w1 ⟨rfl, rfl⟩
  have hpk := pkN_lt n 600 (by decide)
  generalize pkN n 600 = p at *
  go_wp2_with (fail)
  refine (received_nil now 100 r (p : Nat) _).mono ?_
  rintro e w2 ⟨rfl, hb⟩
  have HB2 := Lib.hid (HB.out.trans (hb.mono HB.out.size))
  clear hb
  go_wp2
  go_ret
  exact ⟨rfl, HB2.out⟩

set_option maxRecDepth 100000 in
set_option maxHeartbeats 1600000 in
theorem don_1 (aA aP : Addr) (now : Int) (c : Call24) (w : World) (hE : Errs aA aP w) (hc : c.ok) (hk : c.kind = 1) :
    Calls Tryd.prog 25 #[.pointer none, .int .i64 now, c.val] w (SomeB (.int .i64 1) w) := by
  have hr := hc.remote
  have hn := hc.n
  obtain ⟨kd, lt, rm, n, lc⟩ := c
  simp only at hk hr hn ⊢
  subst hk
  have HB : Hid (Below w.heap.size w (w.alloc (.cells #[.int .i64 1, .int .i64 lt, .int .i64 rm, .int .i64 n, .int .i64 lc] 45))) := (Below.refl _ w).alloc (Nat.le_refl _) _
  have HE := Lib.hid hE
  clear hE
  go_enter Tryd.func25, Tryd.ntmps25
  go_wp2_with (fail)
  refine (remote24_any rm _ hr).mono ?_
  rintro e w1 ⟨rfl, rfl⟩
  have hrm := rmN_in rm
  generalize rmN rm = r at *
  go_wp2_with (fail)
  refine (pick24_any n 600 _ (by decide) (by decide) hn.1 hn.2).mono ?_
  rintro e w1 ⟨rfl, rfl⟩
  have hpk := pkN_lt n 600 (by decide)
  generalize pkN n 600 = p at *
  go_wp2_with (fail)
  refine (sent_nil 100 r (p : Nat) _).mono ?_
  rintro e w2 ⟨rfl, hb⟩
  have HB2 := Lib.hid (HB.out.trans (hb.mono HB.out.size))
  clear hb
  go_wp2
  go_ret
  exact ⟨rfl, HB2.out⟩

set_option maxRecDepth 100000 in
set_option maxHeartbeats 1600000 in
theorem don_2 (aA aP : Addr) (now : Int) (c : Call24) (w : World) (hE : Errs aA aP w) (hc : c.ok) (hk : c.kind = 2) :
    Calls Tryd.prog 25 #[.pointer none, .int .i64 now, c.val] w (SomeB (.int .i64 1) w) := by
  have hr := hc.remote
  have hn := hc.n
  obtain ⟨kd, lt, rm, n, lc⟩ := c
  simp only at hk hr hn ⊢
  subst hk
  have HB : Hid (Below w.heap.size w (w.alloc (.cells #[.int .i64 2, .int .i64 lt, .int .i64 rm, .int .i64 n, .int .i64 lc] 45))) := (Below.refl _ w).alloc (Nat.le_refl _) _
  have HE := Lib.hid hE
  clear hE
  go_enter Tryd.func25, Tryd.ntmps25
  go_wp2_with (fail)
  refine (remote24_any rm _ hr).mono ?_
  rintro e w1 ⟨rfl, rfl⟩
  have hrm := rmN_in rm
  generalize rmN rm = r at *
  go_wp2_with (fail)
  refine (data24_any n _ hn).mono ?_
  rintro e w1 ⟨rfl, hb1⟩
  have HB1 := Lib.hid (HB.out.trans (hb1.mono HB.out.size))
  clear hb1 HB
  generalize datN n = d at *
  go_wp2_with (fail)
  refine (challenge_nil now 100 r d _).mono ?_
  rintro e w2 ⟨rfl, hb⟩
  have HB2 := Lib.hid (HB1.out.trans (hb.mono HB1.out.size))
  clear hb
  go_wp2
  go_ret
  exact ⟨rfl, HB2.out⟩

set_option maxRecDepth 100000 in
set_option maxHeartbeats 1600000 in
theorem don_3 (aA aP : Addr) (now : Int) (c : Call24) (w : World) (hE : Errs aA aP w) (hc : c.ok) (hk : c.kind = 3) :
    Calls Tryd.prog 25 #[.pointer none, .int .i64 now, c.val] w (SomeB (.int .i64 0) w) := by
  have hr := hc.remote
  have hn := hc.n
  obtain ⟨kd, lt, rm, n, lc⟩ := c
  simp only at hk hr hn ⊢
  subst hk
  have HB : Hid (Below w.heap.size w (w.alloc (.cells #[.int .i64 3, .int .i64 lt, .int .i64 rm, .int .i64 n, .int .i64 lc] 45))) := (Below.refl _ w).alloc (Nat.le_refl _) _
  have HE := Lib.hid hE
  clear hE
  go_enter Tryd.func25, Tryd.ntmps25
  go_wp2_with (fail)
  refine (remote24_any rm _ hr).mono ?_
  rintro e w1 ⟨rfl, rfl⟩
  have hrm := rmN_in rm
  generalize rmN rm = r at *
  go_wp2_with (fail)
  refine (data24_any n _ hn).mono ?_
  rintro e w1 ⟨rfl, hb1⟩
  have HB1 := Lib.hid (HB.out.trans (hb1.mono HB.out.size))
  clear hb1 HB
  generalize datN n = d at *
  go_wp2_with (fail)
  refine (respond_nil aA aP now 100 r d _ (HE.out.below HB1.out)).mono ?_
  rintro e w2 ⟨rfl, hb⟩
  have HB2 := Lib.hid (HB1.out.trans (hb.mono HB1.out.size))
  clear hb
  go_wp2
  go_ret
  exact ⟨rfl, HB2.out⟩

set_option maxRecDepth 100000 in
set_option maxHeartbeats 1600000 in
theorem don_4 (aA aP : Addr) (now : Int) (c : Call24) (w : World) (hE : Errs aA aP w) (hc : c.ok) (hk : c.kind = 4) :
    Calls Tryd.prog 25 #[.pointer none, .int .i64 now, c.val] w (SomeB (.int .i64 1) w) := by
  have hr := hc.remote
  have hn := hc.n
  obtain ⟨kd, lt, rm, n, lc⟩ := c
  simp only at hk hr hn ⊢
  subst hk
  have HB : Hid (Below w.heap.size w (w.alloc (.cells #[.int .i64 4, .int .i64 lt, .int .i64 rm, .int .i64 n, .int .i64 lc] 45))) := (Below.refl _ w).alloc (Nat.le_refl _) _
  have HE := Lib.hid hE
  clear hE
  go_enter Tryd.func25, Tryd.ntmps25
  go_wp2_with (fail)
  refine (remote24_any rm _ hr).mono ?_
  rintro e w1 ⟨rfl, rfl⟩
  have hrm := rmN_in rm
  generalize rmN rm = r at *
  go_wp2_with (fail)
  refine (migrate_nil 100 r _).mono ?_
  rintro e w2 ⟨rfl, hb⟩
  have HB2 := Lib.hid (HB.out.trans (hb.mono HB.out.size))
  clear hb
  go_wp2
  go_ret
  exact ⟨rfl, HB2.out⟩

set_option maxRecDepth 100000 in
set_option maxHeartbeats 1600000 in
theorem don_5 (aA aP : Addr) (now : Int) (c : Call24) (w : World) (hE : Errs aA aP w) (hc : c.ok) (hk : c.kind = 5) :
    Calls Tryd.prog 25 #[.pointer none, .int .i64 now, c.val] w (SomeB (.int .i64 1) w) := by
  have hr := hc.remote
  have hn := hc.n
  obtain ⟨kd, lt, rm, n, lc⟩ := c
  simp only at hk hr hn ⊢
  subst hk
  have HB : Hid (Below w.heap.size w (w.alloc (.cells #[.int .i64 5, .int .i64 lt, .int .i64 rm, .int .i64 n, .int .i64 lc] 45))) := (Below.refl _ w).alloc (Nat.le_refl _) _
  have HE := Lib.hid hE
  clear hE
  go_enter Tryd.func25, Tryd.ntmps25
  go_wp2_with (fail)
  refine (remote24_any rm _ hr).mono ?_
  rintro e w1 ⟨rfl, rfl⟩
  have hrm := rmN_in rm
  generalize rmN rm = r at *
  go_wp2_with (fail)
  refine (validate_nil 100 r _).mono ?_
  rintro e w2 ⟨rfl, hb⟩
  have HB2 := Lib.hid (HB.out.trans (hb.mono HB.out.size))
  clear hb
  go_wp2
  go_ret
  exact ⟨rfl, HB2.out⟩

set_option maxRecDepth 100000 in
set_option maxHeartbeats 1600000 in
theorem don_6 (aA aP : Addr) (now : Int) (c : Call24) (w : World) (hE : Errs aA aP w) (hc : c.ok) (hk : c.kind = 6) :
    Calls Tryd.prog 25 #[.pointer none, .int .i64 now, c.val] w (SomeB (.int .i64 0) w) := by
  have hr := hc.remote
  have hn := hc.n
  obtain ⟨kd, lt, rm, n, lc⟩ := c
  simp only at hk hr hn ⊢
  subst hk
  have HB : Hid (Below w.heap.size w (w.alloc (.cells #[.int .i64 6, .int .i64 lt, .int .i64 rm, .int .i64 n, .int .i64 lc] 45))) := (Below.refl _ w).alloc (Nat.le_refl _) _
  have HE := Lib.hid hE
  clear hE
  go_enter Tryd.func25, Tryd.ntmps25
  go_wp2_with (fail)
  refine (remote24_any rm _ hr).mono ?_
  rintro e w1 ⟨rfl, rfl⟩
  have hrm := rmN_in rm
  generalize rmN rm = r at *
  go_wp2_with (fail)
  refine (tick_nil now _).mono ?_
  rintro e w2 ⟨rfl, hb⟩
  have HB2 := Lib.hid (HB.out.trans (hb.mono HB.out.size))
  clear hb
  go_wp2
  go_ret
  exact ⟨rfl, HB2.out⟩

set_option maxRecDepth 100000 in
set_option maxHeartbeats 1600000 in
theorem don_x (aA aP : Addr) (now : Int) (c : Call24) (w : World) (hE : Errs aA aP w) (hc : c.ok) (h0 : c.kind ≠ 0) (h1 : c.kind ≠ 1) (h2 : c.kind ≠ 2) (h3 : c.kind ≠ 3) (h4 : c.kind ≠ 4) (h5 : c.kind ≠ 5) (h6 : c.kind ≠ 6) :
    Calls Tryd.prog 25 #[.pointer none, .int .i64 now, c.val] w (SomeB (.int .i64 1) w) := by
  have hr := hc.remote
  have hn := hc.n
  obtain ⟨kd, lt, rm, n, lc⟩ := c
  simp only at h0 h1 h2 h3 h4 h5 h6 hr hn ⊢
  have q0 : ((kd : Int) == 0) = false := by rw [beq_eq_false_iff_ne]; exact h0
  have q1 : ((kd : Int) == 1) = false := by rw [beq_eq_false_iff_ne]; exact h1
  have q2 : ((kd : Int) == 2) = false := by rw [beq_eq_false_iff_ne]; exact h2
  have q3 : ((kd : Int) == 3) = false := by rw [beq_eq_false_iff_ne]; exact h3
  have q4 : ((kd : Int) == 4) = false := by rw [beq_eq_false_iff_ne]; exact h4
  have q5 : ((kd : Int) == 5) = false := by rw [beq_eq_false_iff_ne]; exact h5
  have q6 : ((kd : Int) == 6) = false := by rw [beq_eq_false_iff_ne]; exact h6
  clear h0 h1 h2 h3 h4 h5 h6
  have HB : Hid (Below w.heap.size w (w.alloc (.cells #[.int .i64 kd, .int .i64 lt, .int .i64 rm, .int .i64 n, .int .i64 lc] 45))) := (Below.refl _ w).alloc (Nat.le_refl _) _
  have HE := Lib.hid hE
  clear hE
  go_enter Tryd.func25, Tryd.ntmps25
  go_wp2_with (fail)
  refine (remote24_any rm _ hr).mono ?_
  rintro e w1 ⟨rfl, rfl⟩
  have hrm := rmN_in rm
  generalize rmN rm = r at *
  go_wp2_with (fail)
  refine (received_nil lt lc rm n _).mono ?_
  rintro e w2 ⟨rfl, hb⟩
  have HB2 := Lib.hid (HB.out.trans (hb.mono HB.out.size))
  clear hb
  go_wp2
  go_ret
  exact ⟨rfl, HB2.out⟩

def nilOf (k : Int) : Int := if k = 3 ∨ k = 6 then 0 else 1

theorem don_any (aA aP : Addr) (now : Int) (c : Call24) (w : World) (hE : Errs aA aP w) (hc : c.ok) :
    Calls Tryd.prog 25 #[.pointer none, .int .i64 now, c.val] w (SomeB (.int .i64 (nilOf c.kind)) w) := by
  unfold nilOf
  by_cases h0 : c.kind = 0
  · have h := don_0 aA aP now c w hE hc h0
    rw [if_neg (by omega)]; exact h
  by_cases h1 : c.kind = 1
  · have h := don_1 aA aP now c w hE hc h1
    rw [if_neg (by omega)]; exact h
  by_cases h2 : c.kind = 2
  · have h := don_2 aA aP now c w hE hc h2
    rw [if_neg (by omega)]; exact h
  by_cases h3 : c.kind = 3
  · have h := don_3 aA aP now c w hE hc h3
    rw [if_pos (.inl h3)]; exact h
  by_cases h4 : c.kind = 4
  · have h := don_4 aA aP now c w hE hc h4
    rw [if_neg (by omega)]; exact h
  by_cases h5 : c.kind = 5
  · have h := don_5 aA aP now c w hE hc h5
    rw [if_neg (by omega)]; exact h
  by_cases h6 : c.kind = 6
  · have h := don_6 aA aP now c w hE hc h6
    rw [if_pos (.inr h6)]; exact h
  rw [if_neg (by omega)]
  exact don_x aA aP now c w hE hc h0 h1 h2 h3 h4 h5 h6

end Go.Proofs.YtmdfpknhfkgfoaaDoor
