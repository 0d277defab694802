/- law24: pick, remote, data, do. Printed by gendo.py. -/
import Derived.Test.YtmdfpknhfkgfoaaDoorPGood
namespace Go.Proofs.YtmdfpknhfkgfoaaDoor
open Go.RowKit Go.Shelf
set_option linter.unusedVariables false

def in63 (z : Int) : Prop := -9223372036854775808 ≤ z ∧ z ≤ 9223372036854775807

set_option maxHeartbeats 400000 in
theorem pick24_any (c : Int) (n : Nat) (w : World) (h0 : 0 < n) (h1 : n ≤ 10000000000) (hlo : -9223372036854775808 ≤ c) (hhi : c ≤ 9223372036854775807) :
    Calls Tryd.prog 16 #[.int .i64 c, .int .i64 n] w fun e w' => e = .returned (.int .i64 (pkN c n : Nat)) ∧ w = w' := by
  have hv : ((pkN c n : Nat) : Int) = (if c < 0 then -(c + 1) else c) % (n : Int) := by
    unfold pkN
    exact Int.toNat_of_nonneg (Int.emod_nonneg _ (by omega))
  by_cases hc : c < 0
  · rw [if_pos hc, ← Int.tmod_eq_emod_of_nonneg (by omega), Int.neg_tmod] at hv
    have Hv := Lib.hid hv; clear hv
    go_enter Tryd.func16, Tryd.ntmps16
    go_wp2
    go_ret
    exact ⟨congrArg (fun z : Int => Ending.returned (.int .i64 z)) Hv.out.symm, rfl⟩
  · rw [if_neg hc] at hv
    have Hv := Lib.hid hv; clear hv
    go_enter Tryd.func16, Tryd.ntmps16
    go_wp2
    go_ret
    exact ⟨congrArg (fun z : Int => Ending.returned (.int .i64 z)) Hv.out.symm, rfl⟩

theorem remote24_any (c : Int) (w : World) (hc : in63 c) :
    Calls Tryd.prog 30 #[.int .i64 c] w fun e w' => e = .returned (.int .i64 (rmN c)) ∧ w = w' := by
  have h1 := hc.1
  have h2 := hc.2
  have hlt := pkN_lt c 7 (by decide)
  rw [show rmN c = 1 + ((pkN c 7 : Nat) : Int) from rfl]
  obtain ⟨p, hp⟩ : ∃ p, Hid (pkN c 7 = p) := ⟨_, rfl⟩
  rw [hp.out] at hlt ⊢
  go_enter Tryd.func30, Tryd.ntmps30
  go_wp2_with (fail)
  refine (pick24_any c 7 _ (by decide) (by decide) h1 h2).mono ?_
  rintro e w1 ⟨rfl, rfl⟩
  rw [hp.out]
  go_wp2
  go_ret
  exact ⟨rfl, rfl⟩

set_option maxHeartbeats 400000 in
theorem data24_any (c : Int) (w : World) (hc : in63 c) :
    Calls Tryd.prog 31 #[.int .i64 c] w (SomeB (.string (datN c)) w) := by
  have h1 := hc.1
  have h2 := hc.2
  have hlt := pkN_lt c 3 (by decide)
  rw [show datN c = datOf (pkN c 3) from rfl]
  go_enter Tryd.func31, Tryd.ntmps31
  go_wp2_with (fail)
  refine (pick24_any c 3 _ (by decide) (by decide) h1 h2).mono ?_
  rintro e w1 ⟨rfl, rfl⟩
  generalize pkN c 3 = p at *
  have hp : p = 0 ∨ p = 1 ∨ p = 2 := by omega
  rcases hp with rfl | rfl | rfl
  all_goals
    go_wp2
    go_ret
    exact ⟨rfl, (Below.refl _ w).alloc (Nat.le_refl _) _⟩

structure Call24.ok (c : Call24) : Prop where
  kind : in63 c.kind
  later : in63 c.later
  remote : in63 c.remote
  n : in63 c.n
  loc : in63 c.loc
abbrev Call24.val (c : Call24) : Value := .agg #[.int .i64 c.kind, .int .i64 c.later, .int .i64 c.remote, .int .i64 c.n, .int .i64 c.loc]
abbrev Call24.cells (c : Call24) : Array Value := #[.int .i64 c.kind, .int .i64 c.later, .int .i64 c.remote, .int .i64 c.n, .int .i64 c.loc]

set_option maxRecDepth 100000 in
set_option maxHeartbeats 1600000 in
theorem do_0 (aA aP : Addr) (w0 : World) (B : Nat) (β : Int × Int → Nat) (S : PS) (v : Value) (now : Int) (c : Call24) (w : World) (hE : Errs aA aP w0) (hS : PAt w0 B β S v w) (m : Nat) (hg : S.good m) (hm : m ≤ 1000000) (hc : c.ok) (hk : c.kind = 0) :
    Calls Tryd.prog 25 #[.pointer (some ⟨B, 0, none⟩), .int .i64 now, c.val] w (TurnPost w0 B β S v (.int .i64 (S.doo now c).1) (S.doo now c).2 w) := by
  have hr := hc.remote
  have hn := hc.n
  have Hv := Lib.hid (show S.doo now c = S.received now 100 (rmN c.remote) (pkN c.n 600 : Nat) by unfold PS.doo; simp [hk])
  rw [Hv.out]
  clear Hv
  have HS := Lib.hid hS
  have HE := Lib.hid hE
  have HG := Lib.hid hg
  have hnd := Lib.hid hS.is.nd
  clear hS hE hg
  obtain ⟨kd, lt, rm, n, lc⟩ := c
  simp only at hk hr hn ⊢
  subst hk
  have HB : Hid (Below w.heap.size w (w.alloc (.cells #[.int .i64 0, .int .i64 lt, .int .i64 rm, .int .i64 n, .int .i64 lc] 45))) := (Below.refl _ w).alloc (Nat.le_refl _) _
  have HA := Lib.hid (HS.out.of_below HB.out)
  have HG0 := Lib.hid (HS.out.go_same HB.out)
  clear HB
  go_enter Tryd.func25, Tryd.ntmps25
  go_wp2_with (fail)
  refine (remote24_any rm _ hr).mono ?_
  rintro e w1 ⟨rfl, rfl⟩
  have hrm := rmN_in rm
  generalize rmN rm = r at *
  go_wp2_with (fail)
  refine (pick24_any n 600 _ (by decide) (by decide) hn.1 hn.2).mono ?_
  rintro e w1 ⟨rfl, rfl⟩
  have hpk := pkN_lt n 600 (by decide)
  generalize pkN n 600 = p at *
  go_wp2_with (fail)
  refine (received_any aA aP w0 B β S v now 100 r (p : Nat) _ HE.out HA.out HG.out.prev (HG.out.rcvs hnd.out hm _)).mono ?_
  rintro e w2 ⟨rfl, β2, v2, hG⟩
  have HG2 := Lib.hid (HG0.out.trans hG)
  clear hG
  go_wp2
  go_ret
  exact ⟨rfl, β2, v2, HG2.out⟩

set_option maxRecDepth 100000 in
set_option maxHeartbeats 1600000 in
theorem do_1 (aA aP : Addr) (w0 : World) (B : Nat) (β : Int × Int → Nat) (S : PS) (v : Value) (now : Int) (c : Call24) (w : World) (hE : Errs aA aP w0) (hS : PAt w0 B β S v w) (m : Nat) (hg : S.good m) (hm : m ≤ 1000000) (hc : c.ok) (hk : c.kind = 1) :
    Calls Tryd.prog 25 #[.pointer (some ⟨B, 0, none⟩), .int .i64 now, c.val] w (TurnPost w0 B β S v (.int .i64 (S.doo now c).1) (S.doo now c).2 w) := by
  have hr := hc.remote
  have hn := hc.n
  have Hv := Lib.hid (show S.doo now c = S.sent (100, rmN c.remote) (pkN c.n 600 : Nat) by unfold PS.doo; simp [hk])
  rw [Hv.out]
  clear Hv
  have HS := Lib.hid hS
  have HE := Lib.hid hE
  have HG := Lib.hid hg
  have hnd := Lib.hid hS.is.nd
  clear hS hE hg
  obtain ⟨kd, lt, rm, n, lc⟩ := c
  simp only at hk hr hn ⊢
  subst hk
  have HB : Hid (Below w.heap.size w (w.alloc (.cells #[.int .i64 1, .int .i64 lt, .int .i64 rm, .int .i64 n, .int .i64 lc] 45))) := (Below.refl _ w).alloc (Nat.le_refl _) _
  have HA := Lib.hid (HS.out.of_below HB.out)
  have HG0 := Lib.hid (HS.out.go_same HB.out)
  clear HB
  go_enter Tryd.func25, Tryd.ntmps25
  go_wp2_with (fail)
  refine (remote24_any rm _ hr).mono ?_
  rintro e w1 ⟨rfl, rfl⟩
  have hrm := rmN_in rm
  generalize rmN rm = r at *
  go_wp2_with (fail)
  refine (pick24_any n 600 _ (by decide) (by decide) hn.1 hn.2).mono ?_
  rintro e w1 ⟨rfl, rfl⟩
  have hpk := pkN_lt n 600 (by decide)
  generalize pkN n 600 = p at *
  go_wp2_with (fail)
  refine (sent_any aA aP w0 B β S v 100 r (p : Nat) _ (HE.out.below HA.out.below) HA.out (HG.out.snts hnd.out hm _ (by omega))).mono ?_
  rintro e w2 ⟨rfl, β2, v2, hG⟩
  have HG2 := Lib.hid (HG0.out.trans hG)
  clear hG
  go_wp2
  go_ret
  exact ⟨rfl, β2, v2, HG2.out⟩

set_option maxRecDepth 100000 in
set_option maxHeartbeats 1600000 in
theorem do_2 (aA aP : Addr) (w0 : World) (B : Nat) (β : Int × Int → Nat) (S : PS) (v : Value) (now : Int) (c : Call24) (w : World) (hE : Errs aA aP w0) (hS : PAt w0 B β S v w) (m : Nat) (hg : S.good m) (hm : m ≤ 1000000) (hc : c.ok) (hk : c.kind = 2) :
    Calls Tryd.prog 25 #[.pointer (some ⟨B, 0, none⟩), .int .i64 now, c.val] w (TurnPost w0 B β S v (.int .i64 (S.doo now c).1) (S.doo now c).2 w) := by
  have hr := hc.remote
  have hn := hc.n
  have Hv := Lib.hid (show S.doo now c = S.challenge now (100, rmN c.remote) (datN c.n) by unfold PS.doo; simp [hk])
  rw [Hv.out]
  clear Hv
  have HS := Lib.hid hS
  have HE := Lib.hid hE
  have HG := Lib.hid hg
  have hnd := Lib.hid hS.is.nd
  clear hS hE hg
  obtain ⟨kd, lt, rm, n, lc⟩ := c
  simp only at hk hr hn ⊢
  subst hk
  have HB : Hid (Below w.heap.size w (w.alloc (.cells #[.int .i64 2, .int .i64 lt, .int .i64 rm, .int .i64 n, .int .i64 lc] 45))) := (Below.refl _ w).alloc (Nat.le_refl _) _
  have HA := Lib.hid (HS.out.of_below HB.out)
  have HG0 := Lib.hid (HS.out.go_same HB.out)
  clear HB
  go_enter Tryd.func25, Tryd.ntmps25
  go_wp2_with (fail)
  refine (remote24_any rm _ hr).mono ?_
  rintro e w1 ⟨rfl, rfl⟩
  have hrm := rmN_in rm
  generalize rmN rm = r at *
  go_wp2_with (fail)
  refine (data24_any n _ hn).mono ?_
  rintro e w1 ⟨rfl, hb1⟩
  have HA1 := Lib.hid (HA.out.of_below hb1)
  have HG1 := Lib.hid (HG0.out.trans (HA.out.go_same hb1))
  clear hb1 HA HG0
  generalize datN n = d at *
  go_wp2_with (fail)
  refine (challenge_any aA aP w0 B β S v now 100 r d _ (HE.out.below HA1.out.below) HA1.out).mono ?_
  rintro e w2 ⟨rfl, β2, v2, hG⟩
  have HG2 := Lib.hid (HG1.out.trans hG)
  clear hG
  go_wp2
  go_ret
  exact ⟨rfl, β2, v2, HG2.out⟩

set_option maxRecDepth 100000 in
set_option maxHeartbeats 1600000 in
theorem do_3 (aA aP : Addr) (w0 : World) (B : Nat) (β : Int × Int → Nat) (S : PS) (v : Value) (now : Int) (c : Call24) (w : World) (hE : Errs aA aP w0) (hS : PAt w0 B β S v w) (m : Nat) (hg : S.good m) (hm : m ≤ 1000000) (hc : c.ok) (hk : c.kind = 3) :
    Calls Tryd.prog 25 #[.pointer (some ⟨B, 0, none⟩), .int .i64 now, c.val] w (TurnPost w0 B β S v (.int .i64 (S.doo now c).1) (S.doo now c).2 w) := by
  have hr := hc.remote
  have hn := hc.n
  have Hv := Lib.hid (show S.doo now c = (b2i (S.respond (100, rmN c.remote) (datN c.n)).1, (S.respond (100, rmN c.remote) (datN c.n)).2) by unfold PS.doo; simp [hk])
  rw [Hv.out]
  clear Hv
  have HS := Lib.hid hS
  have HE := Lib.hid hE
  have HG := Lib.hid hg
  have hnd := Lib.hid hS.is.nd
  clear hS hE hg
  obtain ⟨kd, lt, rm, n, lc⟩ := c
  simp only at hk hr hn ⊢
  subst hk
  have HB : Hid (Below w.heap.size w (w.alloc (.cells #[.int .i64 3, .int .i64 lt, .int .i64 rm, .int .i64 n, .int .i64 lc] 45))) := (Below.refl _ w).alloc (Nat.le_refl _) _
  have HA := Lib.hid (HS.out.of_below HB.out)
  have HG0 := Lib.hid (HS.out.go_same HB.out)
  clear HB
  go_enter Tryd.func25, Tryd.ntmps25
  go_wp2_with (fail)
  refine (remote24_any rm _ hr).mono ?_
  rintro e w1 ⟨rfl, rfl⟩
  have hrm := rmN_in rm
  generalize rmN rm = r at *
  go_wp2_with (fail)
  refine (data24_any n _ hn).mono ?_
  rintro e w1 ⟨rfl, hb1⟩
  have HA1 := Lib.hid (HA.out.of_below hb1)
  have HG1 := Lib.hid (HG0.out.trans (HA.out.go_same hb1))
  clear hb1 HA HG0
  generalize datN n = d at *
  go_wp2_with (fail)
  refine (respond_any aA aP w0 B β S v now 100 r d _ (HE.out.below HA1.out.below) HA1.out).mono ?_
  rintro e w2 ⟨rfl, β2, v2, hG⟩
  have HG2 := Lib.hid (HG1.out.trans hG)
  clear hG
  generalize S.respond (100, r) d = X at *
  obtain ⟨b, S2⟩ := X
  cases b with
  | true =>
    go_wp2
    go_ret
    exact ⟨rfl, β2, v2, HG2.out⟩
  | false =>
    go_wp2
    go_ret
    exact ⟨rfl, β2, v2, HG2.out⟩

set_option maxRecDepth 100000 in
set_option maxHeartbeats 1600000 in
theorem do_4 (aA aP : Addr) (w0 : World) (B : Nat) (β : Int × Int → Nat) (S : PS) (v : Value) (now : Int) (c : Call24) (w : World) (hE : Errs aA aP w0) (hS : PAt w0 B β S v w) (m : Nat) (hg : S.good m) (hm : m ≤ 1000000) (hc : c.ok) (hk : c.kind = 4) :
    Calls Tryd.prog 25 #[.pointer (some ⟨B, 0, none⟩), .int .i64 now, c.val] w (TurnPost w0 B β S v (.int .i64 (S.doo now c).1) (S.doo now c).2 w) := by
  have hr := hc.remote
  have hn := hc.n
  have Hv := Lib.hid (show S.doo now c = S.migrate (100, rmN c.remote) by unfold PS.doo; simp [hk])
  rw [Hv.out]
  clear Hv
  have HS := Lib.hid hS
  have HE := Lib.hid hE
  have HG := Lib.hid hg
  have hnd := Lib.hid hS.is.nd
  clear hS hE hg
  obtain ⟨kd, lt, rm, n, lc⟩ := c
  simp only at hk hr hn ⊢
  subst hk
  have HB : Hid (Below w.heap.size w (w.alloc (.cells #[.int .i64 4, .int .i64 lt, .int .i64 rm, .int .i64 n, .int .i64 lc] 45))) := (Below.refl _ w).alloc (Nat.le_refl _) _
  have HA := Lib.hid (HS.out.of_below HB.out)
  have HG0 := Lib.hid (HS.out.go_same HB.out)
  clear HB
  go_enter Tryd.func25, Tryd.ntmps25
  go_wp2_with (fail)
  refine (remote24_any rm _ hr).mono ?_
  rintro e w1 ⟨rfl, rfl⟩
  have hrm := rmN_in rm
  generalize rmN rm = r at *
  go_wp2_with (fail)
  refine (migrate_any aA aP w0 B β S v 100 r _ (HE.out.below HA.out.below) HA.out).mono ?_
  rintro e w2 ⟨rfl, β2, v2, hG⟩
  have HG2 := Lib.hid (HG0.out.trans hG)
  clear hG
  go_wp2
  go_ret
  exact ⟨rfl, β2, v2, HG2.out⟩

set_option maxRecDepth 100000 in
set_option maxHeartbeats 1600000 in
theorem do_5 (aA aP : Addr) (w0 : World) (B : Nat) (β : Int × Int → Nat) (S : PS) (v : Value) (now : Int) (c : Call24) (w : World) (hE : Errs aA aP w0) (hS : PAt w0 B β S v w) (m : Nat) (hg : S.good m) (hm : m ≤ 1000000) (hc : c.ok) (hk : c.kind = 5) :
    Calls Tryd.prog 25 #[.pointer (some ⟨B, 0, none⟩), .int .i64 now, c.val] w (TurnPost w0 B β S v (.int .i64 (S.doo now c).1) (S.doo now c).2 w) := by
  have hr := hc.remote
  have hn := hc.n
  have Hv := Lib.hid (show S.doo now c = S.validate (100, rmN c.remote) by unfold PS.doo; simp [hk])
  rw [Hv.out]
  clear Hv
  have HS := Lib.hid hS
  have HE := Lib.hid hE
  have HG := Lib.hid hg
  have hnd := Lib.hid hS.is.nd
  clear hS hE hg
  obtain ⟨kd, lt, rm, n, lc⟩ := c
  simp only at hk hr hn ⊢
  subst hk
  have HB : Hid (Below w.heap.size w (w.alloc (.cells #[.int .i64 5, .int .i64 lt, .int .i64 rm, .int .i64 n, .int .i64 lc] 45))) := (Below.refl _ w).alloc (Nat.le_refl _) _
  have HA := Lib.hid (HS.out.of_below HB.out)
  have HG0 := Lib.hid (HS.out.go_same HB.out)
  clear HB
  go_enter Tryd.func25, Tryd.ntmps25
  go_wp2_with (fail)
  refine (remote24_any rm _ hr).mono ?_
  rintro e w1 ⟨rfl, rfl⟩
  have hrm := rmN_in rm
  generalize rmN rm = r at *
  go_wp2_with (fail)
  refine (validate_any aA aP w0 B β S v 100 r _ (HE.out.below HA.out.below) HA.out).mono ?_
  rintro e w2 ⟨rfl, β2, v2, hG⟩
  have HG2 := Lib.hid (HG0.out.trans hG)
  clear hG
  go_wp2
  go_ret
  exact ⟨rfl, β2, v2, HG2.out⟩

set_option maxRecDepth 100000 in
set_option maxHeartbeats 1600000 in
theorem do_6 (aA aP : Addr) (w0 : World) (B : Nat) (β : Int × Int → Nat) (S : PS) (v : Value) (now : Int) (c : Call24) (w : World) (hE : Errs aA aP w0) (hS : PAt w0 B β S v w) (m : Nat) (hg : S.good m) (hm : m ≤ 1000000) (hc : c.ok) (hk : c.kind = 6) :
    Calls Tryd.prog 25 #[.pointer (some ⟨B, 0, none⟩), .int .i64 now, c.val] w (TurnPost w0 B β S v (.int .i64 (S.doo now c).1) (S.doo now c).2 w) := by
  have hr := hc.remote
  have hn := hc.n
  have Hv := Lib.hid (show S.doo now c = (b2i (S.tick now).1, (S.tick now).2) by unfold PS.doo; simp [hk])
  rw [Hv.out]
  clear Hv
  have HS := Lib.hid hS
  have HE := Lib.hid hE
  have HG := Lib.hid hg
  have hnd := Lib.hid hS.is.nd
  clear hS hE hg
  obtain ⟨kd, lt, rm, n, lc⟩ := c
  simp only at hk hr hn ⊢
  subst hk
  have HB : Hid (Below w.heap.size w (w.alloc (.cells #[.int .i64 6, .int .i64 lt, .int .i64 rm, .int .i64 n, .int .i64 lc] 45))) := (Below.refl _ w).alloc (Nat.le_refl _) _
  have HA := Lib.hid (HS.out.of_below HB.out)
  have HG0 := Lib.hid (HS.out.go_same HB.out)
  clear HB
  go_enter Tryd.func25, Tryd.ntmps25
  go_wp2_with (fail)
  refine (remote24_any rm _ hr).mono ?_
  rintro e w1 ⟨rfl, rfl⟩
  have hrm := rmN_in rm
  generalize rmN rm = r at *
  go_wp2_with (fail)
  refine (tick_any w0 B β S v now _ HA.out).mono ?_
  rintro e w2 ⟨rfl, β2, v2, hG⟩
  have HG2 := Lib.hid (HG0.out.trans hG)
  clear hG
  generalize S.tick now = X at *
  obtain ⟨b, S2⟩ := X
  cases b with
  | true =>
    go_wp2
    go_ret
    exact ⟨rfl, β2, v2, HG2.out⟩
  | false =>
    go_wp2
    go_ret
    exact ⟨rfl, β2, v2, HG2.out⟩

set_option maxRecDepth 100000 in
set_option maxHeartbeats 1600000 in
theorem do_x (aA aP : Addr) (w0 : World) (B : Nat) (β : Int × Int → Nat) (S : PS) (v : Value) (now : Int) (c : Call24) (w : World) (hE : Errs aA aP w0) (hS : PAt w0 B β S v w) (m : Nat) (hg : S.good m) (hm : m ≤ 1000000) (hc : c.ok) (h0 : c.kind ≠ 0) (h1 : c.kind ≠ 1) (h2 : c.kind ≠ 2) (h3 : c.kind ≠ 3) (h4 : c.kind ≠ 4) (h5 : c.kind ≠ 5) (h6 : c.kind ≠ 6) :
    Calls Tryd.prog 25 #[.pointer (some ⟨B, 0, none⟩), .int .i64 now, c.val] w (TurnPost w0 B β S v (.int .i64 (S.doo now c).1) (S.doo now c).2 w) := by
  have hr := hc.remote
  have hn := hc.n
  have Hv := Lib.hid (show S.doo now c = S.received c.later c.loc c.remote c.n by unfold PS.doo; simp [h0, h1, h2, h3, h4, h5, h6])
  rw [Hv.out]
  clear Hv
  have HS := Lib.hid hS
  have HE := Lib.hid hE
  have HG := Lib.hid hg
  have hnd := Lib.hid hS.is.nd
  clear hS hE hg
  obtain ⟨kd, lt, rm, n, lc⟩ := c
  simp only at h0 h1 h2 h3 h4 h5 h6 hr hn ⊢
  have q0 : ((kd : Int) == 0) = false := by rw [beq_eq_false_iff_ne]; exact h0
  have q1 : ((kd : Int) == 1) = false := by rw [beq_eq_false_iff_ne]; exact h1
  have q2 : ((kd : Int) == 2) = false := by rw [beq_eq_false_iff_ne]; exact h2
  have q3 : ((kd : Int) == 3) = false := by rw [beq_eq_false_iff_ne]; exact h3
  have q4 : ((kd : Int) == 4) = false := by rw [beq_eq_false_iff_ne]; exact h4
  have q5 : ((kd : Int) == 5) = false := by rw [beq_eq_false_iff_ne]; exact h5
  have q6 : ((kd : Int) == 6) = false := by rw [beq_eq_false_iff_ne]; exact h6
  clear h0 h1 h2 h3 h4 h5 h6
  have HB : Hid (Below w.heap.size w (w.alloc (.cells #[.int .i64 kd, .int .i64 lt, .int .i64 rm, .int .i64 n, .int .i64 lc] 45))) := (Below.refl _ w).alloc (Nat.le_refl _) _
  have HA := Lib.hid (HS.out.of_below HB.out)
  have HG0 := Lib.hid (HS.out.go_same HB.out)
  clear HB
  go_enter Tryd.func25, Tryd.ntmps25
  go_wp2_with (fail)
  refine (remote24_any rm _ hr).mono ?_
  rintro e w1 ⟨rfl, rfl⟩
  have hrm := rmN_in rm
  generalize rmN rm = r at *
  go_wp2_with (fail)
  refine (received_any aA aP w0 B β S v lt lc rm n _ HE.out HA.out HG.out.prev (HG.out.rcvs hnd.out hm _)).mono ?_
  rintro e w2 ⟨rfl, β2, v2, hG⟩
  have HG2 := Lib.hid (HG0.out.trans hG)
  clear hG
  go_wp2
  go_ret
  exact ⟨rfl, β2, v2, HG2.out⟩

theorem do_any (aA aP : Addr) (w0 : World) (B : Nat) (β : Int × Int → Nat) (S : PS) (v : Value) (now : Int) (c : Call24) (w : World) (hE : Errs aA aP w0) (hS : PAt w0 B β S v w) (m : Nat) (hg : S.good m) (hm : m ≤ 1000000) (hc : c.ok) :
    Calls Tryd.prog 25 #[.pointer (some ⟨B, 0, none⟩), .int .i64 now, c.val] w (TurnPost w0 B β S v (.int .i64 (S.doo now c).1) (S.doo now c).2 w) := by
  by_cases h0 : c.kind = 0
  · exact do_0 aA aP w0 B β S v now c w hE hS m hg hm hc h0
  by_cases h1 : c.kind = 1
  · exact do_1 aA aP w0 B β S v now c w hE hS m hg hm hc h1
  by_cases h2 : c.kind = 2
  · exact do_2 aA aP w0 B β S v now c w hE hS m hg hm hc h2
  by_cases h3 : c.kind = 3
  · exact do_3 aA aP w0 B β S v now c w hE hS m hg hm hc h3
  by_cases h4 : c.kind = 4
  · exact do_4 aA aP w0 B β S v now c w hE hS m hg hm hc h4
  by_cases h5 : c.kind = 5
  · exact do_5 aA aP w0 B β S v now c w hE hS m hg hm hc h5
  by_cases h6 : c.kind = 6
  · exact do_6 aA aP w0 B β S v now c w hE hS m hg hm hc h6
  exact do_x aA aP w0 B β S v now c w hE hS m hg hm hc h0 h1 h2 h3 h4 h5 h6

end Go.Proofs.YtmdfpknhfkgfoaaDoor
