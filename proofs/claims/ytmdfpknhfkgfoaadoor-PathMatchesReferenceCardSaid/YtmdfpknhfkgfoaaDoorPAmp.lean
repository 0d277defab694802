/- The walk of PathAmplification. Printed by genamp.py. -/
import Derived.Test.YtmdfpknhfkgfoaaDoorPLoop
import Derived.Test.YtmdfpknhfkgfoaaDoorPArgs
import Derived.Test.YtmdfpknhfkgfoaaDoorPLineW
import Derived.Test.YtmdfpknhfkgfoaaDoorPBnd
namespace Go.Proofs.YtmdfpknhfkgfoaaDoor
open Go.RowKit Go.Shelf

structure AmAt (B : Nat) (β : Int × Int → Nat) (S : PS) (v : Value) (k : Int × Int) (rc sn m : Nat) (w W : World) : Prop where
  now : PAt w B β S v W
  good : S.good m
  amp : AmpInv k S rc sn

section
variable {B : Nat} {β β' : Int × Int → Nat} {S S' : PS} {v v' : Value} {k : Int × Int} {rc sn m : Nat} {w W W' : World}
theorem AmAt.of_below (h : AmAt B β S v k rc sn m w W) (hb : Below W.heap.size W W') : AmAt B β S v k rc sn m w W' := ⟨h.now.of_below hb, h.good, h.amp⟩
theorem AmAt.mono (h : AmAt B β S v k rc sn m w W) {m' : Nat} (hm : m ≤ m') : AmAt B β S v k rc sn m' w W := ⟨h.now, h.good.mono hm, h.amp⟩
end

theorem key_ne {c : Call24} {rm x : Int} (h : rmN c.remote = rm) (hne : ¬ rm = x) : c.key ≠ (100, x) := fun e => hne (by rw [← h]; exact congrArg Prod.snd e)

/-- The copy of the call that the round holds. -/
def XAt (b : Nat) (c : Call24) (W : World) : Prop := W.heap[b]? = some (.cells c.cells 45 (0, 0))
theorem XAt.go {b B : Nat} {c : Call24} {β β' : Int × Int → Nat} {S S' : PS} {v v' : Value} {w W W' : World} (h : XAt b c W) (hf : ¬ POwn B β S v b) (hg : PGo w B β S v β' S' v' W W') : XAt b c W' := (hg.keeps.block _ (heap_lt h) hf).trans h
theorem XAt.below {b : Nat} {c : Call24} {W W' : World} (h : XAt b c W) (hb : Below W.heap.size W W') : XAt b c W' := (hb.block _ (heap_lt h)).trans h

set_option maxRecDepth 100000 in
set_option maxHeartbeats 4000000 in
theorem amplification_any (aA aP : Addr) (r0 : Int) (a : Option Addr) (len cap : Nat) (C : Nat → Call24) (w : World) (hE : Errs aA aP w) (hA : ArgC a len C w) (hr0 : in63 r0) :
    Calls Tryd.prog 6 #[.slice a len cap, .int .i64 r0] w (SomeB (.bool true) w) := by
  have HE := Lib.hid hE; clear hE
  have HA := Lib.hid hA; clear hA
  go_enter Tryd.func6, Tryd.ntmps6
  go_wp2_with (fail)
  refine (sane24_any aA aP w HE.out).mono ?_
  rintro e w0 ⟨rfl, hb0⟩
  have HB0 := Lib.hid hb0; clear hb0
  go_wp2_with (fail)
  refine (pick24_any r0 6 _ (by decide) (by decide) hr0.1 hr0.2).mono ?_
  rintro e w1 ⟨rfl, rfl⟩
  have hr6 := pkN_lt r0 6 (by decide)
  generalize pkN r0 6 = r at *
  go_wp2_with (fail)
  refine (pnew_yes 100 1 true _ rfl).mono ?_
  rintro e w1 ⟨B, β1, v1, rfl, hA⟩
  have HA1 := Lib.hid (hA.base_mono HB0.out); clear hA HB0
  have HD : Hid (AmAt B β1 (PS1 100 1 true) v1 (100, 2 + (r : Int)) 0 0 0 w w1) :=
    ⟨HA1.out, good_PS1 100 1 true 0, amp_init _ _ (by rw [get_PS1, if_neg (fun e => by injection e with _ e2; omega)])⟩
  clear HA1 hr0
  go_wp2_with (fail)
  go_loopg [8, 9, 10, 11] 60 (fun g x y z i wr => ∃ (j n rc sn : Nat) (β : Int × Int → Nat) (S : PS) (v : Value), g + j = 60 ∧ i = .int .i64 j ∧ x = .int .i64 n ∧ y = .int .i64 rc ∧ z = .int .i64 sn ∧ n ≤ 120 * j ∧ rc ≤ 600 * j ∧ sn ≤ 600 * j ∧ Hid (AmAt B β S v (100, 2 + (r : Int)) rc sn j w wr))
  case atStart => exact ⟨0, 0, 0, 0, _, _, _, rfl, rfl, rfl, rfl, rfl, Nat.zero_le _, Nat.zero_le _, Nat.zero_le _, HD⟩
  case round =>
    clear HD
    obtain ⟨j, n, rc, sn, β, S, v, hg, rfl, rfl, rfl, rfl, hn, hrc, hsn, HD⟩ := hrel
    by_cases hjl : j < len
    · by_cases hj120 : j < 60
      · obtain ⟨hok, b, o, rfl, hbw, hcell⟩ := HA.out j hjl
        have c0 := (HD.out.now.below.cell (p := ⟨b, o + j * 5, none⟩) hbw).trans (hcell 0 (by decide))
        have c1 := (HD.out.now.below.cell (p := ⟨b, o + j * 5 + 1, none⟩) hbw).trans (hcell 1 (by decide))
        have c2 := (HD.out.now.below.cell (p := ⟨b, o + j * 5 + 2, none⟩) hbw).trans (hcell 2 (by decide))
        have c3 := (HD.out.now.below.cell (p := ⟨b, o + j * 5 + 3, none⟩) hbw).trans (hcell 3 (by decide))
        have c4 := (HD.out.now.below.cell (p := ⟨b, o + j * 5 + 4, none⟩) hbw).trans (hcell 4 (by decide))
        clear hcell
        generalize C j = c at *
        go_wp2_with (fail)
        have HX0 : Hid (XAt wr.heap.size c (wr.alloc (.cells c.cells 45))) := heap_alloc_new wr _
        have HF0 : Hid (¬ POwn B β S v wr.heap.size) := fun ho => absurd (ho.lt HD.out.now.is) (Nat.lt_irrefl _)
        have HD0 := Lib.hid (HD.out.of_below ((Below.refl _ wr).alloc (Nat.le_refl _) (.cells c.cells 45)))
        clear HD c0 c1 c2 c3 c4
        obtain ⟨bx, hbx⟩ : ∃ bx, bx = wr.heap.size := ⟨_, rfl⟩
        obtain ⟨W1, hW1⟩ : ∃ W1, W1 = wr.alloc (.cells c.cells 45) := ⟨_, rfl⟩
        rw [← hbx, ← hW1] at HX0
        rw [← hbx] at HF0
        rw [← hW1] at HD0
        simp only [← hbx, ← hW1]
        have HX := HX0; have HF := HF0; have HD1 := HD0
        clear HX0 HF0 HD0 hbx hW1
        have x0 := cell_of_heap HX.out 0
        have x1 := cell_of_heap HX.out 1
        have x2 := cell_of_heap HX.out 2
        have x3 := cell_of_heap HX.out 3
        have x4 := cell_of_heap HX.out 4
        refine (pick24_any c.later 120 _ (by decide) (by decide) hok.later.1 hok.later.2).mono ?_
        rintro e w2 ⟨rfl, rfl⟩
        have hpl := pkN_lt c.later 120 (by decide)
        generalize pkN c.later 120 = p at *
        have hql := pkN_lt c.n 600 (by decide)
        obtain ⟨q, HQ⟩ : ∃ q, Hid (pkN c.n 600 = q) := ⟨_, rfl⟩
        rw [HQ.out] at hql
        have hml := rmN_in c.remote
        obtain ⟨rm, HM⟩ : ∃ rm, Hid (rmN c.remote = rm) := ⟨_, rfl⟩
        rw [HM.out] at hml
        have hk : c.kind < 0 ∨ 6 < c.kind ∨ c.tame := by unfold Call24.tame; omega
        rcases hk with hk | hk | hk
        · go_wp2
          go_roundg (gk - 1)
          case measure => omega
          case rel => exact ⟨j + 1, n + p, rc, sn, β, S, v, by omega, by go_num, by go_num, by go_num, by go_num, by omega, by omega, by omega, HD1.out.mono (Nat.le_succ j)⟩
        · go_wp2
          go_roundg (gk - 1)
          case measure => omega
          case rel => exact ⟨j + 1, n + p, rc, sn, β, S, v, by omega, by go_num, by go_num, by go_num, by go_num, by omega, by omega, by omega, HD1.out.mono (Nat.le_succ j)⟩
        · have hk0 := hk.1
          have hk6 := hk.2
          by_cases hrm : rm = 2 + (r : Int)
          · have hkey : c.key = (100, 2 + (r : Int)) := by show ((100 : Int), rmN c.remote) = _; rw [HM.out, hrm]
            have e1 : ((rm : Int) == 2 + (r : Int)) = true := by rw [hrm]; simp
            by_cases hk1 : c.kind = 1
            · have e2 : ((c.kind : Int) == 1) = true := by rw [hk1]; rfl
              go_wp2_with (fail)
              refine (remote24_any c.remote _ hok.remote).mono ?_
              rintro e w2 ⟨rfl, rfl⟩
              rw [HM.out]


              go_wp2_with (fail)
              refine (pick24_any c.n 600 _ (by decide) (by decide) hok.n.1 hok.n.2).mono ?_
              rintro e w2 ⟨rfl, rfl⟩
              rw [HQ.out]

              go_wp2_with (fail)
              refine (allows_any aA aP w B β S v 100 (2 + (r : Int)) (q : Int) _ (HE.out.below HD1.out.now.below) HD1.out.now).mono ?_
              rintro e w3 ⟨rfl, hb⟩
              have HD3 := Lib.hid (HD1.out.of_below hb); clear hb HD1
              go_wp2_with (fail)
              refine (sent_any aA aP w B β S v 100 (2 + (r : Int)) (q : Int) _ (HE.out.below HD3.out.now.below) HD3.out.now (HD3.out.good.snts HD3.out.now.is.nd (by omega) _ (by omega))).mono ?_
              rintro e w4 ⟨rfl, β2, v2, hG⟩
              have hto := sent_to S (100, 2 + (r : Int)) (q : Int)
              rcases sent_is S (100, 2 + (r : Int)) (q : Int) with ⟨hne, hS, hal⟩ | ⟨h0, hal, hS⟩
              · rw [hS] at hG
                rw [hal]
                have HD4 : Hid (AmAt B β2 S v2 (100, 2 + (r : Int)) rc sn (j + 1) w w4) := ⟨hG.now, HD3.out.good.mono (Nat.le_succ j), HD3.out.amp⟩
                have hcode : ((S.sent (100, 2 + (r : Int)) (q : Int)).1 == 0) = false := by rw [beq_eq_false_iff_ne]; exact hne
                generalize (S.sent (100, 2 + (r : Int)) (q : Int)).1 = code at *
                clear hG hto hS hne hal HD3
                go_wp2_with (fail)
                refine (valid_any aA aP B β2 S v2 100 (2 + (r : Int)) _ (HE.out.below HD4.out.now.below) HD4.out.now.is).mono ?_
                rintro e wT ⟨rfl, hb⟩
                have HDT := Lib.hid (HD4.out.of_below hb); clear hb HD4
                obtain ⟨y, hy⟩ : ∃ y, Hid (S.valid (100, 2 + (r : Int)) = y) := ⟨_, rfl⟩
                rw [hy.out]
                cases y with
                | true =>
                  go_wp2
                  go_roundg (gk - 1)
                  case measure => omega
                  case rel => exact ⟨j + 1, n + p, rc, sn, β2, S, v2, by omega, by go_num, by go_num, by go_num, by go_num, by omega, by omega, by omega, HDT⟩
                | false =>
                  have hle := amp_le HDT.out.amp HDT.out.good hy.out
                  have w3 : IntKind.i64.wrap (3 * ((rc : Nat) : Int)) = 3 * ((rc : Nat) : Int) := IntWalk.i64_in _ (by omega)
                  go_wp2
                  go_roundg (gk - 1)
                  case measure => omega
                  case rel => exact ⟨j + 1, n + p, rc, sn, β2, S, v2, by omega, by go_num, by go_num, by go_num, by go_num, by omega, by omega, by omega, HDT⟩
              · rw [hS] at hG hto
                rw [hal, h0]
                have hamp := amp_send (n := (q : Int)) HD3.out.amp hal
                obtain ⟨S2, hS2⟩ : ∃ S2, S2 = S.upd (100, 2 + (r : Int)) (PE.send (q : Int)) := ⟨_, rfl⟩
                rw [← hS2] at hG hto hamp
                have hgood := hto.good HD3.out.good
                clear hto hS h0 hal HD3 hS2
                obtain ⟨y0, hy0⟩ : ∃ y, Hid (S2.valid (100, 2 + (r : Int)) = y) := ⟨_, rfl⟩
                rw [hy0.out] at hamp
                have HN : Hid (PAt w B β2 S2 v2 w4) := hG.now
                clear hG
                go_wp2_with (fail)
                refine (valid_any aA aP B β2 S2 v2 100 (2 + (r : Int)) _ (HE.out.below HN.out.below) HN.out.is).mono ?_
                rintro e w5 ⟨rfl, hb⟩
                rw [hy0.out]
                cases y0 with
                | true =>
                  rw [if_pos rfl] at hamp
                  have HD5 : Hid (AmAt B β2 S2 v2 (100, 2 + (r : Int)) rc sn (j + 1) w w5) := ⟨HN.out.of_below hb, hgood, hamp⟩
                  clear hamp hgood hb HN
                  go_wp2_with (fail)
                  refine (valid_any aA aP B β2 S2 v2 100 (2 + (r : Int)) _ (HE.out.below HD5.out.now.below) HD5.out.now.is).mono ?_
                  rintro e wT ⟨rfl, hb⟩
                  have HDT := Lib.hid (HD5.out.of_below hb); clear hb HD5
                  obtain ⟨y, hy⟩ : ∃ y, Hid (S2.valid (100, 2 + (r : Int)) = y) := ⟨_, rfl⟩
                  rw [hy.out]
                  cases y with
                  | true =>
                    go_wp2
                    go_roundg (gk - 1)
                    case measure => omega
                    case rel => exact ⟨j + 1, n + p, rc, sn, β2, S2, v2, by omega, by go_num, by go_num, by go_num, by go_num, by omega, by omega, by omega, HDT⟩
                  | false =>
                    have hle := amp_le HDT.out.amp HDT.out.good hy.out
                    have w3 : IntKind.i64.wrap (3 * ((rc : Nat) : Int)) = 3 * ((rc : Nat) : Int) := IntWalk.i64_in _ (by omega)
                    go_wp2
                    go_roundg (gk - 1)
                    case measure => omega
                    case rel => exact ⟨j + 1, n + p, rc, sn, β2, S2, v2, by omega, by go_num, by go_num, by go_num, by go_num, by omega, by omega, by omega, HDT⟩
                | false =>
                  rw [if_neg (by decide)] at hamp
                  have HD5 : Hid (AmAt B β2 S2 v2 (100, 2 + (r : Int)) rc (sn + q) (j + 1) w w5) := ⟨HN.out.of_below hb, hgood, by rw [Int.natCast_add]; exact hamp⟩
                  clear hamp hgood hb HN
                  go_wp2_with (fail)
                  refine (valid_any aA aP B β2 S2 v2 100 (2 + (r : Int)) _ (HE.out.below HD5.out.now.below) HD5.out.now.is).mono ?_
                  rintro e wT ⟨rfl, hb⟩
                  have HDT := Lib.hid (HD5.out.of_below hb); clear hb HD5
                  obtain ⟨y, hy⟩ : ∃ y, Hid (S2.valid (100, 2 + (r : Int)) = y) := ⟨_, rfl⟩
                  rw [hy.out]
                  cases y with
                  | true =>
                    go_wp2
                    go_roundg (gk - 1)
                    case measure => omega
                    case rel => exact ⟨j + 1, n + p, rc, (sn + q), β2, S2, v2, by omega, by go_num, by go_num, by go_num, by go_num, by omega, by omega, by omega, HDT⟩
                  | false =>
                    have hle := amp_le HDT.out.amp HDT.out.good hy.out
                    have w3 : IntKind.i64.wrap (3 * ((rc : Nat) : Int)) = 3 * ((rc : Nat) : Int) := IntWalk.i64_in _ (by omega)
                    go_wp2
                    go_roundg (gk - 1)
                    case measure => omega
                    case rel => exact ⟨j + 1, n + p, rc, (sn + q), β2, S2, v2, by omega, by go_num, by go_num, by go_num, by go_num, by omega, by omega, by omega, HDT⟩
            · have e2 : ((c.kind : Int) == 1) = false := by rw [beq_eq_false_iff_ne]; exact hk1
              have hno : ¬ (c.key = (100, 2 + (r : Int)) ∧ c.kind = 1) := fun h => hk1 h.2
              go_wp2_with (fail)
              refine (remote24_any c.remote _ hok.remote).mono ?_
              rintro e w2 ⟨rfl, rfl⟩
              rw [HM.out]
              go_wp2_with (fail)
              refine (do_any aA aP w B β S v ((n : Int) + (p : Int)) c _ HE.out HD1.out.now j HD1.out.good (by omega) hok).mono ?_
              rintro e w3 ⟨rfl, β2, v2, hG⟩
              have hdid := doo_did HD1.out.now.is.nd ((n : Int) + (p : Int)) c hk
              have hto := doo_to HD1.out.now.is.nd ((n : Int) + (p : Int)) c
              generalize S.doo ((n : Int) + (p : Int)) c = X at *
              obtain ⟨x, S2⟩ := X
              simp only at hG hdid hto
              have hamp := amp_other HD1.out.amp HD1.out.good hto hdid hno
              have hgood := hto.good HD1.out.good
              have HX3 := Lib.hid (HX.out.go HF.out hG)
              have HN : Hid (PAt w B β2 S2 v2 w3) := hG.now
              clear x0 x1 x2 x3 x4
              clear hG hto hdid HD1 HX HF
              have HX := HX3; clear HX3
              have x0 := cell_of_heap HX.out 0
              have x1 := cell_of_heap HX.out 1
              have x2 := cell_of_heap HX.out 2
              have x3 := cell_of_heap HX.out 3
              have x4 := cell_of_heap HX.out 4
              by_cases hx0 : x = 0
              · have e3 : ((x : Int) == 0) = true := by rw [hx0]; rfl
                by_cases hkk : c.kind = 0
                · have e4 : ((c.kind : Int) == 0) = true := by rw [hkk]; rfl
                  rw [if_pos ⟨hx0, hkk, hkey⟩, HQ.out] at hamp
                  have HD3 : Hid (AmAt B β2 S2 v2 (100, 2 + (r : Int)) (rc + q) sn (j + 1) w w3) := ⟨HN.out, hgood, by rw [Int.natCast_add]; exact hamp⟩
                  clear hamp hgood HN
                  go_wp2_with (fail)
                  refine (remote24_any c.remote _ hok.remote).mono ?_
                  rintro e w2 ⟨rfl, rfl⟩
                  rw [HM.out]
                  go_wp2_with (fail)
                  refine (pick24_any c.n 600 _ (by decide) (by decide) hok.n.1 hok.n.2).mono ?_
                  rintro e w2 ⟨rfl, rfl⟩
                  rw [HQ.out]
                  go_wp2_with (fail)
                  refine (valid_any aA aP B β2 S2 v2 100 (2 + (r : Int)) _ (HE.out.below HD3.out.now.below) HD3.out.now.is).mono ?_
                  rintro e wT ⟨rfl, hb⟩
                  have HDT := Lib.hid (HD3.out.of_below hb); clear hb HD3
                  obtain ⟨y, hy⟩ : ∃ y, Hid (S2.valid (100, 2 + (r : Int)) = y) := ⟨_, rfl⟩
                  rw [hy.out]
                  cases y with
                  | true =>
                    go_wp2
                    go_roundg (gk - 1)
                    case measure => omega
                    case rel => exact ⟨j + 1, n + p, (rc + q), sn, β2, S2, v2, by omega, by go_num, by go_num, by go_num, by go_num, by omega, by omega, by omega, HDT⟩
                  | false =>
                    have hle := amp_le HDT.out.amp HDT.out.good hy.out
                    have w3 : IntKind.i64.wrap (3 * (((rc + q) : Nat) : Int)) = 3 * (((rc + q) : Nat) : Int) := IntWalk.i64_in _ (by omega)
                    go_wp2
                    go_roundg (gk - 1)
                    case measure => omega
                    case rel => exact ⟨j + 1, n + p, (rc + q), sn, β2, S2, v2, by omega, by go_num, by go_num, by go_num, by go_num, by omega, by omega, by omega, HDT⟩
                · have e4 : ((c.kind : Int) == 0) = false := by rw [beq_eq_false_iff_ne]; exact hkk
                  have HD3 : Hid (AmAt B β2 S2 v2 (100, 2 + (r : Int)) rc sn (j + 1) w w3) := ⟨HN.out, hgood, by rw [if_neg (fun h => hkk h.2.1)] at hamp; exact hamp⟩
                  clear hamp hgood HN
                  go_wp2_with (fail)
                  refine (valid_any aA aP B β2 S2 v2 100 (2 + (r : Int)) _ (HE.out.below HD3.out.now.below) HD3.out.now.is).mono ?_
                  rintro e wT ⟨rfl, hb⟩
                  have HDT := Lib.hid (HD3.out.of_below hb); clear hb HD3
                  obtain ⟨y, hy⟩ : ∃ y, Hid (S2.valid (100, 2 + (r : Int)) = y) := ⟨_, rfl⟩
                  rw [hy.out]
                  cases y with
                  | true =>
                    go_wp2
                    go_roundg (gk - 1)
                    case measure => omega
                    case rel => exact ⟨j + 1, n + p, rc, sn, β2, S2, v2, by omega, by go_num, by go_num, by go_num, by go_num, by omega, by omega, by omega, HDT⟩
                  | false =>
                    have hle := amp_le HDT.out.amp HDT.out.good hy.out
                    have w3 : IntKind.i64.wrap (3 * ((rc : Nat) : Int)) = 3 * ((rc : Nat) : Int) := IntWalk.i64_in _ (by omega)
                    go_wp2
                    go_roundg (gk - 1)
                    case measure => omega
                    case rel => exact ⟨j + 1, n + p, rc, sn, β2, S2, v2, by omega, by go_num, by go_num, by go_num, by go_num, by omega, by omega, by omega, HDT⟩
              · have e3 : ((x : Int) == 0) = false := by rw [beq_eq_false_iff_ne]; exact hx0
                have HD3 : Hid (AmAt B β2 S2 v2 (100, 2 + (r : Int)) rc sn (j + 1) w w3) := ⟨HN.out, hgood, by rw [if_neg (fun h => hx0 h.1)] at hamp; exact hamp⟩
                clear hamp hgood HN
                go_wp2_with (fail)
                refine (valid_any aA aP B β2 S2 v2 100 (2 + (r : Int)) _ (HE.out.below HD3.out.now.below) HD3.out.now.is).mono ?_
                rintro e wT ⟨rfl, hb⟩
                have HDT := Lib.hid (HD3.out.of_below hb); clear hb HD3
                obtain ⟨y, hy⟩ : ∃ y, Hid (S2.valid (100, 2 + (r : Int)) = y) := ⟨_, rfl⟩
                rw [hy.out]
                cases y with
                | true =>
                  go_wp2
                  go_roundg (gk - 1)
                  case measure => omega
                  case rel => exact ⟨j + 1, n + p, rc, sn, β2, S2, v2, by omega, by go_num, by go_num, by go_num, by go_num, by omega, by omega, by omega, HDT⟩
                | false =>
                  have hle := amp_le HDT.out.amp HDT.out.good hy.out
                  have w3 : IntKind.i64.wrap (3 * ((rc : Nat) : Int)) = 3 * ((rc : Nat) : Int) := IntWalk.i64_in _ (by omega)
                  go_wp2
                  go_roundg (gk - 1)
                  case measure => omega
                  case rel => exact ⟨j + 1, n + p, rc, sn, β2, S2, v2, by omega, by go_num, by go_num, by go_num, by go_num, by omega, by omega, by omega, HDT⟩
          · have e1 : ((rm : Int) == 2 + (r : Int)) = false := by rw [beq_eq_false_iff_ne]; exact hrm
            have hkne := key_ne HM.out hrm
            have hno : ¬ (c.key = (100, 2 + (r : Int)) ∧ c.kind = 1) := fun h => hkne h.1
            go_wp2_with (fail)
            refine (remote24_any c.remote _ hok.remote).mono ?_
            rintro e w2 ⟨rfl, rfl⟩
            rw [HM.out]
            go_wp2_with (fail)
            refine (do_any aA aP w B β S v ((n : Int) + (p : Int)) c _ HE.out HD1.out.now j HD1.out.good (by omega) hok).mono ?_
            rintro e w3 ⟨rfl, β2, v2, hG⟩
            have hdid := doo_did HD1.out.now.is.nd ((n : Int) + (p : Int)) c hk
            have hto := doo_to HD1.out.now.is.nd ((n : Int) + (p : Int)) c
            generalize S.doo ((n : Int) + (p : Int)) c = X at *
            obtain ⟨x, S2⟩ := X
            simp only at hG hdid hto
            have hamp := amp_other HD1.out.amp HD1.out.good hto hdid hno
            have hgood := hto.good HD1.out.good
            have HX3 := Lib.hid (HX.out.go HF.out hG)
            have HN : Hid (PAt w B β2 S2 v2 w3) := hG.now
            clear x0 x1 x2 x3 x4
            clear hG hto hdid HD1 HX HF
            have HX := HX3; clear HX3
            have x0 := cell_of_heap HX.out 0
            have x1 := cell_of_heap HX.out 1
            have x2 := cell_of_heap HX.out 2
            have x3 := cell_of_heap HX.out 3
            have x4 := cell_of_heap HX.out 4
            have HD3 : Hid (AmAt B β2 S2 v2 (100, 2 + (r : Int)) rc sn (j + 1) w w3) := ⟨HN.out, hgood, by rw [if_neg (fun h => hkne h.2.2)] at hamp; exact hamp⟩
            clear hamp hgood HN
            by_cases hx0 : x = 0
            · have e3 : ((x : Int) == 0) = true := by rw [hx0]; rfl
              by_cases hkk : c.kind = 0
              · have e4 : ((c.kind : Int) == 0) = true := by rw [hkk]; rfl
                go_wp2_with (fail)
                refine (remote24_any c.remote _ hok.remote).mono ?_
                rintro e w2 ⟨rfl, rfl⟩
                rw [HM.out]
                go_wp2_with (fail)
                refine (valid_any aA aP B β2 S2 v2 100 (2 + (r : Int)) _ (HE.out.below HD3.out.now.below) HD3.out.now.is).mono ?_
                rintro e wT ⟨rfl, hb⟩
                have HDT := Lib.hid (HD3.out.of_below hb); clear hb HD3
                obtain ⟨y, hy⟩ : ∃ y, Hid (S2.valid (100, 2 + (r : Int)) = y) := ⟨_, rfl⟩
                rw [hy.out]
                cases y with
                | true =>
                  go_wp2
                  go_roundg (gk - 1)
                  case measure => omega
                  case rel => exact ⟨j + 1, n + p, rc, sn, β2, S2, v2, by omega, by go_num, by go_num, by go_num, by go_num, by omega, by omega, by omega, HDT⟩
                | false =>
                  have hle := amp_le HDT.out.amp HDT.out.good hy.out
                  have w3 : IntKind.i64.wrap (3 * ((rc : Nat) : Int)) = 3 * ((rc : Nat) : Int) := IntWalk.i64_in _ (by omega)
                  go_wp2
                  go_roundg (gk - 1)
                  case measure => omega
                  case rel => exact ⟨j + 1, n + p, rc, sn, β2, S2, v2, by omega, by go_num, by go_num, by go_num, by go_num, by omega, by omega, by omega, HDT⟩
              · have e4 : ((c.kind : Int) == 0) = false := by rw [beq_eq_false_iff_ne]; exact hkk
                go_wp2_with (fail)
                refine (valid_any aA aP B β2 S2 v2 100 (2 + (r : Int)) _ (HE.out.below HD3.out.now.below) HD3.out.now.is).mono ?_
                rintro e wT ⟨rfl, hb⟩
                have HDT := Lib.hid (HD3.out.of_below hb); clear hb HD3
                obtain ⟨y, hy⟩ : ∃ y, Hid (S2.valid (100, 2 + (r : Int)) = y) := ⟨_, rfl⟩
                rw [hy.out]
                cases y with
                | true =>
                  go_wp2
                  go_roundg (gk - 1)
                  case measure => omega
                  case rel => exact ⟨j + 1, n + p, rc, sn, β2, S2, v2, by omega, by go_num, by go_num, by go_num, by go_num, by omega, by omega, by omega, HDT⟩
                | false =>
                  have hle := amp_le HDT.out.amp HDT.out.good hy.out
                  have w3 : IntKind.i64.wrap (3 * ((rc : Nat) : Int)) = 3 * ((rc : Nat) : Int) := IntWalk.i64_in _ (by omega)
                  go_wp2
                  go_roundg (gk - 1)
                  case measure => omega
                  case rel => exact ⟨j + 1, n + p, rc, sn, β2, S2, v2, by omega, by go_num, by go_num, by go_num, by go_num, by omega, by omega, by omega, HDT⟩
            · have e3 : ((x : Int) == 0) = false := by rw [beq_eq_false_iff_ne]; exact hx0
              go_wp2_with (fail)
              refine (valid_any aA aP B β2 S2 v2 100 (2 + (r : Int)) _ (HE.out.below HD3.out.now.below) HD3.out.now.is).mono ?_
              rintro e wT ⟨rfl, hb⟩
              have HDT := Lib.hid (HD3.out.of_below hb); clear hb HD3
              obtain ⟨y, hy⟩ : ∃ y, Hid (S2.valid (100, 2 + (r : Int)) = y) := ⟨_, rfl⟩
              rw [hy.out]
              cases y with
              | true =>
                go_wp2
                go_roundg (gk - 1)
                case measure => omega
                case rel => exact ⟨j + 1, n + p, rc, sn, β2, S2, v2, by omega, by go_num, by go_num, by go_num, by go_num, by omega, by omega, by omega, HDT⟩
              | false =>
                have hle := amp_le HDT.out.amp HDT.out.good hy.out
                have w3 : IntKind.i64.wrap (3 * ((rc : Nat) : Int)) = 3 * ((rc : Nat) : Int) := IntWalk.i64_in _ (by omega)
                go_wp2
                go_roundg (gk - 1)
                case measure => omega
                case rel => exact ⟨j + 1, n + p, rc, sn, β2, S2, v2, by omega, by go_num, by go_num, by go_num, by go_num, by omega, by omega, by omega, HDT⟩
      · go_wp2
        go_ret
        exact ⟨rfl, HD.out.now.below⟩
    · go_wp2
      go_ret
      exact ⟨rfl, HD.out.now.below⟩
end Go.Proofs.YtmdfpknhfkgfoaaDoor
