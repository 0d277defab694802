/- The walk of PathMatchesReference: the program's Paths beside the reference's, both of one model state. -/
import Derived.Test.YtmdfpknhfkgfoaaDoorPExp
import Derived.Test.YtmdfpknhfkgfoaaDoorPLoop
import Derived.Test.YtmdfpknhfkgfoaaDoorPArgs
import Derived.Test.YtmdfpknhfkgfoaaDoorPVal
namespace Go.Proofs.YtmdfpknhfkgfoaaDoor
open Go.RowKit Go.Shelf
set_option linter.unusedVariables false

theorem POwn.rlt {B : Nat} {β : Int × Int → Nat} {S : PS} {v : Value} {W : World} (h : IsRS B β S v W) {b : Nat} (hb : POwn B β S v b) : b < W.heap.size := by
  rcases hb with rfl | hb | ⟨e, he, rfl⟩
  · exact heap_lt h.blk
  · rcases h.own.2 with ⟨rfl, _⟩ | ⟨g, cap, cur, rfl, _, hgb, _⟩
    · simp [Value.ownBlock] at hb
    · obtain rfl : g = b := by simpa [Value.ownBlock] using hb
      exact heap_lt hgb
  · exact (h.ent e he).lt

/-- The two of them. -/
structure MtAt (B : Nat) (β : Int × Int → Nat) (S : PS) (v : Value) (B2 : Nat) (β2 : Int × Int → Nat) (S2 : PS) (v2 : Value) (w W : World) : Prop where
  prog : PAt w B β S v W
  ref : RAt w B2 β2 S2 v2 W
  sep : ∀ b, POwn B β S v b → ¬ POwn B2 β2 S2 v2 b

section
variable {B B2 : Nat} {β β2 β' : Int × Int → Nat} {S S2 S' : PS} {v v2 v' : Value} {w W W' : World}
theorem MtAt.of_below (h : MtAt B β S v B2 β2 S2 v2 w W) (hb : Below W.heap.size W W') : MtAt B β S v B2 β2 S2 v2 w W' := ⟨h.prog.of_below hb, h.ref.of_below hb, h.sep⟩
theorem MtAt.go1 (h : MtAt B β S v B2 β2 S2 v2 w W) (hg : PGo w B β S v β' S' v' W W') : MtAt B β' S' v' B2 β2 S2 v2 w W' := by
  refine ⟨hg.now, ⟨h.ref.is.keeps hg.keeps (fun ho => h.sep _ ho (.inl rfl)) (fun g hv ho => h.sep _ ho (.inr (.inl hv))) (fun e he ho => h.sep _ ho (.inr (.inr ⟨e, he, rfl⟩))), h.ref.base, hg.now.below, h.ref.small⟩, fun b hb hr => ?_⟩
  rcases hg.grow b hb with h1 | h1
  · exact h.sep b h1 hr
  · exact absurd (hr.rlt h.ref.is) (Nat.not_lt.2 h1)
theorem MtAt.go2 (h : MtAt B β S v B2 β2 S2 v2 w W) (hg : RGo w B2 β2 S2 v2 β' S' v' W W') : MtAt B β S v B2 β' S' v' w W' := by
  have no : ∀ b, POwn B2 β2 S2 v2 b → ¬ POwn B β S v b := fun b h1 h2 => h.sep b h2 h1
  refine ⟨⟨h.prog.is.keeps hg.keeps (fun ho => no _ ho (.inl rfl)) (fun g hv ho => no _ ho (.inr (.inl hv))) (fun e he ho => no _ ho (.inr (.inr ⟨e, he, rfl⟩))), h.prog.base, hg.now.below, h.prog.small⟩, hg.now, fun b hb hr => ?_⟩
  rcases hg.grow b hr with h1 | h1
  · exact h.sep b hb h1
  · exact absurd (hb.lt h.prog.is) (Nat.not_lt.2 h1)
end

def NewCode (l r : Int) : Int := if addrsOk l r = true then 0 else 2
theorem pnew_code (l r : Int) (ok : Bool) (w : World) : Calls Tryd.prog 13 #[.int .i64 l, .int .i64 r, .bool ok] w fun e w' => ∃ q, e = .returned (.tuple #[q, .int .i64 (NewCode l r)]) ∧ Below w.heap.size w w' := by
  unfold NewCode
  cases h : addrsOk l r with
  | true =>
    refine (pnew_yes l r ok w h).mono ?_
    rintro e w1 ⟨B, β, v, rfl, hA⟩
    exact ⟨_, rfl, hA.below⟩
  | false =>
    refine (pnew_no l r ok w h).mono ?_
    rintro e w1 ⟨rfl, hb⟩
    exact ⟨_, rfl, hb⟩
theorem rnew_code (l r : Int) (ok : Bool) (w : World) : Calls Tryd.prog 24 #[.int .i64 l, .int .i64 r, .bool ok] w fun e w' => ∃ q, e = .returned (.tuple #[q, .int .i64 (NewCode l r)]) ∧ Below w.heap.size w w' := by
  unfold NewCode
  cases h : addrsOk l r with
  | true =>
    refine (rnew_yes l r ok w h).mono ?_
    rintro e w1 ⟨B, β, v, rfl, hA⟩
    exact ⟨_, rfl, hA.below⟩
  | false =>
    refine (rnew_no l r ok w h).mono ?_
    rintro e w1 ⟨rfl, hb⟩
    exact ⟨_, rfl, hb⟩

theorem len_same (B : Nat) (β : Int × Int → Nat) (S : PS) (v : Value) (w : World) (hS : IsPS B β S v w) :
    Calls Tryd.prog 18 #[.pointer (some ⟨B, 0, none⟩)] w fun e w' => e = .returned (.int .i64 S.es.length) ∧ w' = w := by
  obtain ⟨a0, cp0, hv⟩ : ∃ a0 cp0, v = .slice a0 S.es.length cp0 := by
    rcases hS.own.2 with ⟨h1, h2⟩ | ⟨g, cap, cur, hv, _⟩
    · rw [h2]; exact ⟨none, 0, h1⟩
    · exact ⟨_, cap, hv⟩
  subst hv
  have hc := cell_of_heap hS.blk 0
  have hl := hS.len
  clear hS
  go_enter Tryd.func18, Tryd.ntmps18
  go_wp2
  go_ret
  exact ⟨rfl, rfl⟩

theorem len_is (B : Nat) (β : Int × Int → Nat) (S : PS) (v : Value) (L : Nat) (w : World) (hS : IsPS B β S v w) (hL : S.es.length = L) :
    Calls Tryd.prog 18 #[.pointer (some ⟨B, 0, none⟩)] w fun e w' => e = .returned (.int .i64 L) ∧ w' = w := by
  rw [← hL]
  exact len_same B β S v w hS

/-- The five cells of an argument. -/
def C5 (b o : Nat) (c : Call24) (W : World) : Prop := W.cell? ⟨b, o, none⟩ = some (.int .i64 c.kind) ∧ W.cell? ⟨b, o + 1, none⟩ = some (.int .i64 c.later) ∧ W.cell? ⟨b, o + 2, none⟩ = some (.int .i64 c.remote) ∧ W.cell? ⟨b, o + 3, none⟩ = some (.int .i64 c.n) ∧ W.cell? ⟨b, o + 4, none⟩ = some (.int .i64 c.loc)
theorem C5.of {a : Option Addr} {len : Nat} {C : Nat → Call24} {w W : World} (h : ArgC a len C w) (hb : Below w.heap.size w W) {b o j : Nat} (ha : a = some ⟨b, o, none⟩) (hj : j < len) : C5 b (o + j * 5) (C j) W := by
  obtain ⟨_, b', o', h2, h3, h4⟩ := h j hj
  rw [ha] at h2
  injection h2 with h2
  injection h2 with h5 h6
  subst h5 h6
  exact ⟨(hb.cell (p := ⟨b, o + j * 5, none⟩) h3).trans (h4 0 (by decide)), (hb.cell (p := ⟨b, o + j * 5 + 1, none⟩) h3).trans (h4 1 (by decide)), (hb.cell (p := ⟨b, o + j * 5 + 2, none⟩) h3).trans (h4 2 (by decide)), (hb.cell (p := ⟨b, o + j * 5 + 3, none⟩) h3).trans (h4 3 (by decide)), (hb.cell (p := ⟨b, o + j * 5 + 4, none⟩) h3).trans (h4 4 (by decide))⟩

set_option maxRecDepth 100000 in
set_option maxHeartbeats 8000000 in
theorem matches_any (aA aP : Addr) (l0 o0 : Int) (ok : Bool) (a : Option Addr) (len cap : Nat) (C : Nat → Call24) (m0 : Int) (w : World) (hE : Errs aA aP w) (hA : ArgC a len C w) (hm0 : in63 m0) :
    Calls Tryd.prog 5 #[.int .i64 l0, .int .i64 o0, .bool ok, .slice a len cap, .int .i64 m0] w (SomeB (.bool true) w) := by
  have HE := Lib.hid hE; clear hE
  have HA := Lib.hid hA; clear hA
  go_enter Tryd.func5, Tryd.ntmps5
  go_wp2_with (fail)
  refine (sane24_any aA aP w HE.out).mono ?_
  rintro e w0 ⟨rfl, hb0⟩
  have HB0 := Lib.hid hb0; clear hb0
  go_wp2_with (fail)
  refine (pnew_code l0 o0 ok _).mono ?_
  rintro e w1 ⟨q1, rfl, hb1⟩
  have HB1 := Lib.hid (HB0.out.trans (hb1.mono HB0.out.size)); clear hb1 HB0
  go_wp2_with (fail)
  refine (rnew_code l0 o0 ok _).mono ?_
  rintro e w2 ⟨q2, rfl, hb1⟩
  have HB2 := Lib.hid (HB1.out.trans (hb1.mono HB1.out.size)); clear hb1 HB1
  generalize NewCode l0 o0 = nc at *
  go_wp2_with (fail)
  refine (pnew_yes 100 1 ok _ rfl).mono ?_
  rintro e w3 ⟨B, β1, v1, rfl, hA⟩
  have hA3 := hA
  go_wp2_with (fail)
  refine (rnew_yes 100 1 ok _ rfl).mono ?_
  rintro e w4 ⟨B2, β2, v2, rfl, hR⟩
  have HM : Hid (MtAt B β1 (PS1 100 1 ok) v1 B2 β2 (PS1 100 1 ok) v2 w w4) := ⟨(hA3.of_below hR.below).base_mono HB2.out, hR.base_mono (HB2.out.trans (hA3.below.mono HB2.out.size)), fun b h1 h2 => absurd (h1.lt hA3.is) (Nat.not_lt.2 (hR.base b h2))⟩
  have HG : Hid ((PS1 100 1 ok).good 0) := good_PS1 100 1 ok 0
  clear hA hA3 hR HB2
  go_wp2_with (fail)
  go_loopg [20, 21] 60 (fun g x i wr => ∃ (j n : Nat) (β : Int × Int → Nat) (S : PS) (v : Value) (β2 : Int × Int → Nat) (v2 : Value), g + j = 60 ∧ i = .int .i64 j ∧ x = .int .i64 n ∧ n ≤ 120 * j ∧ Hid (MtAt B β S v B2 β2 S v2 w wr) ∧ Hid (S.good j))
  case atStart => exact ⟨0, 0, _, _, _, _, _, rfl, rfl, rfl, Nat.zero_le _, HM, HG⟩
  case round =>
    clear HM HG
    obtain ⟨j, n, β, S, v, β2, v2, hg, rfl, rfl, hn, HM, HG⟩ := hrel
    by_cases hjl : j < len
    · by_cases hj120 : j < 60
      · obtain ⟨hok, b, o, hab, hbw, _⟩ := HA.out j hjl
        have HC : ∀ W, Below w.heap.size w W → C5 b (o + j * 5) (C j) W := fun W hb => C5.of HA.out hb hab hjl
        subst hab
        generalize C j = c at *
        have HC := Lib.hid HC
        obtain ⟨c0, c1, c2, c3, c4⟩ := HC.out _ HM.out.prog.below
        go_wp2_with (fail)
        refine (pick24_any c.later 120 _ (by decide) (by decide) hok.later.1 hok.later.2).mono ?_
        rintro e w2 ⟨rfl, rfl⟩
        have hpl := pkN_lt c.later 120 (by decide)
        generalize pkN c.later 120 = p at *
        obtain ⟨X, hX⟩ : ∃ X, Hid (S.doo ((n : Int) + (p : Int)) c = X) := ⟨_, rfl⟩
        obtain ⟨x, S2⟩ := X
        have Hto : Hid (S.To S2) := by have h := doo_to HM.out.prog.is.nd ((n : Int) + (p : Int)) c; rw [hX.out] at h; exact h
        have HM0 : Hid (MtAt B β S v B2 β2 S v2 w wr.drew) := HM.out.of_below (below_drewN wr 1)
        have hS0 := HC.out wr.drew HM0.out.prog.below
        unfold C5 at hS0
        clear HM
        go_wp2_with (fail)
        go_region_held3 (fun W => W.cell? ⟨b, o + j * 5, none⟩ = some (.int .i64 c.kind) ∧ W.cell? ⟨b, o + j * 5 + 1, none⟩ = some (.int .i64 c.later) ∧ W.cell? ⟨b, o + j * 5 + 2, none⟩ = some (.int .i64 c.remote) ∧ W.cell? ⟨b, o + j * 5 + 3, none⟩ = some (.int .i64 c.n) ∧ W.cell? ⟨b, o + j * 5 + 4, none⟩ = some (.int .i64 c.loc)) (first | exact hS9 | exact hS8 | exact hS0 | go_keep)
          (first
           | (go_at_call 25; refine (do_any aA aP w B β S v ((n : Int) + (p : Int)) c _ HE.out HM0.out.prog j HG.out (by omega) hok).mono ?_; rintro e w8 ⟨rfl, β8, v8, hG8⟩; rw [hX.out] at hG8 ⊢; have HM8 : Hid (MtAt B β8 S2 v8 B2 β2 S v2 w w8) := HM0.out.go1 hG8; clear hG8; have hS8 := HC.out w8 HM8.out.prog.below; unfold C5 at hS8)
           | (go_at_call 26; refine (exp_any w B2 β2 S v2 ((n : Int) + (p : Int)) c _ HM8.out.ref j HG.out (by omega) hok).mono ?_; rintro e w9 ⟨rfl, β9, v9, hG9⟩; rw [hX.out] at hG9 ⊢; have HM9 : Hid (MtAt B β8 S2 v8 B2 β9 S2 v9 w w9) := HM8.out.go2 hG9; clear hG9; have hS9 := HC.out w9 HM9.out.prog.below; unfold C5 at hS9))
        clear hS0 hS8 hS9 HM0 HM8 c0 c1 c2 c3 c4
        have Hgood := Lib.hid (Hto.out.good HG.out)
        clear Hto HG hX
        obtain ⟨a1, a2, hact⟩ : ∃ a1 a2, Hid (S2.act = (a1, a2)) := ⟨_, _, rfl⟩
        go_wp2_with (fail)
        refine (pactive_is B β8 S2 v8 _ HM9.out.prog.is a1 a2 hact.out).mono ?_
        rintro e wA ⟨rfl, hb⟩
        have HMA := Lib.hid (HM9.out.of_below hb); clear hb HM9
        obtain ⟨ea, hea⟩ := PS.get_of HMA.out.ref.is.act
        have hek := (PS.get_mem hea).2
        obtain ⟨t, _, hbb⟩ := HMA.out.ref.is.at hea
        have k1 := cell_of_heap HMA.out.ref.is.blk 1
        have k0 := cell_of_heap HMA.out.ref.is.blk 0
        have x0 := cell_of_heap hbb 0
        have x1 := cell_of_heap hbb 1
        have hel : ea.l = a1 := by have h := congrArg Prod.fst (hek.trans hact.out); exact h
        have her : ea.r = a2 := by have h := congrArg Prod.snd (hek.trans hact.out); exact h
        simp only [PE.rcells, hel, her, List.getElem?_toArray, List.getElem?_cons_succ, List.getElem?_cons_zero] at x0 x1
        obtain ⟨L, hL⟩ : ∃ L, Hid (S2.es.length = L) := ⟨_, rfl⟩
        obtain ⟨a9, cp9, hv9⟩ : ∃ a9 cp9, v9 = .slice a9 L cp9 := by
          rw [← hL.out]
          rcases HMA.out.ref.is.own.2 with ⟨h1, h2⟩ | ⟨g, cap, cur, hv, _⟩
          · rw [h2]; exact ⟨none, 0, h1⟩
          · exact ⟨_, cap, hv⟩
        subst hv9
        have hL4 : L ≤ 4 := by rw [← hL.out]; exact HMA.out.prog.is.len
        clear hbb hea hek hel her
        go_wp2_with (fail)
        go_quiet (first | (go_at_call 18; exact Calls.quiet_of_same (len_is B β8 S2 v8 L _ (HMA.out.prog.is.below (below_drewN _ _)) hL.out)))
        have HMB := Lib.hid (HMA.out.of_below (below_drewN _ nq)); clear HMA x0 x1 k0 k1
        go_wp2_with (fail)
        go_loopw [24] (fun i wx => ∃ t : Nat, t ≤ 9 ∧ i = .int .i64 t ∧ Hid (MtAt B β8 S2 v8 B2 β9 S2 (.slice a9 L cp9) w wx)) (fun i _ => 9 - (intOf i).toNat)
        case atStart => exact ⟨0, Nat.zero_le _, rfl, HMB⟩
        case round =>
          clear HMB
          obtain ⟨t, ht9, rfl, HMC⟩ := hrel
          by_cases ht : t < 9
          · obtain ⟨y1, hy1⟩ : ∃ y, Hid (S2.valid (100, (t : Int)) = y) := ⟨_, rfl⟩
            go_wp2_with (fail)
            refine (pick24_any m0 2000 _ (by decide) (by decide) hm0.1 hm0.2).mono ?_
            rintro e wD ⟨rfl, rfl⟩
            generalize pkN m0 2000 = mm at *
            obtain ⟨y2, hy2⟩ : ∃ y, Hid (S2.allows (100, (t : Int)) (mm : Int) = y) := ⟨_, rfl⟩
            obtain ⟨y3, hy3⟩ : ∃ y, Hid (S2.allows (100, (t : Int)) m0 = y) := ⟨_, rfl⟩
            go_wp2_with (fail)
            refine (valid_any aA aP B β8 S2 v8 100 (t : Int) _ (HE.out.below HMC.out.prog.below) HMC.out.prog.is).mono ?_
            rintro e wD ⟨rfl, hb⟩
            rw [hy1.out]
            have HMD := Lib.hid (HMC.out.of_below hb); clear hb HMC
            go_wp2_with (fail)
            refine (rvalid_any B2 β9 S2 _ 100 (t : Int) _ HMD.out.ref.is).mono ?_
            rintro e wE ⟨rfl, hb⟩
            rw [hy1.out]
            have HME := Lib.hid (HMD.out.of_below hb); clear hb HMD
            go_wp2_with (fail)
            refine (allows_any aA aP w B β8 S2 v8 100 (t : Int) (mm : Int) _ (HE.out.below HME.out.prog.below) HME.out.prog).mono ?_
            rintro e wF ⟨rfl, hb⟩
            rw [hy2.out]
            have HMF := Lib.hid (HME.out.of_below hb); clear hb HME
            go_wp2_with (fail)
            refine (rallows_any w B2 β9 S2 _ 100 (t : Int) (mm : Int) _ HMF.out.ref).mono ?_
            rintro e wG ⟨rfl, hb⟩
            rw [hy2.out]
            have HMG := Lib.hid (HMF.out.of_below hb); clear hb HMF
            go_wp2_with (fail)
            refine (allows_any aA aP w B β8 S2 v8 100 (t : Int) m0 _ (HE.out.below HMG.out.prog.below) HMG.out.prog).mono ?_
            rintro e wH ⟨rfl, hb⟩
            rw [hy3.out]
            have HMH := Lib.hid (HMG.out.of_below hb); clear hb HMG
            go_wp2_with (fail)
            refine (rallows_any w B2 β9 S2 _ 100 (t : Int) m0 _ HMH.out.ref).mono ?_
            rintro e wI ⟨rfl, hb⟩
            rw [hy3.out]
            have HMI := Lib.hid (HMH.out.of_below hb); clear hb HMH
            go_wp2
            go_roundw
            case rel => exact ⟨t + 1, by omega, by go_num, HMI⟩
            case measure => simp [intOf]; omega
          · obtain rfl : t = 9 := by omega
            go_wp2
            go_roundg (gk - 1)
            case measure => omega
            case rel => exact ⟨j + 1, n + p, β8, S2, v8, β9, _, by omega, by go_num, by go_num, by omega, HMC, Hgood⟩
      · go_wp2
        go_ret
        exact ⟨rfl, HM.out.prog.below⟩
    · go_wp2
      go_ret
      exact ⟨rfl, HM.out.prog.below⟩
end Go.Proofs.YtmdfpknhfkgfoaaDoor
