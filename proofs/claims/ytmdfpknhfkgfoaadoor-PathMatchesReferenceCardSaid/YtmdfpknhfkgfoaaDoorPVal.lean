/- The walk of PathValidation. Printed by genval.py. -/
import Derived.Deep.RegionHeld3
import Derived.Test.YtmdfpknhfkgfoaaDoorPAmp
namespace Go.Proofs.YtmdfpknhfkgfoaaDoor
open Go.RowKit Go.Shelf
set_option linter.unusedVariables false

/-- A write to a block that is not of the Paths. -/
theorem PAt.foreign {w0 : World} {B b j : Nat} {β : Int × Int → Nat} {S : PS} {v x : Value} {W : World} (h : PAt w0 B β S v W) (hf : ¬ POwn B β S v b) (hb : w0.heap.size ≤ b) : PAt w0 B β S v (W.setCell ⟨b, j, none⟩ x) := by
  have hk : Keeps (fun i => i = b) W (W.setCell ⟨b, j, none⟩ x) := (Keeps.refl _ _).setCell (.inl rfl)
  exact ⟨h.is.keeps hk (fun e => hf (.inl e.symm)) (fun g hg e => hf (.inr (.inl (by rw [← e]; exact hg)))) (fun e he e2 => hf (.inr (.inr ⟨e, he, e2.symm⟩))), h.base, hk.below h.below (fun i e => by rw [e]; exact hb) h.below.size, h.small⟩

/-- A round's state of PathValidation: the Paths, the two tables. -/
structure VdAt (B : Nat) (β : Int × Int → Nat) (S : PS) (v : Value) (A : Nat → ByteArray) (T : Nat → Int) (bA bT m : Nat) (w W : World) : Prop where
  now : PAt w B β S v W
  good : S.good m
  blkA : Blk bA 8 (fun i => .string (A i)) 60 W
  blkT : Blk bT 8 (fun i => .int .i64 (T i)) 61 W
  freeA : ¬ POwn B β S v bA
  freeT : ¬ POwn B β S v bT
  highA : w.heap.size ≤ bA
  highT : w.heap.size ≤ bT
  ne : bA ≠ bT
  t0 : ∀ i, 0 ≤ T i ∧ T i ≤ 7200

/-- .. with the copy of the call. -/
structure RdAt (B : Nat) (β : Int × Int → Nat) (S : PS) (v : Value) (A : Nat → ByteArray) (T : Nat → Int) (bA bT bx : Nat) (c : Call24) (m : Nat) (w W : World) : Prop where
  at_ : VdAt B β S v A T bA bT m w W
  x : XAt bx c W
  xA : bx ≠ bA
  xT : bx ≠ bT
  free : ¬ POwn B β S v bx

section
variable {B bA bT bx m : Nat} {β β' : Int × Int → Nat} {S S' : PS} {v v' : Value} {A : Nat → ByteArray} {T : Nat → Int} {c : Call24} {w W W' : World}
theorem VdAt.of_below (h : VdAt B β S v A T bA bT m w W) (hb : Below W.heap.size W W') : VdAt B β S v A T bA bT m w W' :=
  ⟨h.now.of_below hb, h.good, h.blkA.below hb h.blkA.lt, h.blkT.below hb h.blkT.lt, h.freeA, h.freeT, h.highA, h.highT, h.ne, h.t0⟩
theorem VdAt.mono (h : VdAt B β S v A T bA bT m w W) {m' : Nat} (hm : m ≤ m') : VdAt B β S v A T bA bT m' w W :=
  ⟨h.now, h.good.mono hm, h.blkA, h.blkT, h.freeA, h.freeT, h.highA, h.highT, h.ne, h.t0⟩
theorem RdAt.of_below (h : RdAt B β S v A T bA bT bx c m w W) (hb : Below W.heap.size W W') : RdAt B β S v A T bA bT bx c m w W' := ⟨h.at_.of_below hb, h.x.below hb, h.xA, h.xT, h.free⟩
theorem RdAt.drew (h : RdAt B β S v A T bA bT bx c m w W) : RdAt B β S v A T bA bT bx c m w W.drew := h.of_below (below_drewN W 1)
/-- A call on the Paths; the tables' law is still to be shown. -/
theorem RdAt.go (h : RdAt B β S v A T bA bT bx c m w W) (hg : PGo w B β S v β' S' v' W W') (hto : S.To S') : RdAt B β' S' v' A T bA bT bx c (m + 1) w W' := by
  have hfree : ∀ b, b < W.heap.size → ¬ POwn B β S v b → ¬ POwn B β' S' v' b := fun b hl hf ho => (hg.grow _ ho).elim hf (fun h2 => absurd hl (Nat.not_lt.2 h2))
  refine ⟨⟨hg.now, hto.good h.at_.good, (hg.keeps.block _ h.at_.blkA.lt h.at_.freeA).trans h.at_.blkA, (hg.keeps.block _ h.at_.blkT.lt h.at_.freeT).trans h.at_.blkT, hfree _ h.at_.blkA.lt h.at_.freeA, hfree _ h.at_.blkT.lt h.at_.freeT, h.at_.highA, h.at_.highT, h.at_.ne, h.at_.t0⟩, h.x.go h.free hg, h.xA, h.xT, hfree _ (heap_lt h.x) h.free⟩
theorem RdAt.storeA (h : RdAt B β S v A T bA bT bx c m w W) (r : Nat) (d : ByteArray) : RdAt B β S v (put A r d) T bA bT bx c m w (W.setCell ⟨bA, r, none⟩ (.string d)) := by
  refine ⟨⟨h.at_.now.foreign h.at_.freeA h.at_.highA, h.at_.good, (h.at_.blkA.set r (.string d)).congr (fun j _ => ?_), h.at_.blkT.setOther (fun e => h.at_.ne e.symm), h.at_.freeA, h.at_.freeT, h.at_.highA, h.at_.highT, h.at_.ne, h.at_.t0⟩, (Below.heap_setCell _ _ _ _ h.xA).trans h.x, h.xA, h.xT, h.free⟩
  unfold upd put
  split <;> rfl
theorem RdAt.storeAT (h : RdAt B β S v A T bA bT bx c m w W) (r : Nat) (d : ByteArray) (t : Int) (ht : 0 ≤ t ∧ t ≤ 7200) : RdAt B β S v (put A r d) (put T r t) bA bT bx c m w ((W.setCell ⟨bA, r, none⟩ (.string d)).setCell ⟨bT, r, none⟩ (.int .i64 t)) := by
  refine ⟨⟨(h.at_.now.foreign h.at_.freeA h.at_.highA).foreign h.at_.freeT h.at_.highT, h.at_.good, ((h.at_.blkA.set r (.string d)).congr (fun j _ => ?_)).setOther h.at_.ne, ((h.at_.blkT.setOther (fun e => h.at_.ne e.symm)).set r (.int .i64 t)).congr (fun j _ => ?_), h.at_.freeA, h.at_.freeT, h.at_.highA, h.at_.highT, h.at_.ne, fun i => ?_⟩, (Below.heap_setCell _ _ _ _ h.xT).trans ((Below.heap_setCell _ _ _ _ h.xA).trans h.x), h.xA, h.xT, h.free⟩
  · unfold upd put
    split <;> rfl
  · unfold upd put
    split <;> rfl
  · unfold put
    split
    · exact ht
    · exact h.at_.t0 i
end

theorem blk8_str (w : World) : Blk w.heap.size 8 (fun _ => .string ⟨#[]⟩) 60 (w.alloc (.cells #[.string ⟨#[]⟩, .string ⟨#[]⟩, .string ⟨#[]⟩, .string ⟨#[]⟩, .string ⟨#[]⟩, .string ⟨#[]⟩, .string ⟨#[]⟩, .string ⟨#[]⟩] 60)) := heap_alloc_new w _
theorem blk8_int (w : World) : Blk w.heap.size 8 (fun _ => .int .i64 0) 61 (w.alloc (.cells #[.int .i64 0, .int .i64 0, .int .i64 0, .int .i64 0, .int .i64 0, .int .i64 0, .int .i64 0, .int .i64 0] 61)) := heap_alloc_new w _

theorem rm_nat (z : Int) : ∃ rn : Nat, Hid (rmN z = (rn : Int)) ∧ 1 ≤ rn ∧ rn ≤ 7 := by
  have h := rmN_in z
  exact ⟨(rmN z).toNat, (Int.toNat_of_nonneg (by omega)).symm, by omega, by omega⟩

set_option maxRecDepth 100000 in
set_option maxHeartbeats 8000000 in
theorem validation_any (aA aP : Addr) (a : Option Addr) (len cap : Nat) (C : Nat → Call24) (w : World) (hE : Errs aA aP w) (hA : ArgC a len C w) :
    Calls Tryd.prog 8 #[.slice a len cap] w (SomeB (.bool true) w) := by
  have HE := Lib.hid hE; clear hE
  have HA := Lib.hid hA; clear hA
  go_enter Tryd.func8, Tryd.ntmps8
  go_wp2_with (fail)
  refine (sane24_any aA aP w HE.out).mono ?_
  rintro e w0 ⟨rfl, hb0⟩
  have HB0 := Lib.hid hb0; clear hb0
  go_wp2_with (fail)
  refine (pnew_yes 100 7 true _ rfl).mono ?_
  rintro e w1 ⟨B, β1, v1, rfl, hA⟩
  have HA1 := Lib.hid (hA.base_mono HB0.out); clear hA HB0
  go_wp2_with (fail)
  have HD : Hid (VdAt B β1 (PS1 100 7 true) v1 (fun _ => ⟨#[]⟩) (fun _ => 0) w1.heap.size (w1.heap.size + 1) 0 w ((w1.alloc (.cells #[.string ⟨#[]⟩, .string ⟨#[]⟩, .string ⟨#[]⟩, .string ⟨#[]⟩, .string ⟨#[]⟩, .string ⟨#[]⟩, .string ⟨#[]⟩, .string ⟨#[]⟩] 60)).alloc (.cells #[.int .i64 0, .int .i64 0, .int .i64 0, .int .i64 0, .int .i64 0, .int .i64 0, .int .i64 0, .int .i64 0] 61))) := by
    have h1 := heap_alloc_new w1 (.cells #[.string ⟨#[]⟩, .string ⟨#[]⟩, .string ⟨#[]⟩, .string ⟨#[]⟩, .string ⟨#[]⟩, .string ⟨#[]⟩, .string ⟨#[]⟩, .string ⟨#[]⟩] 60)
    have hsz : (w1.alloc (.cells #[.string ⟨#[]⟩, .string ⟨#[]⟩, .string ⟨#[]⟩, .string ⟨#[]⟩, .string ⟨#[]⟩, .string ⟨#[]⟩, .string ⟨#[]⟩, .string ⟨#[]⟩] 60)).heap.size = w1.heap.size + 1 := by simp
    have h2 := blk8_int (w1.alloc (.cells #[.string ⟨#[]⟩, .string ⟨#[]⟩, .string ⟨#[]⟩, .string ⟨#[]⟩, .string ⟨#[]⟩, .string ⟨#[]⟩, .string ⟨#[]⟩, .string ⟨#[]⟩] 60))
    rw [hsz] at h2
    exact ⟨HA1.out.of_below (((Below.refl _ w1).alloc (Nat.le_refl _) _).alloc (by simp) _), good_PS1 100 7 true 0, (blk8_str w1).alloc _, h2, fun ho => absurd (ho.lt HA1.out.is) (Nat.lt_irrefl _), fun ho => absurd (ho.lt HA1.out.is) (by omega), HA1.out.below.size, Nat.le_succ_of_le HA1.out.below.size, by omega, fun _ => ⟨Int.le_refl _, by omega⟩⟩
  go_loopg [6, 9] 60 (fun g x i wr => ∃ (j n : Nat) (β : Int × Int → Nat) (S : PS) (v : Value) (A : Nat → ByteArray) (T : Nat → Int), g + j = 60 ∧ i = .int .i64 j ∧ x = .int .i64 n ∧ n ≤ 120 * j ∧ Hid (VdAt B β S v A T w1.heap.size (w1.heap.size + 1) j w wr) ∧ Hid (AskInv S A T))
  case atStart => exact ⟨0, 0, _, _, _, _, _, rfl, rfl, rfl, Nat.zero_le _, HD, ask_init _ _ _ _ _⟩
  case round =>
    clear HD HA1
    obtain ⟨bA, hbA⟩ : ∃ b, Hid (w1.heap.size = b) := ⟨_, rfl⟩
    simp only [hbA.out] at *
    obtain ⟨j, n, β, S, v, A, T, hg, rfl, rfl, hn, HD, Hin⟩ := hrel
    by_cases hjl : j < len
    · by_cases hj120 : j < 60
      · obtain ⟨hok, b, o, rfl, hbw, hcell⟩ := HA.out j hjl
        have c0 := (HD.out.now.below.cell (p := ⟨b, o + j * 5, none⟩) hbw).trans (hcell 0 (by decide))
        have c1 := (HD.out.now.below.cell (p := ⟨b, o + j * 5 + 1, none⟩) hbw).trans (hcell 1 (by decide))
        have c2 := (HD.out.now.below.cell (p := ⟨b, o + j * 5 + 2, none⟩) hbw).trans (hcell 2 (by decide))
        have c3 := (HD.out.now.below.cell (p := ⟨b, o + j * 5 + 3, none⟩) hbw).trans (hcell 3 (by decide))
        have c4 := (HD.out.now.below.cell (p := ⟨b, o + j * 5 + 4, none⟩) hbw).trans (hcell 4 (by decide))
        clear hcell
        generalize C j = c at *
        go_wp2_with (fail)
        have HX0 : Hid (XAt wr.heap.size c (wr.alloc (.cells c.cells 45))) := heap_alloc_new wr _
        have hF0 : ¬ POwn B β S v wr.heap.size := fun ho => absurd (ho.lt HD.out.now.is) (Nat.lt_irrefl _)
        have hF1 : wr.heap.size ≠ bA := fun e => absurd HD.out.blkA.lt (by rw [e]; exact Nat.lt_irrefl _)
        have hF2 : wr.heap.size ≠ (bA + 1) := fun e => absurd HD.out.blkT.lt (by rw [e]; exact Nat.lt_irrefl _)
        have HR0 : Hid (RdAt B β S v A T bA (bA + 1) wr.heap.size c j w (wr.alloc (.cells c.cells 45))) := ⟨HD.out.of_below ((Below.refl _ wr).alloc (Nat.le_refl _) _), HX0.out, hF1, hF2, hF0⟩
        clear HD c0 c1 c2 c3 c4 HX0 hF0 hF1 hF2
        obtain ⟨bx, hbx⟩ : ∃ bx, bx = wr.heap.size := ⟨_, rfl⟩
        obtain ⟨W1, hW1⟩ : ∃ W1, W1 = wr.alloc (.cells c.cells 45) := ⟨_, rfl⟩
        rw [← hbx, ← hW1] at HR0
        simp only [← hbx, ← hW1]
        have HR := HR0
        clear HR0 hbx hW1
        have x0 := cell_of_heap HR.out.x 0
        have x1 := cell_of_heap HR.out.x 1
        have x2 := cell_of_heap HR.out.x 2
        have x3 := cell_of_heap HR.out.x 3
        have x4 := cell_of_heap HR.out.x 4
        refine (pick24_any c.later 120 _ (by decide) (by decide) hok.later.1 hok.later.2).mono ?_
        rintro e w2 ⟨rfl, rfl⟩
        have hpl := pkN_lt c.later 120 (by decide)
        generalize pkN c.later 120 = p at *
        obtain ⟨rn, HM, hr1, hr7⟩ := rm_nat c.remote
        have hk : c.kind < 0 ∨ 6 < c.kind ∨ c.tame := by unfold Call24.tame; omega
        rcases hk with hk | hk | hk
        · go_wp2
          go_roundg (gk - 1)
          case measure => omega
          case rel => exact ⟨j + 1, n + p, β, S, v, A, T, by omega, by go_num, by go_num, by omega, HR.out.at_.mono (Nat.le_succ j), Hin⟩
        · go_wp2
          go_roundg (gk - 1)
          case measure => omega
          case rel => exact ⟨j + 1, n + p, β, S, v, A, T, by omega, by go_num, by go_num, by omega, HR.out.at_.mono (Nat.le_succ j), Hin⟩
        · have hk0 := hk.1
          have hk6 := hk.2
          have hkey : Hid (c.key = (100, (rn : Int))) := congrArg (Prod.mk (100 : Int)) HM.out
          go_wp2_with (fail)
          refine (remote24_any c.remote _ hok.remote).mono ?_
          rintro e w2 ⟨rfl, rfl⟩
          rw [HM.out]
          go_wp2_with (fail)
          refine (valid_any aA aP B β S v 100 (rn : Int) _ (HE.out.below HR.out.at_.now.below) HR.out.at_.now.is).mono ?_
          rintro e w2 ⟨rfl, hb⟩
          obtain ⟨y0, hy0⟩ : ∃ y, Hid (S.valid (100, (rn : Int)) = y) := ⟨_, rfl⟩
          rw [hy0.out]
          clear x0 x1 x2 x3 x4
          have HR0 := Lib.hid (HR.out.of_below hb); clear hb HR
          have HR := HR0; clear HR0
          have x0 := cell_of_heap HR.out.x 0
          have x1 := cell_of_heap HR.out.x 1
          have x2 := cell_of_heap HR.out.x 2
          have x3 := cell_of_heap HR.out.x 3
          have x4 := cell_of_heap HR.out.x 4
          go_wp2_with (fail)
          refine (do_any aA aP w B β S v ((n : Int) + (p : Int)) c _ HE.out HR.out.at_.now j HR.out.at_.good (by omega) hok).mono ?_
          rintro e w3 ⟨rfl, β2, v2, hG⟩
          have Hdid := Lib.hid (doo_did HR.out.at_.now.is.nd ((n : Int) + (p : Int)) c hk)
          have Hto := Lib.hid (doo_to HR.out.at_.now.is.nd ((n : Int) + (p : Int)) c)
          have HG := Lib.hid hG
          clear hG
          generalize S.doo ((n : Int) + (p : Int)) c = X at *
          obtain ⟨x, S2⟩ := X
          simp only at HG Hdid Hto
          clear x0 x1 x2 x3 x4
          by_cases hkk : c.kind ≠ 2 ∧ c.kind ≠ 6 ∧ c.kind ≠ 3 ∧ c.kind ≠ 5
          · have e0 : ((c.kind : Int) == 2) = false := by rw [beq_eq_false_iff_ne]; omega
            have e1 : ((c.kind : Int) == 6) = false := by rw [beq_eq_false_iff_ne]; omega
            have e2 : ((c.kind : Int) == 3) = false := by rw [beq_eq_false_iff_ne]; omega
            have e3 : ((c.kind : Int) == 5) = false := by rw [beq_eq_false_iff_ne]; omega
            have Hbec : Hid (S.valid (100, (rn : Int)) = false → S2.valid (100, (rn : Int)) = true → False) := fun h0 h1 => by
              rcases became_by Hdid.out _ h0 h1 with ⟨h, h2⟩ | ⟨h, h2⟩ <;> omega
            have HI : Hid (AskInv S2 A T) := ask_keep Hin.out Hdid.out (fun h => hkk.1 h.1)
            have HR0 := Lib.hid (HR.out.go HG.out Hto.out); clear HR HG Hto
            have HR := HR0; clear HR0
            have x0 := cell_of_heap HR.out.x 0
            have x1 := cell_of_heap HR.out.x 1
            have x2 := cell_of_heap HR.out.x 2
            have x3 := cell_of_heap HR.out.x 3
            have x4 := cell_of_heap HR.out.x 4
            clear Hdid Hin
            cases y0 with
            | true =>
              go_wp2
              go_roundg (gk - 1)
              case measure => omega
              case rel => exact ⟨j + 1, n + p, β2, S2, v2, _, _, by omega, by go_num, by go_num, by omega, HR.out.at_, HI⟩
            | false =>
              go_wp2_with (fail)
              refine (valid_any aA aP B β2 S2 v2 100 (rn : Int) _ (HE.out.below HR.out.at_.now.below) HR.out.at_.now.is).mono ?_
              rintro e wT ⟨rfl, hb⟩
              clear x0 x1 x2 x3 x4
              have HR0 := Lib.hid (HR.out.of_below hb); clear hb HR
              have HR := HR0; clear HR0
              have x0 := cell_of_heap HR.out.x 0
              have x1 := cell_of_heap HR.out.x 1
              have x2 := cell_of_heap HR.out.x 2
              have x3 := cell_of_heap HR.out.x 3
              have x4 := cell_of_heap HR.out.x 4
              obtain ⟨y1, hy1⟩ : ∃ y, Hid (S2.valid (100, (rn : Int)) = y) := ⟨_, rfl⟩
              rw [hy1.out]
              cases y1 with
              | true =>
                exact (Hbec.out hy0.out hy1.out).elim
              | false =>
                go_wp2
                go_roundg (gk - 1)
                case measure => omega
                case rel => exact ⟨j + 1, n + p, β2, S2, v2, _, _, by omega, by go_num, by go_num, by omega, HR.out.at_, HI⟩
          by_cases hkk : c.kind = 5
          · have e0 : ((c.kind : Int) == 2) = false := by rw [beq_eq_false_iff_ne]; omega
            have e1 : ((c.kind : Int) == 6) = false := by rw [beq_eq_false_iff_ne]; omega
            have e2 : ((c.kind : Int) == 3) = false := by rw [beq_eq_false_iff_ne]; omega
            have e3 : ((c.kind : Int) == 5) = true := by rw [show (c.kind : Int) = 5 by omega]; rfl
            by_cases hx : x = 0
            · have f0 : ((x : Int) == 0) = true := by rw [show (x : Int) = 0 by omega]; rfl
              have HI : Hid (AskInv S2 A T) := ask_keep Hin.out Hdid.out (fun h => by have := h.1; omega)
              have HR0 := Lib.hid (HR.out.go HG.out Hto.out); clear HR HG Hto
              have HR := HR0; clear HR0
              have x0 := cell_of_heap HR.out.x 0
              have x1 := cell_of_heap HR.out.x 1
              have x2 := cell_of_heap HR.out.x 2
              have x3 := cell_of_heap HR.out.x 3
              have x4 := cell_of_heap HR.out.x 4
              clear Hdid Hin
              cases y0 with
              | true =>
                go_wp2
                go_roundg (gk - 1)
                case measure => omega
                case rel => exact ⟨j + 1, n + p, β2, S2, v2, _, _, by omega, by go_num, by go_num, by omega, HR.out.at_, HI⟩
              | false =>
                go_wp2_with (fail)
                refine (valid_any aA aP B β2 S2 v2 100 (rn : Int) _ (HE.out.below HR.out.at_.now.below) HR.out.at_.now.is).mono ?_
                rintro e wT ⟨rfl, hb⟩
                clear x0 x1 x2 x3 x4
                have HR0 := Lib.hid (HR.out.of_below hb); clear hb HR
                have HR := HR0; clear HR0
                have x0 := cell_of_heap HR.out.x 0
                have x1 := cell_of_heap HR.out.x 1
                have x2 := cell_of_heap HR.out.x 2
                have x3 := cell_of_heap HR.out.x 3
                have x4 := cell_of_heap HR.out.x 4
                obtain ⟨y1, hy1⟩ : ∃ y, Hid (S2.valid (100, (rn : Int)) = y) := ⟨_, rfl⟩
                rw [hy1.out]
                cases y1 with
                | true =>
                  go_wp2
                  go_roundg (gk - 1)
                  case measure => omega
                  case rel => exact ⟨j + 1, n + p, β2, S2, v2, _, _, by omega, by go_num, by go_num, by omega, HR.out.at_, HI⟩
                | false =>
                  go_wp2
                  go_roundg (gk - 1)
                  case measure => omega
                  case rel => exact ⟨j + 1, n + p, β2, S2, v2, _, _, by omega, by go_num, by go_num, by omega, HR.out.at_, HI⟩
            · have f0 : ((x : Int) == 0) = false := by rw [beq_eq_false_iff_ne]; omega
              have Hbec : Hid (S.valid (100, (rn : Int)) = false → S2.valid (100, (rn : Int)) = true → False) := fun h0 h1 => by
                rcases became_by Hdid.out _ h0 h1 with ⟨h, h2⟩ | ⟨h, h2⟩ <;> omega
              have HI : Hid (AskInv S2 A T) := ask_keep Hin.out Hdid.out (fun h => by have := h.1; omega)
              have HR0 := Lib.hid (HR.out.go HG.out Hto.out); clear HR HG Hto
              have HR := HR0; clear HR0
              have x0 := cell_of_heap HR.out.x 0
              have x1 := cell_of_heap HR.out.x 1
              have x2 := cell_of_heap HR.out.x 2
              have x3 := cell_of_heap HR.out.x 3
              have x4 := cell_of_heap HR.out.x 4
              clear Hdid Hin
              cases y0 with
              | true =>
                go_wp2
                go_roundg (gk - 1)
                case measure => omega
                case rel => exact ⟨j + 1, n + p, β2, S2, v2, _, _, by omega, by go_num, by go_num, by omega, HR.out.at_, HI⟩
              | false =>
                go_wp2_with (fail)
                refine (valid_any aA aP B β2 S2 v2 100 (rn : Int) _ (HE.out.below HR.out.at_.now.below) HR.out.at_.now.is).mono ?_
                rintro e wT ⟨rfl, hb⟩
                clear x0 x1 x2 x3 x4
                have HR0 := Lib.hid (HR.out.of_below hb); clear hb HR
                have HR := HR0; clear HR0
                have x0 := cell_of_heap HR.out.x 0
                have x1 := cell_of_heap HR.out.x 1
                have x2 := cell_of_heap HR.out.x 2
                have x3 := cell_of_heap HR.out.x 3
                have x4 := cell_of_heap HR.out.x 4
                obtain ⟨y1, hy1⟩ : ∃ y, Hid (S2.valid (100, (rn : Int)) = y) := ⟨_, rfl⟩
                rw [hy1.out]
                cases y1 with
                | true =>
                  exact (Hbec.out hy0.out hy1.out).elim
                | false =>
                  go_wp2
                  go_roundg (gk - 1)
                  case measure => omega
                  case rel => exact ⟨j + 1, n + p, β2, S2, v2, _, _, by omega, by go_num, by go_num, by omega, HR.out.at_, HI⟩
          by_cases hkk : c.kind = 2
          · have e0 : ((c.kind : Int) == 2) = true := by rw [show (c.kind : Int) = 2 by omega]; rfl
            have e1 : ((c.kind : Int) == 6) = false := by rw [beq_eq_false_iff_ne]; omega
            have e2 : ((c.kind : Int) == 3) = false := by rw [beq_eq_false_iff_ne]; omega
            have e3 : ((c.kind : Int) == 5) = false := by rw [beq_eq_false_iff_ne]; omega
            by_cases hx : x = 0
            · subst hx
              have Hbec : Hid (S.valid (100, (rn : Int)) = false → S2.valid (100, (rn : Int)) = true → False) := fun h0 h1 => by
                rcases became_by Hdid.out _ h0 h1 with ⟨h, h2⟩ | ⟨h, h2⟩ <;> omega
              have HI : Hid (AskInv S2 (put A rn (datN c.n)) (put T rn ((n : Int) + (p : Int)))) := ask_set Hin.out rn (datN c.n) Hdid.out hkk hkey.out rfl
              have HR0 := Lib.hid (HR.out.go HG.out Hto.out); clear HR HG Hto
              have HR := HR0; clear HR0
              have x0 := cell_of_heap HR.out.x 0
              have x1 := cell_of_heap HR.out.x 1
              have x2 := cell_of_heap HR.out.x 2
              have x3 := cell_of_heap HR.out.x 3
              have x4 := cell_of_heap HR.out.x 4
              clear Hin Hdid
              cases y0 with
              | true =>
                go_wp2_with (fail)
                refine (data24_any c.n _ hok.n).mono ?_
                rintro e w4 ⟨rfl, hb⟩
                clear x0 x1 x2 x3 x4
                have HV := Lib.hid (HR.out.of_below hb); clear hb HR
                generalize datN c.n = d at *
                have HR0 := Lib.hid (HV.out.storeAT rn d ((n : Int) + (p : Int)) (by omega))
                have ha := HV.out.at_.blkA.cell rn (by omega)
                have hfa := HV.out.at_.blkA.free rn
                have hne : (bA + 1) ≠ bA := fun e => HV.out.at_.ne e.symm
                have hta := (HV.out.at_.blkT.setOther (v := .string d) (j := rn) hne).cell rn (by omega)
                have hft := (HV.out.at_.blkT.setOther (v := .string d) (j := rn) hne).free rn
                have HR := HR0; clear HR0
                have x0 := cell_of_heap HR.out.x 0
                have x1 := cell_of_heap HR.out.x 1
                have x2 := cell_of_heap HR.out.x 2
                have x3 := cell_of_heap HR.out.x 3
                have x4 := cell_of_heap HR.out.x 4
                go_wp2
                go_roundg (gk - 1)
                case measure => omega
                case rel => exact ⟨j + 1, n + p, β2, S2, v2, _, _, by omega, by go_num, by go_num, by omega, HR.out.at_, HI⟩
              | false =>
                go_wp2_with (fail)
                refine (data24_any c.n _ hok.n).mono ?_
                rintro e w4 ⟨rfl, hb⟩
                clear x0 x1 x2 x3 x4
                have HV := Lib.hid (HR.out.of_below hb); clear hb HR
                generalize datN c.n = d at *
                have HR0 := Lib.hid (HV.out.storeAT rn d ((n : Int) + (p : Int)) (by omega))
                have ha := HV.out.at_.blkA.cell rn (by omega)
                have hfa := HV.out.at_.blkA.free rn
                have hne : (bA + 1) ≠ bA := fun e => HV.out.at_.ne e.symm
                have hta := (HV.out.at_.blkT.setOther (v := .string d) (j := rn) hne).cell rn (by omega)
                have hft := (HV.out.at_.blkT.setOther (v := .string d) (j := rn) hne).free rn
                have HR := HR0; clear HR0
                have x0 := cell_of_heap HR.out.x 0
                have x1 := cell_of_heap HR.out.x 1
                have x2 := cell_of_heap HR.out.x 2
                have x3 := cell_of_heap HR.out.x 3
                have x4 := cell_of_heap HR.out.x 4
                go_wp2_with (fail)
                refine (valid_any aA aP B β2 S2 v2 100 (rn : Int) _ (HE.out.below HR.out.at_.now.below) HR.out.at_.now.is).mono ?_
                rintro e wT ⟨rfl, hb⟩
                clear x0 x1 x2 x3 x4
                have HR0 := Lib.hid (HR.out.of_below hb); clear hb HR
                have HR := HR0; clear HR0
                have x0 := cell_of_heap HR.out.x 0
                have x1 := cell_of_heap HR.out.x 1
                have x2 := cell_of_heap HR.out.x 2
                have x3 := cell_of_heap HR.out.x 3
                have x4 := cell_of_heap HR.out.x 4
                obtain ⟨y1, hy1⟩ : ∃ y, Hid (S2.valid (100, (rn : Int)) = y) := ⟨_, rfl⟩
                rw [hy1.out]
                cases y1 with
                | true =>
                  exact (Hbec.out hy0.out hy1.out).elim
                | false =>
                  go_wp2
                  go_roundg (gk - 1)
                  case measure => omega
                  case rel => exact ⟨j + 1, n + p, β2, S2, v2, _, _, by omega, by go_num, by go_num, by omega, HR.out.at_, HI⟩
            · have f0 : ((x : Int) == 0) = false := by rw [beq_eq_false_iff_ne]; omega
              have Hbec : Hid (S.valid (100, (rn : Int)) = false → S2.valid (100, (rn : Int)) = true → False) := fun h0 h1 => by
                rcases became_by Hdid.out _ h0 h1 with ⟨h, h2⟩ | ⟨h, h2⟩ <;> omega
              have HI : Hid (AskInv S2 A T) := ask_keep Hin.out Hdid.out (fun h => hx h.2)
              have HR0 := Lib.hid (HR.out.go HG.out Hto.out); clear HR HG Hto
              have HR := HR0; clear HR0
              have x0 := cell_of_heap HR.out.x 0
              have x1 := cell_of_heap HR.out.x 1
              have x2 := cell_of_heap HR.out.x 2
              have x3 := cell_of_heap HR.out.x 3
              have x4 := cell_of_heap HR.out.x 4
              clear Hdid Hin
              cases y0 with
              | true =>
                go_wp2
                go_roundg (gk - 1)
                case measure => omega
                case rel => exact ⟨j + 1, n + p, β2, S2, v2, _, _, by omega, by go_num, by go_num, by omega, HR.out.at_, HI⟩
              | false =>
                go_wp2_with (fail)
                refine (valid_any aA aP B β2 S2 v2 100 (rn : Int) _ (HE.out.below HR.out.at_.now.below) HR.out.at_.now.is).mono ?_
                rintro e wT ⟨rfl, hb⟩
                clear x0 x1 x2 x3 x4
                have HR0 := Lib.hid (HR.out.of_below hb); clear hb HR
                have HR := HR0; clear HR0
                have x0 := cell_of_heap HR.out.x 0
                have x1 := cell_of_heap HR.out.x 1
                have x2 := cell_of_heap HR.out.x 2
                have x3 := cell_of_heap HR.out.x 3
                have x4 := cell_of_heap HR.out.x 4
                obtain ⟨y1, hy1⟩ : ∃ y, Hid (S2.valid (100, (rn : Int)) = y) := ⟨_, rfl⟩
                rw [hy1.out]
                cases y1 with
                | true =>
                  exact (Hbec.out hy0.out hy1.out).elim
                | false =>
                  go_wp2
                  go_roundg (gk - 1)
                  case measure => omega
                  case rel => exact ⟨j + 1, n + p, β2, S2, v2, _, _, by omega, by go_num, by go_num, by omega, HR.out.at_, HI⟩
          by_cases hkk : c.kind = 6
          · have e0 : ((c.kind : Int) == 2) = false := by rw [beq_eq_false_iff_ne]; omega
            have e1 : ((c.kind : Int) == 6) = true := by rw [show (c.kind : Int) = 6 by omega]; rfl
            have e2 : ((c.kind : Int) == 3) = false := by rw [beq_eq_false_iff_ne]; omega
            have e3 : ((c.kind : Int) == 5) = false := by rw [beq_eq_false_iff_ne]; omega
            have Hf : Hid (Fresh S2 ((n : Int) + (p : Int))) := ask_fresh Hdid.out hkk
            have Hbec : Hid (S.valid (100, (rn : Int)) = false → S2.valid (100, (rn : Int)) = true → False) := fun h0 h1 => by
              rcases became_by Hdid.out _ h0 h1 with ⟨h, h2⟩ | ⟨h, h2⟩ <;> omega
            have HI : Hid (AskInv S2 A T) := ask_keep Hin.out Hdid.out (fun h => by have := h.1; omega)
            have HR0 := Lib.hid (HR.out.go HG.out Hto.out); clear HR HG Hto
            have HR := HR0; clear HR0
            have x0 := cell_of_heap HR.out.x 0
            have x1 := cell_of_heap HR.out.x 1
            have x2 := cell_of_heap HR.out.x 2
            have x3 := cell_of_heap HR.out.x 3
            have x4 := cell_of_heap HR.out.x 4
            clear Hdid Hin
            go_wp2_with (fail)
            go_loopw [14] (fun i wx => ∃ (t : Nat) (A : Nat → ByteArray), 1 ≤ t ∧ t ≤ 8 ∧ i = .int .i64 t ∧ Hid (RdAt B β2 S2 v2 A T bA (bA + 1) bx c (j + 1) w wx) ∧ Hid (AskInv S2 A T)) (fun i _ => 8 - (intOf i).toNat)
            case atStart => exact ⟨1, A, Nat.le_refl _, by decide, rfl, HR, HI⟩
            case round =>
              clear x0 x1 x2 x3 x4
              clear HR HI
              obtain ⟨t, A, ht1, ht8, rfl, HR, HI⟩ := hrel
              by_cases ht : t < 8
              · have hct := HR.out.at_.blkT.cell t ht
                have hca := HR.out.at_.blkA.cell t ht
                have hfa := HR.out.at_.blkA.free t
                have htt := HR.out.at_.t0 t
                by_cases hlt : T t + 200 < (n : Int) + (p : Int)
                · have HR2 := Lib.hid (HR.out.storeA t ⟨#[]⟩)
                  have HI2 := Lib.hid (ask_clear HI.out Hf.out t hlt)
                  generalize T t = tt at *
                  go_wp2
                  go_roundw
                  case rel => exact ⟨t + 1, put A t ⟨#[]⟩, by omega, by omega, by go_num, HR2, HI2⟩
                  case measure => simp [intOf]; omega
                · generalize T t = tt at *
                  go_wp2
                  go_roundw
                  case rel => exact ⟨t + 1, A, by omega, by omega, by go_num, HR, HI⟩
                  case measure => simp [intOf]; omega
              · obtain rfl : t = 8 := by omega
                have x0 := cell_of_heap HR.out.x 0
                have x1 := cell_of_heap HR.out.x 1
                have x2 := cell_of_heap HR.out.x 2
                have x3 := cell_of_heap HR.out.x 3
                have x4 := cell_of_heap HR.out.x 4
                cases y0 with
                | true =>
                  go_wp2
                  go_roundg (gk - 1)
                  case measure => omega
                  case rel => exact ⟨j + 1, n + p, β2, S2, v2, _, _, by omega, by go_num, by go_num, by omega, HR.out.at_, HI⟩
                | false =>
                  go_wp2_with (fail)
                  refine (valid_any aA aP B β2 S2 v2 100 (rn : Int) _ (HE.out.below HR.out.at_.now.below) HR.out.at_.now.is).mono ?_
                  rintro e wT ⟨rfl, hb⟩
                  clear x0 x1 x2 x3 x4
                  have HR0 := Lib.hid (HR.out.of_below hb); clear hb HR
                  have HR := HR0; clear HR0
                  have x0 := cell_of_heap HR.out.x 0
                  have x1 := cell_of_heap HR.out.x 1
                  have x2 := cell_of_heap HR.out.x 2
                  have x3 := cell_of_heap HR.out.x 3
                  have x4 := cell_of_heap HR.out.x 4
                  obtain ⟨y1, hy1⟩ : ∃ y, Hid (S2.valid (100, (rn : Int)) = y) := ⟨_, rfl⟩
                  rw [hy1.out]
                  cases y1 with
                  | true =>
                    exact (Hbec.out hy0.out hy1.out).elim
                  | false =>
                    go_wp2
                    go_roundg (gk - 1)
                    case measure => omega
                    case rel => exact ⟨j + 1, n + p, β2, S2, v2, _, _, by omega, by go_num, by go_num, by omega, HR.out.at_, HI⟩
          by_cases hkk : c.kind = 3
          · have e0 : ((c.kind : Int) == 2) = false := by rw [beq_eq_false_iff_ne]; omega
            have e1 : ((c.kind : Int) == 6) = false := by rw [beq_eq_false_iff_ne]; omega
            have e2 : ((c.kind : Int) == 3) = true := by rw [show (c.kind : Int) = 3 by omega]; rfl
            have e3 : ((c.kind : Int) == 5) = false := by rw [beq_eq_false_iff_ne]; omega
            by_cases hx : x = 0
            · have f0 : ((x : Int) == 1) = false := by rw [beq_eq_false_iff_ne]; omega
              have f1 : ((x : Int) == 0) = true := by rw [show (x : Int) = 0 by omega]; rfl
              have Hbec : Hid (S.valid (100, (rn : Int)) = false → S2.valid (100, (rn : Int)) = true → False) := fun h0 h1 => by
                rcases became_by Hdid.out _ h0 h1 with ⟨h, h2⟩ | ⟨h, h2⟩ <;> omega
              have HI : Hid (AskInv S2 A T) := ask_keep Hin.out Hdid.out (fun h => by have := h.1; omega)
              have HR0 := Lib.hid (HR.out.go HG.out Hto.out); clear HR HG Hto
              have HR := HR0; clear HR0
              have x0 := cell_of_heap HR.out.x 0
              have x1 := cell_of_heap HR.out.x 1
              have x2 := cell_of_heap HR.out.x 2
              have x3 := cell_of_heap HR.out.x 3
              have x4 := cell_of_heap HR.out.x 4
              clear Hdid Hin
              cases y0 with
              | true =>
                go_wp2_with (fail)
                go_quiet (fail)
                have HR0 := Lib.hid (HR.out.of_below (below_drewN _ nq)); clear HR
                have HR := HR0; clear HR0
                clear x0 x1 x2 x3 x4
                have x0 := cell_of_heap HR.out.x 0
                have x1 := cell_of_heap HR.out.x 1
                have x2 := cell_of_heap HR.out.x 2
                have x3 := cell_of_heap HR.out.x 3
                have x4 := cell_of_heap HR.out.x 4
                go_wp2
                go_roundg (gk - 1)
                case measure => omega
                case rel => exact ⟨j + 1, n + p, β2, S2, v2, _, _, by omega, by go_num, by go_num, by omega, HR.out.at_, HI⟩
              | false =>
                go_wp2_with (fail)
                go_quiet (fail)
                have HR0 := Lib.hid (HR.out.of_below (below_drewN _ nq)); clear HR
                have HR := HR0; clear HR0
                clear x0 x1 x2 x3 x4
                have x0 := cell_of_heap HR.out.x 0
                have x1 := cell_of_heap HR.out.x 1
                have x2 := cell_of_heap HR.out.x 2
                have x3 := cell_of_heap HR.out.x 3
                have x4 := cell_of_heap HR.out.x 4
                go_wp2_with (fail)
                refine (valid_any aA aP B β2 S2 v2 100 (rn : Int) _ (HE.out.below HR.out.at_.now.below) HR.out.at_.now.is).mono ?_
                rintro e wT ⟨rfl, hb⟩
                clear x0 x1 x2 x3 x4
                have HR0 := Lib.hid (HR.out.of_below hb); clear hb HR
                have HR := HR0; clear HR0
                have x0 := cell_of_heap HR.out.x 0
                have x1 := cell_of_heap HR.out.x 1
                have x2 := cell_of_heap HR.out.x 2
                have x3 := cell_of_heap HR.out.x 3
                have x4 := cell_of_heap HR.out.x 4
                obtain ⟨y1, hy1⟩ : ∃ y, Hid (S2.valid (100, (rn : Int)) = y) := ⟨_, rfl⟩
                rw [hy1.out]
                cases y1 with
                | true =>
                  exact (Hbec.out hy0.out hy1.out).elim
                | false =>
                  go_wp2
                  go_roundg (gk - 1)
                  case measure => omega
                  case rel => exact ⟨j + 1, n + p, β2, S2, v2, _, _, by omega, by go_num, by go_num, by omega, HR.out.at_, HI⟩
            · obtain ⟨hx1, hAd, hval⟩ := ask_right Hin.out Hdid.out hkk rn hr1 hr7 hkey.out hx
              have HAd := Lib.hid hAd
              have Hval : Hid (S2.valid (100, (rn : Int)) = true) := by rw [← hkey.out]; exact hval
              have Hrn : Hid (rn < 8) := Nat.lt_succ_of_le hr7
              have b0 : (0 : Int) ≤ (rn : Int) := by omega
              have b8 : (rn : Int) < 8 := by omega
              subst hx1
              clear hAd hval hx
              have HI : Hid (AskInv S2 (put A rn ⟨#[]⟩) T) := ask_used Hin.out Hdid.out hkk rn hkey.out
              have HR0 := Lib.hid (HR.out.go HG.out Hto.out); clear HR HG Hto
              have HR := HR0; clear HR0
              have x0 := cell_of_heap HR.out.x 0
              have x1 := cell_of_heap HR.out.x 1
              have x2 := cell_of_heap HR.out.x 2
              have x3 := cell_of_heap HR.out.x 3
              have x4 := cell_of_heap HR.out.x 4
              clear Hdid Hin
              have hS0 : w3.cell? ⟨bA, rn, none⟩ = some (.string (datN c.n)) ∧ w3.cell? ⟨bx, 3, none⟩ = some (.int .i64 c.n) := ⟨by rw [← HAd.out]; exact HR.out.at_.blkA.cell rn Hrn.out, x3⟩
              obtain ⟨ca, _⟩ := hS0
              have hS0 : w3.drew.cell? ⟨bA, rn, none⟩ = some (.string (datN c.n)) ∧ w3.drew.cell? ⟨bx, 3, none⟩ = some (.int .i64 c.n) := ⟨ca, x3⟩
              cases y0 with
              | true =>
                go_wp2_with (fail)
                go_region_held3 (fun W => W.cell? ⟨bA, rn, none⟩ = some (.string (datN c.n)) ∧ W.cell? ⟨bx, 3, none⟩ = some (.int .i64 c.n)) (first | exact hS8 | exact hS9 | exact hS0 | go_keep)
                  (first
                   | (go_at_call 31; refine (data24_any c.n _ hok.n).mono ?_; rintro e w8 ⟨rfl, hb8⟩; have HR8 := Lib.hid (HR.out.drew.of_below hb8); have hS8 : w8.cell? ⟨bA, rn, none⟩ = some (.string (datN c.n)) ∧ w8.cell? ⟨bx, 3, none⟩ = some (.int .i64 c.n) := ⟨by rw [← HAd.out]; exact HR8.out.at_.blkA.cell rn Hrn.out, cell_of_heap HR8.out.x 3⟩)
                   | (go_at_call 19; refine (valid_any aA aP B β2 S2 v2 100 (rn : Int) _ (HE.out.below HR8.out.at_.now.below) HR8.out.at_.now.is).mono ?_; rintro e w9 ⟨rfl, hb9⟩; rw [Hval.out]; have HR9 := Lib.hid (HR8.out.of_below hb9); have hS9 : w9.cell? ⟨bA, rn, none⟩ = some (.string (datN c.n)) ∧ w9.cell? ⟨bx, 3, none⟩ = some (.int .i64 c.n) := ⟨by rw [← HAd.out]; exact HR9.out.at_.blkA.cell rn Hrn.out, cell_of_heap HR9.out.x 3⟩))
                have ha := HR9.out.at_.blkA.cell rn Hrn.out
                have hfa := HR9.out.at_.blkA.free rn
                have HRn := Lib.hid (HR9.out.storeA rn ⟨#[]⟩)
                clear hS8 hS9 hS0 HR8 hb8 hb9 HR
                clear x0 x1 x2 x3 x4
                have HR := HRn; clear HRn
                have x0 := cell_of_heap HR.out.x 0
                have x1 := cell_of_heap HR.out.x 1
                have x2 := cell_of_heap HR.out.x 2
                have x3 := cell_of_heap HR.out.x 3
                have x4 := cell_of_heap HR.out.x 4
                clear HR9
                go_wp2
                go_roundg (gk - 1)
                case measure => omega
                case rel => exact ⟨j + 1, n + p, β2, S2, v2, _, _, by omega, by go_num, by go_num, by omega, HR.out.at_, HI⟩
              | false =>
                go_wp2_with (fail)
                go_region_held3 (fun W => W.cell? ⟨bA, rn, none⟩ = some (.string (datN c.n)) ∧ W.cell? ⟨bx, 3, none⟩ = some (.int .i64 c.n)) (first | exact hS8 | exact hS9 | exact hS0 | go_keep)
                  (first
                   | (go_at_call 31; refine (data24_any c.n _ hok.n).mono ?_; rintro e w8 ⟨rfl, hb8⟩; have HR8 := Lib.hid (HR.out.drew.of_below hb8); have hS8 : w8.cell? ⟨bA, rn, none⟩ = some (.string (datN c.n)) ∧ w8.cell? ⟨bx, 3, none⟩ = some (.int .i64 c.n) := ⟨by rw [← HAd.out]; exact HR8.out.at_.blkA.cell rn Hrn.out, cell_of_heap HR8.out.x 3⟩)
                   | (go_at_call 19; refine (valid_any aA aP B β2 S2 v2 100 (rn : Int) _ (HE.out.below HR8.out.at_.now.below) HR8.out.at_.now.is).mono ?_; rintro e w9 ⟨rfl, hb9⟩; rw [Hval.out]; have HR9 := Lib.hid (HR8.out.of_below hb9); have hS9 : w9.cell? ⟨bA, rn, none⟩ = some (.string (datN c.n)) ∧ w9.cell? ⟨bx, 3, none⟩ = some (.int .i64 c.n) := ⟨by rw [← HAd.out]; exact HR9.out.at_.blkA.cell rn Hrn.out, cell_of_heap HR9.out.x 3⟩))
                have ha := HR9.out.at_.blkA.cell rn Hrn.out
                have hfa := HR9.out.at_.blkA.free rn
                have HRn := Lib.hid (HR9.out.storeA rn ⟨#[]⟩)
                clear hS8 hS9 hS0 HR8 hb8 hb9 HR
                clear x0 x1 x2 x3 x4
                have HR := HRn; clear HRn
                have x0 := cell_of_heap HR.out.x 0
                have x1 := cell_of_heap HR.out.x 1
                have x2 := cell_of_heap HR.out.x 2
                have x3 := cell_of_heap HR.out.x 3
                have x4 := cell_of_heap HR.out.x 4
                clear HR9
                go_wp2_with (fail)
                refine (valid_any aA aP B β2 S2 v2 100 (rn : Int) _ (HE.out.below HR.out.at_.now.below) HR.out.at_.now.is).mono ?_
                rintro e wT ⟨rfl, hb⟩
                clear x0 x1 x2 x3 x4
                have HR0 := Lib.hid (HR.out.of_below hb); clear hb HR
                have HR := HR0; clear HR0
                have x0 := cell_of_heap HR.out.x 0
                have x1 := cell_of_heap HR.out.x 1
                have x2 := cell_of_heap HR.out.x 2
                have x3 := cell_of_heap HR.out.x 3
                have x4 := cell_of_heap HR.out.x 4
                obtain ⟨y1, hy1⟩ : ∃ y, Hid (S2.valid (100, (rn : Int)) = y) := ⟨_, rfl⟩
                rw [hy1.out]
                cases y1 with
                | true =>
                  go_wp2
                  go_roundg (gk - 1)
                  case measure => omega
                  case rel => exact ⟨j + 1, n + p, β2, S2, v2, _, _, by omega, by go_num, by go_num, by omega, HR.out.at_, HI⟩
                | false =>
                  go_wp2
                  go_roundg (gk - 1)
                  case measure => omega
                  case rel => exact ⟨j + 1, n + p, β2, S2, v2, _, _, by omega, by go_num, by go_num, by omega, HR.out.at_, HI⟩
          omega
      · go_wp2
        go_ret
        exact ⟨rfl, HD.out.now.below⟩
    · go_wp2
      go_ret
      exact ⟨rfl, HD.out.now.below⟩
end Go.Proofs.YtmdfpknhfkgfoaaDoor
