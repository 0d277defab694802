/- peregrineref07.Remote.Add, when the frame's own form is right. -/
import Derived.Test.YtmdfpknhfkgfoaaRR4
namespace Go.Proofs.Ytmdfpknhfkgfoaa
open Go.RowKit Go.Shelf

def RAddPost (B : Nat) (v vl : Value) (err : Int) (X' : RR) (w : World) (e : Ending) (w' : World) : Prop := e = .returned (.int .i64 err) ∧ ChgRR B X' v vl w w'

/-- The Remote as it lay, and the frame. -/
structure RAdd0 (B : Nat) (X : RR) (v vl : Value) (F : Array Value) (w W : World) : Prop where
  rem : IsRR B X v vl W
  frm : W.heap[w.heap.size]? = some (.cells F 42 (0, 0))
  below : Below w.heap.size w W
/-- Beside it the copy. -/
structure RAdd1 (B : Nat) (X : RR) (v vl : Value) (F : Array Value) (Bn : Nat) (Y : RR) (vn vln : Value) (w W : World) : Prop where
  old : RAdd0 B X v vl F w W
  cpy : IsRR Bn Y vn vln W
  nB : w.heap.size ≤ Bn
  nv : ∀ g, vn.ownBlock = some g → w.heap.size ≤ g
  nl : ∀ g, vln.ownBlock = some g → w.heap.size ≤ g

section
variable {B : Nat} {X : RR} {v vl : Value} {F : Array Value} {Bn : Nat} {Y Y' : RR} {vn vln : Value} {w W W' : World}
theorem RAdd0.drewN (h : RAdd0 B X v vl F w W) (k : Nat) : RAdd0 B X v vl F w (W.drewN k) := ⟨h.rem.drewN k, h.frm, below_drewN h.below k⟩
theorem RAdd0.drew (h : RAdd0 B X v vl F w W) : RAdd0 B X v vl F w W.drew := ⟨h.rem.drew, h.frm, h.below.drew⟩
theorem RAdd0.of_below (h : RAdd0 B X v vl F w W) (hb : Below W.heap.size W W') : RAdd0 B X v vl F w W' := ⟨h.rem.below hb, (hb.block _ (heap_lt h.frm)).trans h.frm, below_then h.below hb⟩
theorem RAdd0.chg (h : RAdd0 B X v vl F w W) (hB : B < w.heap.size) (hv : ∀ g, v.ownBlock = some g → g < w.heap.size) (hl : ∀ g, vl.ownBlock = some g → g < w.heap.size) {S : Nat → Prop} (hk : Keeps S W W') (hS : ∀ i, S i → w.heap.size ≤ i) (hF : ¬ S w.heap.size) : RAdd0 B X v vl F w W' :=
  ⟨h.rem.keeps hk (fun e => by have := hS _ e; omega) (fun g hg e => by have := hS _ e; have := hv _ hg; omega) (fun g hg e => by have := hS _ e; have := hl _ hg; omega), heap_keeps h.frm hk hF, hk.below h.below hS h.below.size⟩
theorem RAdd1.drewN (h : RAdd1 B X v vl F Bn Y vn vln w W) (k : Nat) : RAdd1 B X v vl F Bn Y vn vln w (W.drewN k) := ⟨h.old.drewN k, h.cpy.drewN k, h.nB, h.nv, h.nl⟩
theorem RAdd1.drew (h : RAdd1 B X v vl F Bn Y vn vln w W) : RAdd1 B X v vl F Bn Y vn vln w W.drew := ⟨h.old.drew, h.cpy.drew, h.nB, h.nv, h.nl⟩
theorem RAdd1.neF (h : RAdd1 B X v vl F Bn Y vn vln w W) : Bn ≠ w.heap.size := fun e => by
  have h1 := h.cpy.blk
  rw [e, h.old.frm] at h1
  injection h1 with h2
  injection h2 with _ h3
  exact absurd h3 (by decide)
theorem RAdd1.chg (h : RAdd1 B X v vl F Bn Y vn vln w W) (hB : B < w.heap.size) (hv : ∀ g, v.ownBlock = some g → g < w.heap.size) (hl : ∀ g, vl.ownBlock = some g → g < w.heap.size) (hc : ChgRR Bn Y' vn vln W W') : ∃ vn' vln', RAdd1 B X v vl F Bn Y' vn' vln' w W' := by
  obtain ⟨vn', vln', hX, h1, h2, hk⟩ := hc
  refine ⟨vn', vln', h.old.chg hB hv hl hk (fun i e => ?_) (fun e => ?_), hX, h.nB, fun g hg => ?_, fun g hg => ?_⟩
  · rcases e with rfl | e | e
    · exact h.nB
    · exact h.nv i e
    · exact h.nl i e
  · rcases e with e | e | e
    · exact h.neF e.symm
    · exact row_type h.cpy.own _ _ h.old.frm (by decide) e
    · exact row_type h.cpy.lft _ _ h.old.frm (by decide) e
  · rcases h1 g hg with e | e
    · exact h.nv g e
    · exact Nat.le_trans h.old.below.size e
  · rcases h2 g hg with e | e
    · exact h.nl g e
    · exact Nat.le_trans h.old.below.size e
theorem chg_only (hX : IsRR Bn Y' vn vln W') (ho : Only Bn W W') : ChgRR Bn Y' vn vln W W' := ⟨vn, vln, hX, OldOrNew.refl _ _, OldOrNew.refl _ _, ho.keeps.mono (fun _ e => .inl e)⟩
/-- The old Remote stands. -/
theorem RAdd0.same (h : RAdd0 B X v vl F w W) : ChgRR B X v vl w W := ⟨v, vl, h.rem, OldOrNew.refl _ _, OldOrNew.refl _ _, Keeps.of_below h.below⟩
end

theorem put_bound' (X : RR) (seq : Nat) (c : ByteArray) : (X.put seq c).bound = X.bound := by unfold RR.put; split <;> rfl
theorem put_left (X : RR) (seq : Nat) (c : ByteArray) : (X.put seq c).left = X.left := by unfold RR.put; split <;> rfl
theorem put_len (X : RR) (seq : Nat) (c : ByteArray) : X.es.length ≤ (X.put seq c).es.length ∧ (X.put seq c).es.length ≤ X.es.length + 1 := by
  unfold RR.put
  split
  · omega
  · show X.es.length ≤ (X.es.take _ ++ _ :: X.es.drop _).length ∧ (X.es.take _ ++ _ :: X.es.drop _).length ≤ _
    rw [List.length_append, List.length_cons, List.length_take, List.length_drop]
    omega

theorem add_bad {X : RR} {seq ret : Nat} {c : ByteArray} {t : Nat} {e : EE} (he : X.es[t]? = some e) (hf : EE.fit seq c e = false) : X.add seq ret c = (70, X) := by
  unfold RR.add
  rw [if_pos (all_no he hf)]

set_option maxRecDepth 100000 in
set_option maxHeartbeats 6400000 in
theorem radd_main (B : Nat) (X : RR) (v vl : Value) (w : World) (hX : IsRR B X v vl w) (v1 v2 v3 v4 v5 v6 v7 v8 v9 : Value) (seq ret : Nat) (z y : Int) (hz : z = ↑seq) (hy : y = ↑ret) (c : ByteArray) (h2 : c.size = 8) (h4 : ret ≤ seq) (h5 : seq < 32) (h1 : 1 ≤ X.es.length) (hl : X.es.length ≤ 32) (hbd : X.bound < 1000) (hll : X.left.length + 40 ≤ 1000000) :
    Calls Try.prog 30 #[.pointer (some ⟨B, 0, none⟩), frameA 24 v1 v2 v3 v4 v5 v6 v7 v8 v9 z y c] w (RAddPost B v vl (X.add seq ret c).1 (X.add seq ret c).2 w) := by
  subst hz hy
  have h2' : ((c.size : Int) != 8) = false := by rw [h2]; rfl
  have h3' : ¬ ((ret : Int) < 0) := by omega
  have h4' : ¬ ((seq : Int) < ret) := by omega
  have h5' : ¬ ((32 : Int) ≤ seq) := by omega
  have hBl := heap_lt hX.blk
  have Hvl := Lib.hid (own_lt hX.own)
  have Hll := Lib.hid (own_lt hX.lft)
  have HR0 : Hid (RAdd0 B X v vl #[.int .i64 24, v1, v2, v3, v4, v5, v6, v7, v8, v9, .int .i64 seq, .int .i64 ret, .string c] w (w.alloc (.cells #[.int .i64 24, v1, v2, v3, v4, v5, v6, v7, v8, v9, .int .i64 seq, .int .i64 ret, .string c] 42))) :=
    ⟨hX.alloc _, heap_alloc_new w _, (Below.refl _ _).alloc (Nat.le_refl _) _⟩
  obtain ⟨g, cap, rfl⟩ := slice_at hX.own h1
  clear hX h2
  obtain ⟨n, Hn⟩ : ∃ n, Hid (X.es.length = n) := ⟨_, rfl⟩
  rw [Hn.out] at h1 hl HR0
  go_enter Try.func30, Try.ntmps30
  go_wp2_with (fail)
  go_loopg [5, 6] (n + 1) (fun g0 kn i wx => ∃ t : Nat, g0 + t = n + 1 ∧ t ≤ n ∧ i = .int .i64 t ∧ kn = .bool (knownTo X.es seq t) ∧ Hid (RAdd0 B X (.slice (some ⟨g, 0, none⟩) n cap) vl #[.int .i64 24, v1, v2, v3, v4, v5, v6, v7, v8, v9, .int .i64 seq, .int .i64 ret, .string c] w wx) ∧ Hid (∀ k e', k < t → X.es[k]? = some e' → EE.fit seq c e' = true))
  case atStart => exact ⟨0, rfl, Nat.zero_le _, rfl, rfl, HR0, fun k e' hk => absurd hk (Nat.not_lt_zero _)⟩
  case round =>
    clear HR0
    obtain ⟨t, hg, ht, rfl, rfl, HR0, Hall⟩ := hrel
    have c0 := cell_of_heap HR0.out.rem.blk 0
    simp at c0
    have f10 := cell_of_heap HR0.out.frm 10
    have f11 := cell_of_heap HR0.out.frm 11
    have f12 := cell_of_heap HR0.out.frm 12
    simp at f10 f11 f12
    by_cases htn : t < n
    · obtain ⟨e, he⟩ : ∃ e, X.es[t]? = some e := ⟨_, List.getElem?_eq_getElem (by rw [Hn.out]; exact htn)⟩
      obtain ⟨c1, c2, c3⟩ := HR0.out.rem.ent rfl he
      have He := Lib.hid he
      have Hk := Lib.hid (knownTo_step (seq := seq) he)
      clear he c3
      obtain ⟨s, id, gn⟩ := e
      simp only [Nat.add_zero] at c1 c2 Hk
      obtain ⟨kb, Hkb⟩ : ∃ kb, Hid (knownTo X.es seq t = kb) := ⟨_, rfl⟩
      rw [Hkb.out] at Hk ⊢
      have Hbad := Lib.hid (fun hf => add_bad (X := X) (ret := ret) He.out hf : EE.fit seq c ⟨s, id, gn⟩ = false → X.add seq ret c = (70, X))
      by_cases hs : s = seq
      · have hs1 : ((s : Int) == (seq : Int)) = true := by rw [hs]; simp
        have Hs2 := Lib.hid (show (s == seq) = true by rw [hs]; simp)
        clear hs
        by_cases hc : id = c
        · have hc1 := str_eq_true hc
          have Hfit := Lib.hid (some_step He.out (p := EE.fit seq c) (by unfold EE.fit; simp only; rw [Hs2.out, decide_eq_true hc]; rfl) Hall.out)
          have Hk2 := Lib.hid (Hk.out.trans (by rw [Hs2.out]) : knownTo X.es seq (t + 1) = (kb || true))
          clear hc Hbad Hk Hkb
          cases kb with
          | true =>
            go_wp2
            go_quiet (fail)
            go_wp2
            go_quiet (fail)
            go_wp2
            go_roundg (gk - 1)
            case measure => omega
            case rel => exact ⟨t + 1, by omega, by omega, by go_num, by rw [Hk2.out]; rfl, HR0.out.drewN _, Hfit⟩
          | false =>
            go_wp2
            go_quiet (fail)
            go_wp2
            go_quiet (fail)
            go_wp2
            go_roundg (gk - 1)
            case measure => omega
            case rel => exact ⟨t + 1, by omega, by omega, by go_num, by rw [Hk2.out]; rfl, HR0.out.drewN _, Hfit⟩
        · have hc1 := str_eq_false hc
          have Hb2 := Lib.hid (Hbad.out (by unfold EE.fit; simp only; rw [Hs2.out, decide_eq_false hc]; rfl))
          clear hc
          go_wp2
          go_quiet (fail)
          go_wp2
          go_ret
          rw [Hb2.out]
          exact ⟨rfl, (HR0.out.drewN _).same⟩
      · have hs1 : ((s : Int) == (seq : Int)) = false := by rw [beq_eq_false_iff_ne]; omega
        have Hs2 := Lib.hid (show (s == seq) = false by rw [beq_eq_false_iff_ne]; exact hs)
        clear hs
        by_cases hc : id = c
        · have hc1 := str_eq_true hc
          have Hb2 := Lib.hid (Hbad.out (by unfold EE.fit; simp only; rw [Hs2.out, decide_eq_true hc]; rfl))
          clear hc
          go_wp2
          go_quiet (fail)
          go_wp2
          go_ret
          rw [Hb2.out]
          exact ⟨rfl, (HR0.out.drewN _).same⟩
        · have hc1 := str_eq_false hc
          have Hfit := Lib.hid (some_step He.out (p := EE.fit seq c) (by unfold EE.fit; simp only; rw [Hs2.out, decide_eq_false hc]; rfl) Hall.out)
          have Hk2 := Lib.hid (Hk.out.trans (by rw [Hs2.out]) : knownTo X.es seq (t + 1) = (kb || false))
          clear hc Hbad Hk Hkb
          cases kb with
          | true =>
            go_wp2
            go_quiet (fail)
            go_wp2
            go_quiet (fail)
            go_wp2
            go_roundg (gk - 1)
            case measure => omega
            case rel => exact ⟨t + 1, by omega, by omega, by go_num, by rw [Hk2.out]; rfl, HR0.out.drewN _, Hfit⟩
          | false =>
            go_wp2
            go_quiet (fail)
            go_wp2
            go_quiet (fail)
            go_wp2
            go_roundg (gk - 1)
            case measure => omega
            case rel => exact ⟨t + 1, by omega, by omega, by go_num, by rw [Hk2.out]; rfl, HR0.out.drewN _, Hfit⟩
    · obtain rfl : t = n := by omega
      have Hkn := Lib.hid (knownTo_all X seq)
      rw [Hn.out] at Hkn
      have Hfits := Lib.hid (all_of Hn.out Hall.out)
      clear Hall f11
      rw [Hkn.out]
      go_wp2_with (fail)
      refine (rcopied_any B X _ vl _ HR0.out.rem (by rw [Hn.out]; omega) (by omega)).mono ?_
      rintro e w2 ⟨Bn, vn, vln, rfl, hcp, hnB, hnv, hnl, hb2⟩
      have hs0 := HR0.out.below.size
      have HR1 : Hid (RAdd1 B X (.slice (some ⟨g, 0, none⟩) t cap) vl #[.int .i64 24, v1, v2, v3, v4, v5, v6, v7, v8, v9, .int .i64 seq, .int .i64 ret, .string c] Bn X vn vln w w2) := ⟨HR0.out.of_below hb2, hcp, by omega, fun q hq => by have := hnv q hq; omega, fun q hq => by have := hnl q hq; omega⟩
      clear hcp hnB hnv hnl hb2 HR0 hs0 f10 f12 c0
      obtain ⟨kb, Hkb⟩ : ∃ kb, Hid (X.known seq = kb) := ⟨_, rfl⟩
      rw [Hkb.out]
      clear Hkn
      go_upto_if 84 with (fail)
      go_cut [7] (fun p wx => p = .pointer (some ⟨Bn, 0, none⟩) ∧ ∃ vn vln, Hid (RAdd1 B X (.slice (some ⟨g, 0, none⟩) t cap) vl #[.int .i64 24, v1, v2, v3, v4, v5, v6, v7, v8, v9, .int .i64 seq, .int .i64 ret, .string c] Bn (X.put seq c) vn vln w wx))
      case first =>
        cases kb with
        | true =>
          go_wp2
          go_meet
          exact ⟨rfl, vn, vln, by rw [show X.put seq c = X by unfold RR.put; rw [if_pos Hkb.out]]; exact HR1⟩
        | false =>
          have f10 := cell_of_heap HR1.out.old.frm 10
          have f12 := cell_of_heap HR1.out.old.frm 12
          simp at f10 f12
          go_wp2_with (fail)
          refine (rinsert_any Bn X vn vln ⟨seq, c, false⟩ _ HR1.out.cpy (by rw [Hn.out]; exact h1) (by rw [Hn.out]; omega)).mono ?_
          rintro e w3 ⟨u, v', rfl, hI, hf, hO⟩
          obtain ⟨vn3, vln3, h3⟩ := HR1.out.chg hBl (by simpa [Hn.out] using Hvl.out) Hll.out (Y' := X.put seq c) ⟨v', vln, by rw [show X.put seq c = X.ins ⟨seq, c, false⟩ by unfold RR.put; rw [if_neg (by rw [Hkb.out]; decide)]]; exact hI, fun q hq => .inr (hf q hq), OldOrNew.refl _ _, hO.keeps.mono (fun _ e => .inl e)⟩
          have H3 := Lib.hid h3
          clear h3 hI hf hO
          go_wp2
          go_meet
          exact ⟨rfl, vn3, vln3, H3⟩
      case rest =>
        obtain ⟨rfl, vn0, vln0, HR2⟩ := hcut
        clear HR1 vn vln
        obtain ⟨Y0, HY0⟩ : ∃ Y0, Hid (X.put seq c = Y0) := ⟨_, rfl⟩
        have HYb := Lib.hid (put_bound' X seq c)
        have hlen0 := put_len X seq c
        have hleft0 := put_left X seq c
        rw [HY0.out] at HR2 HYb hlen0 hleft0
        have f11 := cell_of_heap HR2.out.old.frm 11
        have d2 := cell_of_heap HR2.out.cpy.blk 2
        have e2 := free_of_heap HR2.out.cpy.blk 2
        simp at f11 d2
        rw [HYb.out] at d2
        go_upto_region 16 with (fail)
        go_cut [7] (fun p wx => p = .pointer (some ⟨Bn, 0, none⟩) ∧ Hid (RAdd1 B X (.slice (some ⟨g, 0, none⟩) t cap) vl #[.int .i64 24, v1, v2, v3, v4, v5, v6, v7, v8, v9, .int .i64 seq, .int .i64 ret, .string c] Bn (Y0.bnd ret) vn0 vln0 w wx))
        case first =>
          have Hst : Hid (∀ m : Int, m = (max X.bound ret : Nat) → RAdd1 B X (.slice (some ⟨g, 0, none⟩) t cap) vl #[.int .i64 24, v1, v2, v3, v4, v5, v6, v7, v8, v9, .int .i64 seq, .int .i64 ret, .string c] Bn (Y0.bnd ret) vn0 vln0 w (wc.setCell ⟨Bn, 2, none⟩ (.int .i64 m)).drew) := fun m hm => by
            have hX' : IsRR Bn (Y0.bnd ret) vn0 vln0 (wc.setCell ⟨Bn, 2, none⟩ (.int .i64 m)) := HR2.out.cpy.setBlk (by rw [hm, ← HYb.out]; rfl) rfl rfl
            obtain ⟨_, _, h⟩ := RAdd1.chg HR2.out hBl (by simpa [Hn.out] using Hvl.out) Hll.out (chg_only hX' ((Only.refl _ _).setCell _ _))
            exact ⟨h.old.drew, hX'.drew, HR2.out.nB, HR2.out.nv, HR2.out.nl⟩
          go_wp2_with (fail)
          go_region
          all_goals go_wp2
          all_goals go_meet
          all_goals exact ⟨rfl, Hst.out _ (by omega)⟩
        case rest =>
          obtain ⟨rfl, HR3⟩ := hcut
          clear HR2 f11 d2 e2
          obtain ⟨Y, HY⟩ : ∃ Y, Hid (Y0.bnd ret = Y) := ⟨_, rfl⟩
          have hYbd : Y.bound = max X.bound ret := by rw [← HY.out]; show max Y0.bound ret = _; rw [HYb.out]
          have hYl : Y.es.length = Y0.es.length := by rw [← HY.out]; rfl
          have hYlf : Y.left = X.left := by rw [← HY.out]; exact hleft0
          have Hadd := Lib.hid (show X.add seq ret c = RR.fin Y.prune Y.lost X by
            unfold RR.add RR.made
            rw [if_neg (by rw [Hfits.out]; decide), HY0.out, HY.out])
          have hYm : 1 ≤ Y.es.length ∧ Y.es.length ≤ 33 := by rw [hYl]; have := Hn.out; omega
          rw [HY.out] at HR3
          have hYll : Y.left.length + 40 ≤ 1000000 := by rw [hYlf]; exact hll
          have hYbl : Y.bound < 1000 := by rw [hYbd]; omega
          obtain ⟨m, Hm⟩ : ∃ m, Hid (Y.es.length = m) := ⟨_, rfl⟩
          rw [Hm.out] at hYm
          clear hYl hYlf hYbd hlen0 hleft0 HY HY0 HYb Hkb Hfits
          obtain ⟨hm1, hm33⟩ := hYm
          go_wp2_with (fail)
          go_loopg [8, 9] (m + 1) (fun g0 ls i wx => ∃ (t2 : Nat) (vn vln : Value), g0 + t2 = m + 1 ∧ t2 ≤ m ∧ i = .int .i64 t2 ∧ ls = .bool (Y.lostTo t2) ∧ Hid (RAdd1 B X (.slice (some ⟨g, 0, none⟩) t cap) vl #[.int .i64 24, v1, v2, v3, v4, v5, v6, v7, v8, v9, .int .i64 seq, .int .i64 ret, .string c] Bn (Y.prTo t2) vn vln w wx))
          case atStart => exact ⟨0, _, _, rfl, Nat.zero_le _, rfl, rfl, by rw [Y.prTo_zero]; exact HR3⟩
          case round =>
            clear HR3
            obtain ⟨t2, vn, vln, hg2, ht2, rfl, rfl, HR3⟩ := hrel
            have hplen := Y.prTo_len t2
            rw [Hm.out] at hplen
            obtain ⟨gq, cq, rfl⟩ := slice_at HR3.out.cpy.own (by omega)
            have d0 : wr.cell? ⟨Bn, 0, none⟩ = some (.slice (some ⟨gq, 0, none⟩) m cq) := by have := cell_of_heap HR3.out.cpy.blk 0; rw [hplen] at this; exact this
            have d2 : wr.cell? ⟨Bn, 2, none⟩ = some (.int .i64 (Y.bound : Int)) := cell_of_heap HR3.out.cpy.blk 2
            by_cases htm : t2 < m
            · obtain ⟨e, he⟩ : ∃ e, Y.es[t2]? = some e := ⟨_, List.getElem?_eq_getElem (by rw [Hm.out]; exact htm)⟩
              obtain ⟨c1, c2, c3⟩ := HR3.out.cpy.ent rfl (RR.prTo_get he)
              have He := Lib.hid he
              have Hls := Lib.hid (RR.lostTo_step he)
              clear he c2
              obtain ⟨s, id, gn⟩ := e
              simp only [Nat.add_zero] at c1 c3
              obtain ⟨lb, Hlb⟩ : ∃ lb, Hid (Y.lostTo t2 = lb) := ⟨_, rfl⟩
              rw [Hlb.out] at Hls ⊢
              cases gn with
              | true =>
                have hh : EE.hit Y.bound ⟨s, id, true⟩ = false := rfl
                have Hl2 := Lib.hid (show Y.lostTo (t2 + 1) = lb by rw [Hls.out, hh, Bool.false_and, Bool.or_false])
                have Hp2 := Lib.hid (RR.prTo_no He.out hh)
                clear hh Hls He
                go_wp2
                go_quiet (fail)
                go_wp2
                go_roundg (gk - 1)
                case measure => omega
                case rel => exact ⟨t2 + 1, _, _, by omega, by omega, by go_num, by rw [Hl2.out], by rw [Hp2.out]; exact HR3.out.drewN _⟩
              | false =>
                by_cases hs : s < Y.bound
                · have hs1 : (s : Int) < (Y.bound : Int) := by omega
                  have hh : EE.hit Y.bound ⟨s, id, false⟩ = true := by unfold EE.hit; simp only; rw [decide_eq_true hs]; rfl
                  have Hl2 := Lib.hid (show Y.lostTo (t2 + 1) = (lb || (s == Y.now)) by rw [Hls.out, hh, Bool.true_and])
                  have Hp2 := Lib.hid (RR.prTo_hit He.out hh)
                  clear hh Hls hs
                  have hpl := Y.prTo_left t2
                  go_wp2
                  go_quiet (fail)
                  have HR4 := Lib.hid (HR3.out.drewN nq)
                  clear HR3
                  go_wp2_with (fail)
                  refine (rretire_one Bn t2 _ (Y.prTo t2) _ vln ⟨s, id, false⟩ _ rfl HR4.out.cpy (RR.prTo_get He.out) (by omega) (by omega)).mono ?_
                  rintro e w5 ⟨rfl, hc5⟩
                  rw [Hp2.out] at hc5
                  obtain ⟨vn5, vln5, h5⟩ := HR4.out.chg hBl (by simpa [Hn.out] using Hvl.out) Hll.out hc5
                  have HR5 := Lib.hid h5
                  clear h5 hc5 HR4 He Hp2
                  obtain ⟨qb, Hqb⟩ : ∃ qb, Hid ((s == Y.now) = qb) := ⟨_, rfl⟩
                  have hqv : ((⟨s, id, false⟩ : EE).seq == (Y.prTo t2).now) = qb := Hqb.out
                  rw [hqv]
                  rw [Hqb.out] at Hl2
                  clear hqv Hqb
                  cases lb with
                  | true =>
                    go_wp2
                    go_roundg (gk - 1)
                    case measure => omega
                    case rel => exact ⟨t2 + 1, _, _, by omega, by omega, by go_num, by rw [Hl2.out]; rfl, HR5⟩
                  | false =>
                    go_wp2
                    go_roundg (gk - 1)
                    case measure => omega
                    case rel => exact ⟨t2 + 1, _, _, by omega, by omega, by go_num, by rw [Hl2.out]; rfl, HR5⟩
                · have hs1 : ¬ ((s : Int) < (Y.bound : Int)) := by omega
                  have hh : EE.hit Y.bound ⟨s, id, false⟩ = false := by unfold EE.hit; simp only; rw [decide_eq_false hs]; rfl
                  have Hl2 := Lib.hid (show Y.lostTo (t2 + 1) = lb by rw [Hls.out, hh, Bool.false_and, Bool.or_false])
                  have Hp2 := Lib.hid (RR.prTo_no He.out hh)
                  clear hh Hls He hs
                  go_wp2
                  go_quiet (fail)
                  go_wp2
                  go_roundg (gk - 1)
                  case measure => omega
                  case rel => exact ⟨t2 + 1, _, _, by omega, by omega, by go_num, by rw [Hl2.out], by rw [Hp2.out]; exact HR3.out.drewN _⟩
            · obtain rfl : t2 = m := by omega
              have hpa := Y.prTo_all
              have hla := Y.lostTo_all
              rw [Hm.out] at hpa hla
              obtain ⟨Z, HZ⟩ : ∃ Z, Hid (Y.prune = Z) := ⟨_, rfl⟩
              obtain ⟨lb, Hlb⟩ : ∃ lb, Hid (Y.lost = lb) := ⟨_, rfl⟩
              rw [HZ.out] at hpa Hadd
              rw [Hlb.out] at hla Hadd
              rw [hla]
              have hR4 := HR3.out
              rw [hpa] at hR4 hplen
              have HR4 := Lib.hid hR4
              clear hR4 HR3 hpa hla HZ Hlb d2 Hm
              obtain ⟨o, Ho⟩ : ∃ o, Hid (Z.nextOf = o) := ⟨_, rfl⟩
              have hadd2 := Hadd.out
              unfold RR.fin at hadd2
              rw [Ho.out] at hadd2
              have Hadd2 := Lib.hid hadd2; clear hadd2 Hadd
              go_upto_region 23 with (fail)
              go_cut [7, 147] (fun p b wx => p = .pointer (some ⟨Bn, 0, none⟩) ∧ b = .bool (lb && o.isNone) ∧ ∃ vn vln, Hid (RAdd1 B X (.slice (some ⟨g, 0, none⟩) t cap) vl #[.int .i64 24, v1, v2, v3, v4, v5, v6, v7, v8, v9, .int .i64 seq, .int .i64 ret, .string c] Bn (if lb then Z.next else Z) vn vln w wx))
              case first =>
                cases lb with
                | false =>
                  go_wp2
                  go_meet
                  exact ⟨rfl, rfl, _, _, HR4⟩
                | true =>
                  go_wp2_with (fail)
                  refine (rnext_any Bn Z _ vln _ HR4.out.cpy (by omega)).mono ?_
                  rintro e w6 ⟨rfl, hX6, hO6⟩
                  obtain ⟨vn6, vln6, h6⟩ := HR4.out.chg hBl (by simpa [Hn.out] using Hvl.out) Hll.out (chg_only hX6 hO6)
                  have H6 := Lib.hid h6
                  clear h6 hX6 hO6 HR4
                  rw [Ho.out]
                  cases o with
                  | none =>
                    simp only [Option.isSome_none]
                    go_wp2
                    go_meet
                    exact ⟨rfl, rfl, _, _, H6⟩
                  | some e6 =>
                    simp only [Option.isSome_some]
                    go_wp2
                    go_meet
                    exact ⟨rfl, rfl, _, _, H6⟩
              case rest =>
                obtain ⟨rfl, rfl, vn6, vln6, HR5⟩ := hcut
                clear HR4
                by_cases hboth : lb = true ∧ o = none
                · have hb1 : (lb && o.isNone) = true := by rw [hboth.1, hboth.2]; rfl
                  have Hadd3 := Lib.hid (Hadd2.out.trans (if_pos hboth))
                  rw [hb1]
                  clear hboth hb1 Hadd2
                  go_wp2
                  go_ret
                  rw [Hadd3.out]
                  rw [Hn.out]
                  exact ⟨rfl, HR5.out.old.same⟩
                · have hb1 : (lb && o.isNone) = false := by
                    cases lb with
                    | false => rfl
                    | true =>
                      cases o with
                      | none => exact absurd ⟨rfl, rfl⟩ hboth
                      | some _ => rfl
                  have Hadd3 := Lib.hid (Hadd2.out.trans (if_neg hboth))
                  rw [hb1]
                  obtain ⟨V, HV⟩ : ∃ V, Hid ((if lb = true then Z.next else Z) = V) := ⟨_, rfl⟩
                  have hVl : V.es.length = Z.es.length := by
                    rw [← HV.out]
                    split
                    · unfold RR.next; split <;> rfl
                    · rfl
                  rw [HV.out] at HR5 Hadd3
                  clear hboth hb1 Hadd2 HV
                  go_wp2_with (fail)
                  refine (rlive_any Bn V vn6 vln6 _ HR5.out.cpy (by omega)).mono ?_
                  rintro e w7 ⟨rfl, rfl⟩
                  have hVle := live_le V
                  by_cases h4c : 4 < V.live
                  · have h4i : (4 : Int) < (V.live : Int) := by omega
                    have Hadd4 := Lib.hid (Hadd3.out.trans (if_pos h4c))
                    clear h4c Hadd3
                    go_wp2
                    go_ret
                    rw [Hadd4.out]
                    rw [Hn.out]
                    exact ⟨rfl, HR5.out.old.same⟩
                  · have h4i : ¬ ((4 : Int) < (V.live : Int)) := by omega
                    have Hadd4 := Lib.hid (Hadd3.out.trans (if_neg h4c))
                    clear h4c Hadd3
                    obtain ⟨o6, q6, rfl⟩ := own_shape HR5.out.cpy.own
                    obtain ⟨o7, q7, rfl⟩ := own_shape HR5.out.cpy.lft
                    obtain ⟨p0, p1, p2, p3⟩ := cells4 HR5.out.cpy
                    obtain ⟨b0, b1, b2, b3⟩ := cells4 HR5.out.old.rem
                    have f0 := free_of_heap HR5.out.old.rem.blk 0
                    have f1 := free_of_heap HR5.out.old.rem.blk 1
                    have f2 := free_of_heap HR5.out.old.rem.blk 2
                    have f3 := free_of_heap HR5.out.old.rem.blk 3
                    have hnB := HR5.out.nB
                    have hne1 : ¬ (Bn = B) := by omega
                    have hne2 : ¬ (B = Bn) := by omega
                    clear d0
                    go_wp2
                    go_ret
                    rw [Hadd4.out]
                    have hk : ∀ (W : World) (x0 x1 x2 x3 : Value), Keeps (fun k => k = B) W ((((W.setCell ⟨B, 0, none⟩ x0).setCell ⟨B, 1, none⟩ x1).setCell ⟨B, 2, none⟩ x2).setCell ⟨B, 3, none⟩ x3) := fun W x0 x1 x2 x3 => ((((Keeps.refl (fun k => k = B) W).setCell (.inl rfl)).setCell (.inl rfl)).setCell (.inl rfl)).setCell (.inl rfl)
                    refine ⟨rfl, _, _, ⟨?_, ownsRow_keeps HR5.out.cpy.own (hk _ _ _ _ _) (fun q hq e => by have := HR5.out.nv q hq; omega), ownsRow_keeps HR5.out.cpy.lft (hk _ _ _ _ _) (fun q hq e => by have := HR5.out.nl q hq; omega)⟩, fun q hq => .inr (HR5.out.nv q hq), fun q hq => .inr (HR5.out.nl q hq), (Keeps.of_below HR5.out.old.below).trans ((hk _ _ _ _ _).mono (fun _ e => .inl e))⟩
                    rw [heap_setCell_at _ _ _ _ _ _ (heap_setCell_at _ _ _ _ _ _ (heap_setCell_at _ _ _ _ _ _ (heap_setCell_at _ _ _ _ _ _ HR5.out.old.rem.blk)))]
                    rw [hVl, hplen]
                    rfl

end Go.Proofs.Ytmdfpknhfkgfoaa
