/- CIDRemoteMatchesReference: what the two Remotes answer to the same calls, and where they lie. -/
import Derived.Test.YtmdfpknhfkgfoaaRR7
import Derived.Test.YtmdfpknhfkgfoaaRArg
namespace Go.Proofs.Ytmdfpknhfkgfoaa
open Go.RowKit Go.Shelf

/-- A frame, out of a call's parameters. -/
abbrev frmC (F : Call7) : Array Value := #[.int .i64 F.ty, F.v 1, F.v 2, F.v 3, F.v 4, F.v 5, F.v 6, F.v 7, F.v 8, F.v 9, .int .i64 F.seq, .int .i64 F.ret, .string F.cid]

theorem same_add {B : Nat} {R : Rem} {v : Value} {err : Int} {w w' : World} {e : Ending} (hR : IsRem B R v w) (h : SamePost err w e w') : AddPost B v err R w e w' := ⟨h.1, v, hR.below h.2, OldOrNew.refl _ _, Keeps.of_below h.2⟩
theorem same_radd {B : Nat} {X : RR} {v vl : Value} {err : Int} {w w' : World} {e : Ending} (hX : IsRR B X v vl w) (h : SamePost err w e w') : RAddPost B v vl err X w e w' := ⟨h.1, v, vl, hX.below h.2, OldOrNew.refl _ _, OldOrNew.refl _ _, Keeps.of_below h.2⟩

theorem fits_70 {R : Rem} {seq ret : Nat} {c : ByteArray} (h : R.ent.fits seq c = false) : R.add seq ret c = (70, R) := by unfold Rem.add; rw [if_pos h]

theorem good_pos {R : Rem} {c : Nat} (h : Good R.ent c) : 1 ≤ (ents R.ent).length := by
  have h1 := live_simR h
  have h2 := live_le (simR R c)
  have : (simR R c).es.length = (ents R.ent).length := rfl
  omega

/-- Add on both sides. -/
theorem add_both (R : Rem) (c : Nat) (hG : Good R.ent c) (hlen : R.left.length + 64 ≤ 1000000) (F : Call7) :
    ∃ (err : Int) (R' : Rem) (c' : Nat), Good R'.ent c' ∧ R'.left.length ≤ R.left.length + 32 ∧
      (∀ B v W, IsRem B R v W → Calls Try.prog 29 #[.pointer (some ⟨B, 0, none⟩), .agg (frmC F)] W (AddPost B v err R' W)) ∧
      (∀ B v vl W, IsRR B (simR R c) v vl W → Calls Try.prog 30 #[.pointer (some ⟨B, 0, none⟩), .agg (frmC F)] W (RAddPost B v vl err (simR R' c') W)) := by
  by_cases hb : badFrame F.ty F.seq F.ret F.cid
  · exact ⟨2, R, c, hG, by omega, fun B v W hR => (add_arg B W F.ty (F.v 1) (F.v 2) (F.v 3) (F.v 4) (F.v 5) (F.v 6) (F.v 7) (F.v 8) (F.v 9) F.seq F.ret F.cid hb).mono fun e w' h => same_add hR h,
      fun B v vl W hX => (radd_arg B W F.ty (F.v 1) (F.v 2) (F.v 3) (F.v 4) (F.v 5) (F.v 6) (F.v 7) (F.v 8) (F.v 9) F.seq F.ret F.cid hb).mono fun e w' h => same_radd hX h⟩
  · have h1 : F.ty = 24 := Classical.byContradiction fun h => hb (.inl h)
    have h2 : F.cid.size = 8 := Classical.byContradiction fun h => hb (.inr (.inl h))
    have h3 : 0 ≤ F.ret := Int.not_lt.1 fun h => hb (.inr (.inr (.inl h)))
    have h4 : F.ret ≤ F.seq := Int.not_lt.1 fun h => hb (.inr (.inr (.inr h)))
    clear hb
    have e24 : (.agg (frmC F) : Value) = frameA 24 (F.v 1) (F.v 2) (F.v 3) (F.v 4) (F.v 5) (F.v 6) (F.v 7) (F.v 8) (F.v 9) F.seq F.ret F.cid := congrArg (fun t : Int => (.agg #[.int .i64 t, F.v 1, F.v 2, F.v 3, F.v 4, F.v 5, F.v 6, F.v 7, F.v 8, F.v 9, .int .i64 F.seq, .int .i64 F.ret, .string F.cid] : Value)) h1
    by_cases h5 : 32 ≤ F.seq
    · refine ⟨71, R, c, hG, by omega, fun B v W hR => ?_, fun B v vl W hX => ?_⟩
      · rw [e24]
        exact (add_limit B W (F.v 1) (F.v 2) (F.v 3) (F.v 4) (F.v 5) (F.v 6) (F.v 7) (F.v 8) (F.v 9) F.seq F.ret F.cid h2 h3 h4 h5).mono fun e w' h => same_add hR h
      · rw [e24]
        exact (radd_limit B W (F.v 1) (F.v 2) (F.v 3) (F.v 4) (F.v 5) (F.v 6) (F.v 7) (F.v 8) (F.v 9) F.seq F.ret F.cid h2 h3 h4 h5).mono fun e w' h => same_radd hX h
    · obtain ⟨s, hs⟩ : ∃ s : Nat, F.seq = (s : Int) := ⟨F.seq.toNat, by omega⟩
      obtain ⟨r, hr⟩ : ∃ r : Nat, F.ret = (r : Int) := ⟨F.ret.toNat, by omega⟩
      have hs32 : s < 32 := by omega
      have hrs : r ≤ s := by omega
      obtain ⟨c', hadd, hG', hlen'⟩ := add_sim R c hG s r F.cid hs32 hrs
      refine ⟨(R.add s r F.cid).1, (R.add s r F.cid).2, c', hG', hlen', fun B v W hR => ?_, fun B v vl W hX => ?_⟩
      · rw [e24]
        cases hf : R.ent.fits s F.cid with
        | false =>
          rw [fits_70 hf]
          exact (add_unfit B R v W hR (F.v 1) (F.v 2) (F.v 3) (F.v 4) (F.v 5) (F.v 6) (F.v 7) (F.v 8) (F.v 9) s r F.seq F.ret hs hr F.cid h2 hrs hs32 hf).mono fun e w' h => same_add hR h
        | true => exact add_main B R v W hR (F.v 1) (F.v 2) (F.v 3) (F.v 4) (F.v 5) (F.v 6) (F.v 7) (F.v 8) (F.v 9) s r F.seq F.ret hs hr F.cid h2 hrs hs32 hf hG.bd (by omega)
      · rw [e24]
        have hm := radd_main B (simR R c) v vl W hX (F.v 1) (F.v 2) (F.v 3) (F.v 4) (F.v 5) (F.v 6) (F.v 7) (F.v 8) (F.v 9) s r F.seq F.ret hs hr F.cid h2 hrs hs32 (good_pos hG) (ents_len R.ent) (by have := hG.bd; show R.ent.bound < 1000; omega) (by show R.left.length + 40 ≤ 1000000; omega)
        rw [hadd] at hm
        exact hm

theorem first_at {p : EE → Bool} : ∀ {es : List EE}, es.any p = true → ∃ (i : Nat) (e : EE), es[i]? = some e ∧ p e = true ∧ ∀ k e', k < i → es[k]? = some e' → p e' = false
  | [], h => by cases h
  | x :: es, h => by
    cases hx : p x with
    | true => exact ⟨0, x, rfl, hx, fun k e' hk => absurd hk (Nat.not_lt_zero _)⟩
    | false =>
      rw [List.any_cons, hx, Bool.false_or] at h
      obtain ⟨i, e, h1, h2, h3⟩ := first_at h
      refine ⟨i + 1, e, by simpa using h1, h2, fun k e' hk hke => ?_⟩
      cases k with
      | zero =>
        obtain rfl : x = e' := by simpa using hke
        exact hx
      | succ k => exact h3 k e' (by omega) (by simpa using hke)

/-- Rotate on both sides. -/
theorem rot_both (R : Rem) (c : Nat) (hG : Good R.ent c) (hlen : R.left.length + 64 ≤ 1000000) :
    ∃ (err : Int) (R' : Rem) (c' : Nat), Good R'.ent c' ∧ R'.left.length ≤ R.left.length + 32 ∧
      (∀ B v W, IsRem B R v W → Calls Try.prog 23 #[.pointer (some ⟨B, 0, none⟩)] W (AddPost B v err R' W)) ∧
      (∀ B v vl W, IsRR B (simR R c) v vl W → Calls Try.prog 24 #[.pointer (some ⟨B, 0, none⟩)] W (RAddPost B v vl err (simR R' c') W)) := by
  have hlive := live_simR hG
  have hle : (simR R c).es.length ≤ 64 := Nat.le_trans (ents_len R.ent) (by decide)
  by_cases hu : hits (R.ent.isIn 1) 32 = []
  · refine ⟨70, R, c, hG, by omega, fun B v W hR => (rotate_no B R v W hR hu).mono fun e w' h => same_add hR ⟨h.1, h.2⟩, fun B v vl W hX => (rrotate_no B (simR R c) v vl W hX hle (by rw [hlive, hu]; rfl)).mono fun e w' h => same_radd hX ⟨h.1, by rw [← h.2]; exact Below.refl _ _⟩⟩
  · have hany : (ents R.ent).any (fun e => e.seq == c) = true := by
      have := ents_known R.ent c R.ent.bound R.left c hG.lt
      have h2 : R.ent.st c = 2 := (hG.cur c hG.lt).2 rfl
      rw [h2] at this
      exact this
    obtain ⟨i, e, he, hp, hno⟩ := first_at hany
    obtain ⟨c', hturn, hG', hl'⟩ := turn_sim R c hG i e he (by simpa using hp) hu
    refine ⟨0, R.rotate, c', hG', by omega, fun B v W hR => rotate_yes B R v W hR (by omega) hu, fun B v vl W hX => ?_⟩
    rw [← hturn]
    exact rrotate_yes B (simR R c) v vl i e W hX he (beq_iff_eq.1 hp) (fun k e' hk hke => beq_eq_false_iff_ne.1 (hno k e' hk hke)) hle (by show R.left.length + 1 ≤ 1000000; omega) (by rw [hlive]; intro e; exact hu (List.eq_nil_of_length_eq_zero (by omega)))

/-! ### Where the law stands -/
structure RMAt (B Br : Nat) (R : Rem) (X : RR) (v vr vl : Value) (w W : World) : Prop where
  rem : IsRem B R v W
  ref : IsRR Br X vr vl W
  vw : ∀ g, v.ownBlock = some g → w.heap.size ≤ g
  nr : ∀ g, vr.ownBlock = some g → w.heap.size ≤ g
  nl : ∀ g, vl.ownBlock = some g → w.heap.size ≤ g
  ne : ∀ g, v.ownBlock = some g → ¬ (vl.ownBlock = some g)
  below : Below w.heap.size w W

section
variable {B Br : Nat} {R R' : Rem} {X X' : RR} {v v' vr vl : Value} {w W W' : World}
theorem RMAt.of_below (h : RMAt B Br R X v vr vl w W) (hb : Below W.heap.size W W') : RMAt B Br R X v vr vl w W' := ⟨h.rem.below hb, h.ref.below hb, h.vw, h.nr, h.nl, h.ne, below_then h.below hb⟩
theorem RMAt.alloc (h : RMAt B Br R X v vr vl w W) (o : Obj) : RMAt B Br R X v vr vl w (W.alloc o) := h.of_below ((Below.refl _ _).alloc (Nat.le_refl _) _)
theorem RMAt.drew (h : RMAt B Br R X v vr vl w W) : RMAt B Br R X v vr vl w W.drew := h.of_below (Below.refl _ _).drew
theorem RMAt.drewN (h : RMAt B Br R X v vr vl w W) (n : Nat) : RMAt B Br R X v vr vl w (W.drewN n) := h.of_below (below_drewN (Below.refl _ _) n)
theorem RMAt.neB (h : RMAt B Br R X v vr vl w W) : B ≠ Br := fun e => by
  have h1 : W.heap[B]? = _ := h.rem.blk
  have h2 := h.ref.blk
  rw [← e, h1] at h2
  injection h2 with h3
  injection h3 with _ h4
  exact absurd h4 (by decide)
theorem RMAt.setRem (h : RMAt B Br R X v vr vl w W) (hB : w.heap.size ≤ B) (hR : IsRem B R' v' W') (ho : OldOrNew v v' W.heap.size) (hk : Keeps (fun i => i = B ∨ v.ownBlock = some i) W W') : RMAt B Br R' X v' vr vl w W' := by
  refine ⟨hR, h.ref.keeps hk (fun e => e.elim (fun e => h.neB e.symm) (fun e => row_type h.rem.own Br _ h.ref.blk (by decide) e)) (fun g hg e => e.elim (fun e => h.rem.blk.ne_row (by decide) h.ref.own g hg e) (fun e => rows_ne h.ref.own h.rem.own (by decide) g hg e)) (fun g hg e => e.elim (fun e => h.rem.blk.ne_row (by decide) h.ref.lft g hg e) (fun e => h.ne g e hg)), fun g hg => ?_, h.nr, h.nl, fun g hg e => ?_, hk.below h.below (fun i e => e.elim (fun e => by rw [e]; exact hB) (h.vw i)) h.below.size⟩
  · rcases ho g hg with e | e
    · exact h.vw g e
    · exact Nat.le_trans h.below.size e
  · rcases ho g hg with e1 | e1
    · exact h.ne g e1 e
    · have := own_lt h.ref.lft g e; omega
theorem RMAt.setRef (h : RMAt B Br R X v vr vl w W) (hB : w.heap.size ≤ Br) (hc : ChgRR Br X' vr vl W W') : ∃ vr' vl', RMAt B Br R X' v vr' vl' w W' := by
  obtain ⟨vr', vl', hX, h1, h2, hk⟩ := hc
  refine ⟨vr', vl', h.rem.kept hk (fun e => ?_) (fun g hg e => ?_), hX, h.vw, fun g hg => ?_, fun g hg => ?_, fun g hg e => ?_, hk.below h.below (fun i e => ?_) h.below.size⟩
  · rcases e with e | e | e
    · exact h.neB e
    · exact h.rem.blk.ne_row (by decide) h.ref.own _ e rfl
    · exact h.rem.blk.ne_row (by decide) h.ref.lft _ e rfl
  · rcases e with e | e | e
    · exact row_type h.rem.own Br _ h.ref.blk (by decide) (by rw [← e]; exact hg)
    · exact rows_ne h.rem.own h.ref.own (by decide) g hg e
    · exact h.ne g hg e
  · rcases h1 g hg with e | e
    · exact h.nr g e
    · exact Nat.le_trans h.below.size e
  · rcases h2 g hg with e | e
    · exact h.nl g e
    · exact Nat.le_trans h.below.size e
  · rcases h2 g e with e1 | e1
    · exact h.ne g hg e1
    · have := own_lt h.rem.own g hg; omega
  · rcases e with e | e | e
    · rw [e]; exact hB
    · exact h.nr i e
    · exact h.nl i e
end

/-- A frame's block, written whole. -/
theorem frame_set (W : World) (g : Nat) (FA FB : Array Value) (hA : FA.size = 13) (hB : FB.size = 13) (h : W.heap[g]? = some (.cells FA 42 (0, 0))) :
    (W.setCells g 0 FB.toList).heap[g]? = some (.cells FB 42 (0, 0)) ∧ Only g W (W.setCells g 0 FB.toList) := by
  have e : ∀ A : Array Value, A.size = 13 → rowOf 13 (fun k => A.getD k undef) = A := fun A hA => by
    apply Array.ext_getElem?
    intro i
    by_cases hi : i < 13
    · rw [rowOf_get _ _ _ hi, Array.getD_eq_getD_getElem?, Array.getElem?_eq_getElem (by omega)]; rfl
    · rw [Array.getElem?_eq_none (by simp [rowOf]; omega), Array.getElem?_eq_none (by omega)]
  have hb : Blk g 13 (fun k => FA.getD k undef) 42 W := by unfold Blk; rw [e FA hA]; exact h
  have h2 := setCells_blk 13 0 (fun k => FB.getD k undef) _ _ hb
  have e3 : (List.range 13).map (fun k => FB.getD k undef) = FB.toList := by have := congrArg Array.toList (e FB hB); exact this
  rw [e3] at h2
  refine ⟨?_, h2.2⟩
  have h3 := h2.1.congr (g := fun k => FB.getD k undef) (fun j hj => by unfold updR; rw [if_pos (by omega)]; simp)
  unfold Blk at h3
  rw [e FB hB] at h3
  exact h3

theorem frame_there (W : World) (g : Nat) (FA : Array Value) (hA : FA.size = 13) (h : W.heap[g]? = some (.cells FA 42 (0, 0))) : W.there g 0 13 := fun j hj => by
  rw [cell_of_heap h, Nat.zero_add, Array.getElem?_eq_getElem (by omega)]
  exact ⟨rfl, free_of_heap h _⟩

theorem size_frame : (Try.prog.info? 42).map (·.size) = some 13 := by kernel_rfl

theorem frmC_one (F : Call7) (h : F.one) : (frmC F).all (·.oneCell') = true := by
  have h1 := h 1 (by decide) (by decide)
  have h2 := h 2 (by decide) (by decide)
  have h3 := h 3 (by decide) (by decide)
  have h4 := h 4 (by decide) (by decide)
  have h5 := h 5 (by decide) (by decide)
  have h6 := h 6 (by decide) (by decide)
  have h7 := h 7 (by decide) (by decide)
  have h8 := h 8 (by decide) (by decide)
  have h9 := h 9 (by decide) (by decide)
  have a0 : ∀ z, (Value.int .i64 z).oneCell' = true := fun _ => rfl
  have a1 : ∀ z, (Value.string z).oneCell' = true := fun _ => rfl
  simp [h1, h2, h3, h4, h5, h6, h7, h8, h9, a0, a1]

end Go.Proofs.Ytmdfpknhfkgfoaa
