/- The contract of cid.Remote.Rotate: the walk. -/
import Derived.Test.YtmdfpknhfkgfoaaRem5
import Derived.Test.YtmdfpknhfkgfoaaRound
namespace Go.Proofs.Ytmdfpknhfkgfoaa
open Go.RowKit Go.Shelf

attribute [local go_sem] Oper.semAt_some

/-- An append whose run is known, as one step of a region inside a fence. -/
theorem stepIn_append {F : Fence} {n : Nat} {P : Program} {ops : Array Oper} {o : Oper} {a : Act} {w w3 : World} {K : Act → World → Prop} {Q : Exit → Act → World → Prop} {E : Prop} {v2 : Value} (hgd : o.guard = none) (s x : Operand) (t : TypeId)
    (ho : o.op = .call { callee := .builtin .append, args := #[s, x], argTypes := #[t, t] })
    {v u : Value} (hs : a.eval s = v) (hx : a.eval x = u) (hr : (Builtin.append_ #[t, t] o.type #[v, u]).run P w = .ok v2 w3) (h : K (a.put o.dst v2) w3) :
    if Region.wanted o (yielded ops a.tmps) = true then Oper.wpIn F n P o a w K Q else E := by
  have hw : Region.wanted o (yielded ops a.tmps) = true := by simp [Region.wanted, hgd]
  rw [if_pos hw]
  unfold Oper.wpIn
  refine ⟨?_, ?_⟩
  · simp [Oper.about, ho, resolve, Target.leads]
  · rw [Oper.semAt_plain F _ _ (by rw [ho]; intro c hc'; cases hc')]
    simp [execOp, ho, resolve, invoke, builtin, hs, hx, hr, Result.andThen]
    exact h

/-- The oldest unused ID becomes current. -/
def Ent.adv (E : Ent) : Ent := match (hits (E.isIn 1) 32).head? with | some x => E.setSt x.val 2 | none => E

theorem rem_adv {B : Nat} {R : Rem} {v : Value} {w w' : World} {e : Ending} (hR : IsRem B R v w) (h : AdvPost B 0 66 (R.at v) 84 R.ent w e w') : IsRem B { R with ent := R.ent.adv } v w' := by
  have hne := hR.blk.ne_row (e := 3) (by decide) hR.own
  refine ⟨?_, ownsRow_keeps hR.own h.1 hne⟩
  rcases h.2 with ⟨h1, _, h2⟩ | ⟨x, h1, _, h2⟩
  · have : R.ent.adv = R.ent := by unfold Ent.adv; rw [h1]; rfl
    rw [this]; exact h2
  · have hx := x.isLt
    have : R.ent.adv = R.ent.setSt x.val 2 := by unfold Ent.adv; rw [h1]
    rw [this]
    refine h2.congr ?_
    intro j hj
    by_cases e : j = 65
    · subst e
      have : ¬ (65 = 0 + 32 + x.val) := by omega
      simp [upd, Rem.at, this]
    · have h1 : j < 65 := by omega
      have := R.ent.setSt_at 0 x.val 2 hx (R.at v) (fun j hj => by simp [Rem.at, hj]) j h1
      simp only [Nat.zero_add] at this ⊢
      refine (Eq.trans ?_ this).trans ?_
      · rfl
      · simp [Rem.at, h1]

theorem IsRem.alloc {B : Nat} {R : Rem} {v : Value} {w : World} (h : IsRem B R v w) (o : Obj) : IsRem B R v (w.alloc o) := h.below ((Below.refl _ _).alloc (Nat.le_refl _) _)
theorem IsRem.drew {B : Nat} {R : Rem} {v : Value} {w : World} (h : IsRem B R v w) : IsRem B R v w.drew := h.below (Below.refl _ _).drew

def Rem.rotate (R : Rem) : Rem := { ent := (R.rot (hits (R.ent.isIn 2) 32)).ent.adv, left := (R.rot (hits (R.ent.isIn 2) 32)).left }

def ChgPost (B : Nat) (R' : Rem) (v : Value) (w w' : World) : Prop := ∃ v', IsRem B R' v' w' ∧ OldOrNew v v' w.heap.size ∧ Keeps (fun k => k = B ∨ v.ownBlock = some k) w w'

def RotPost (B : Nat) (R' : Rem) (v : Value) (w : World) (e : Ending) (w' : World) : Prop := e = .returned (.int .i64 0) ∧ ChgPost B R' v w w'

set_option maxRecDepth 100000 in
set_option maxHeartbeats 2000000 in
theorem rotate_in (B : Nat) (R : Rem) (v : Value) (w : World) (hR : IsRem B R v w) (hl : R.left.length + 32 ≤ 1000000) (hu : hits (R.ent.isIn 1) 32 ≠ []) :
    CallsIn Fence.wide 3 Try.prog 23 #[.pointer (some ⟨B, 0, none⟩)] w (RotPost B R.rotate v w) := by
  have HR := Lib.hid hR; clear hR
  have hbl := HR.out.blk.lt
  have hvl := own_lt HR.out.own
  have h0 : (((hits (R.ent.isIn 1) 32).length : Int) == 0) = false := by
    rw [beq_eq_false_iff_ne]; intro e; exact hu (List.eq_nil_of_length_eq_zero (by omega))
  clear hu
  have hmx : Try.prog.follows .mixedOrders = true := by kernel_rfl
  refine callsIn_of_wp_marks Try.func23 rfl trivial ?_ rfl
  simp only [Try.ntmps23, List.size_toArray, List.length_cons, List.length_nil, Nat.reduceAdd, Nat.reduceSub, Array.replicate_succ, Array.replicate_zero, List.push_toArray, List.append_toArray, List.nil_append, List.cons_append]
  gi_wp2_with (refine ⟨trivial, ?_⟩; first
    | (gi_at_call 55; refine (callsIn_wide.2 (count_any B 0 1 66 _ _ R.ent _ (HR.out.alloc _).ent)).mono ?_; rintro e w1 ⟨rfl, hb1⟩; have bE : Boxed w1 w.heap.size 34 (.pointer (some ⟨B, 0, none⟩)) := (hb1.block _ (by simp)).trans (Boxed.new w 34 (.pointer (some ⟨B, 0, none⟩))); have cE := bE.cell)
    | (gi_at_call 56; refine (callsIn_wide.2 (in_any _ 2 _ ⟨_, rfl⟩)).mono ?_; rintro e w' ⟨rfl, rfl⟩))
  have HR1 := Lib.hid ((HR.out.alloc (.cells #[.pointer (some ⟨B, 0, none⟩)] 34)).below hb1)
  have hs1 : w.heap.size + 1 ≤ w1.heap.size := by have := hb1.size; simpa using this
  have hk1 : Keeps (fun k => k = B ∨ v.ownBlock = some k) w w1 := ((Keeps.refl _ w).alloc _).trans (Keeps.of_below hb1)
  have hneE : ¬ (B = w.heap.size) := by omega
  have hneE' : ¬ (w.heap.size = B) := by omega
  refine wpIn_rangeFunc_ownG rfl (by decide) (gf := 72) (lb := #[.pointer (some ⟨w1.heap.size, 0, none⟩), .pointer (some ⟨w1.heap.size + 1, 0, none⟩)]) rfl trivial (enters_of Try.func72 (by kernel_rfl) rfl)
    (in_stops Fence.wide 2 trivial rfl (by decide) w1.heap.size (w1.heap.size + 1) B 0 2 66 (R.at v) 84 R.ent _ (by simp) (by simp; omega) (by simp [go_sem]) (by simp [go_sem]) ((HR1.out.blk.alloc _).alloc _) (by omega) HR1.out.ent.st) KeepB.t (KeepB.b (by simp)) (Below.refl _ _) (fun _ => rfl)
    (fun pre W => ∃ v', IsRem B (R.rot pre) v' W ∧ Boxed W w.heap.size 34 (.pointer (some ⟨B, 0, none⟩)) ∧ OldOrNew v v' (w1.heap.size + 2) ∧ Keeps (fun k => k = B ∨ v.ownBlock = some k) w W ∧ w1.heap.size + 2 ≤ W.heap.size)
    (fun _ _ _ => False)
    (fun s A C row hs hg hr => by
      obtain ⟨v', h1, h2, h3, h4, h5⟩ := hs
      exact ⟨v', ownFrom_rem (R := fun (_ : Unit) => R.rot s) () A C row h1 hg hr, (Own.from (boxed_own' (β := Unit) _ _ _) _) () A C row h2 hg hr, h3, ownFrom_keeps (β := Unit) (by simp; omega) () A C row h4 hg hr, Nat.le_trans h5 hg.size⟩)
    (fun _ _ _ _ _ hs _ _ => hs)
    ⟨v, by rw [R.rot_nil]; exact (HR1.out.alloc _).alloc _, (bE.alloc _).alloc _, OldOrNew.refl _ _, (hk1.alloc _).alloc _, by simp⟩
    (fun x => { tmps := #[.pointer (some ⟨B, 0, none⟩), .pointer (some ⟨w.heap.size, 0, none⟩), .int .i64 0, .int .i64 (x.val : Int), .pointer (some ⟨B, 0, none⟩), .bool false, .pointer (some ⟨B, 0, none⟩), .pointer (some ⟨B, 0, none⟩), .pointer (some ⟨B, 0, none⟩), .int .i64 (hits (R.ent.isIn 1) 32).length, .bool false, .pointer (some ⟨B, 0, none⟩), .pointer (some ⟨B, 0, none⟩), .pointer (some ⟨B, 0, none⟩), .func (.func 72) #[] #[.pointer (some ⟨w1.heap.size, 0, none⟩), .pointer (some ⟨w1.heap.size + 1, 0, none⟩)], .int .i64 (x.val : Int), undef, undef, undef, undef, undef, undef, undef, undef, undef, undef, undef, undef, undef, undef, undef, undef, undef, undef, undef, undef], defers := [] }) ?assign ?body ?done ?stop
  case assign =>
    intro l x W K hK
    gi_wp2
    exact hK
  case body =>
    rintro l pre x W ⟨v', hR', hv, hold, hk, hsz⟩ hlt
    have hx := x.isLt
    obtain ⟨v2, w3, hrun, hp⟩ := push_rem B (R.rot pre) v' x.val hx W hR' (by rw [R.rot_len]; omega)
    obtain ⟨g2, cap2, rfl⟩ := hp.shape
    have HP := Lib.hid hp; clear hp
    unfold rotW at hrun
    have hW := hk.size
    have hc := hv.cell
    have hcx := hR'.blk.cell (32 + x.val) (by omega)
    have hfx := hR'.blk.free (32 + x.val)
    have hx1 : (x.val : Int) < 32 := by omega
    have hb1' := (hR'.blk.set (32 + x.val) (.int .i64 3)).drew
    have c65 := hb1'.cell 65 (by decide)
    have c65' := ((hR'.blk.set (32 + x.val) (.int .i64 3)).alloc (.cells #[.int .i64 (x.val : Int)] 3)).drew.cell 65 (by decide)
    have hat : upd ((R.rot pre).at v') (32 + x.val) (.int .i64 3) 65 = v' := by
      have : ¬ (65 = 32 + x.val) := by omega
      simp [upd, Rem.at, this]
    rw [hat] at c65 c65'
    have hv1 : Boxed (W.setCell ⟨B, 32 + x.val, none⟩ (.int .i64 3)).drew w.heap.size 34 (.pointer (some ⟨B, 0, none⟩)) := (Below.heap_setCell W _ _ _ hneE').trans hv
    have ce1 := hv1.cell
    have hvb : w.heap.size < W.heap.size := by
      have : W.heap[w.heap.size]? = some _ := hv
      exact (Array.getElem?_eq_some_iff.1 this).1
    have hve : ¬ (v'.ownBlock = some w.heap.size) := by
      intro e
      rcases hold _ e with h | h
      · have := hvl _ h; omega
      · omega
    have hv3 : Boxed w3 w.heap.size 34 (.pointer (some ⟨B, 0, none⟩)) := (HP.out.keeps.block _ hvb (fun e => e.elim hneE' hve)).trans hv
    have ce3 := hv3.cell
    have c65w := HP.out.blk.cell 65 (by decide)
    have f65w := HP.out.blk.free 65
    clear hb1' hv1
    have hs1' : ¬ (v'.ownBlock = some (w1.heap.size + 1)) := by
      intro e
      rcases hold _ e with h | h
      · have := hvl _ h; omega
      · omega
    have hsB : ¬ (w1.heap.size + 1 = B) := by omega
    have hfin := Lib.hid (show KeepsFrom _ W (w3.setCell ⟨B, 65, none⟩ (.slice (some ⟨g2, 0, none⟩) ((R.rot pre).left.length + 1) cap2)) ∧ KeepB (w1.heap.size + 1) W (w3.setCell ⟨B, 65, none⟩ (.slice (some ⟨g2, 0, none⟩) ((R.rot pre).left.length + 1) cap2)) ∧ _ from
      ⟨(HP.out.others.trans (KeepsOthers.setCell _ _ _)).from ((w1.alloc (.cells #[.pointer (some ⟨B, 0, none⟩)] 116)).alloc (.cells #[.int .i64 2] 3)).heap.size, (Below.heap_setCell w3 ⟨B, 65, none⟩ _ _ hsB).trans (HP.out.keeps.block _ (by omega) (fun e => e.elim hsB hs1')),
        (⟨_, by rw [R.rot_snoc]; exact HP.out.rem, (Below.heap_setCell w3 ⟨B, 65, none⟩ _ _ hneE').trans hv3, hold.trans HP.out.old hsz, (hk.then HP.out.keeps (fun i hi e => e.elim .inl (fun e => (hold i e).elim .inr (fun h => absurd hi (by omega))))).setCell (.inl (.inl rfl)), Nat.le_trans hsz (Nat.le_trans HP.out.keeps.size (by simp))⟩ :
          ∃ v', IsRem B (R.rot (pre ++ [x])) v' (w3.setCell ⟨B, 65, none⟩ (.slice (some ⟨g2, 0, none⟩) ((R.rot pre).left.length + 1) cap2)) ∧ Boxed (w3.setCell ⟨B, 65, none⟩ (.slice (some ⟨g2, 0, none⟩) ((R.rot pre).left.length + 1) cap2)) w.heap.size 34 (.pointer (some ⟨B, 0, none⟩)) ∧ OldOrNew v v' (w1.heap.size + 2) ∧ Keeps (fun k => k = B ∨ v.ownBlock = some k) w (w3.setCell ⟨B, 65, none⟩ (.slice (some ⟨g2, 0, none⟩) ((R.rot pre).left.length + 1) cap2)) ∧ w1.heap.size + 2 ≤ (w3.setCell ⟨B, 65, none⟩ (.slice (some ⟨g2, 0, none⟩) ((R.rot pre).left.length + 1) cap2)).heap.size)⟩)
    clear hs1' hsB hold hk hve hv3 hR' HP HR1 HR hk1 hs1 hvl hlt hat hl hb1
    gi_wp2
    refine wpIn_region_any hmx ?_
    refine wpAnyIn_inRound rfl (by kernel_rfl) _ _ _ _ ?_
    try (change wpAnyIn _ _ _ _ _ _ _ _ _ (World.drew _))
    repeat' (first
      | with_reducible exact AllReadyIn.nil
      | ((with_reducible refine AllReadyIn.cons (i := 7) rfl (fun K hK => ?_) ?_); refine stepIn_append rfl (.tmp 26) (.tmp 28) 47 rfl rfl rfl hrun (hK _ _ ?_); clear hK K)
      | ((with_reducible refine AllReadyIn.cons rfl (fun K hK => ?_) ?_); go_simp; first | (refine hK _ _ ?_; clear hK K) | (gi_wp2; refine hK _ _ ?_; clear hK K))
      | ((with_reducible show wpAnyIn _ _ _ _ _ _ _ _ _ _); refine wpAnyIn_done (by decide +kernel) ?_ _)
      | ((with_reducible show wpAnyIn _ _ _ _ _ _ _ _ _ _); refine wpAnyIn_take (i := 5) (v := ?_) rfl rfl (by kernel_rfl) (by decide +kernel) (by decide +kernel) (fun _ _ _ h => h) ⟨Or.inl ⟨by rfl, ?_⟩, fun _ => rfl⟩ ?_; rotate_left 1; focus (intro w; go_simp <;> with_reducible rfl))
      | ((with_reducible show wpAnyIn _ _ _ _ _ _ _ _ _ _); refine wpAnyIn_take (i := 2) (v := ?_) rfl rfl (by kernel_rfl) (by decide +kernel) (by decide +kernel) (fun _ _ _ h => h) ⟨Or.inl ⟨by rfl, ?_⟩, fun _ => rfl⟩ ?_; rotate_left 1; focus (intro w; go_simp <;> with_reducible rfl))
      | ((with_reducible show wpAnyIn _ _ _ _ _ _ _ _ _ _); refine wpAnyIn_take (i := 3) (v := ?_) rfl rfl (by kernel_rfl) (by decide +kernel) (by decide +kernel) (fun _ _ _ h => h) ⟨Or.inl ⟨by rfl, ?_⟩, fun _ => rfl⟩ ?_; rotate_left 1; focus (intro w; go_simp <;> with_reducible rfl))
      | ((with_reducible show wpAnyIn _ _ _ _ _ _ _ _ _ _); refine wpAnyIn_take (i := 8) (v := ?_) rfl rfl (by kernel_rfl) (by decide +kernel) (by decide +kernel) (fun _ _ _ h => h) ⟨Or.inl ⟨by rfl, ?_⟩, fun _ => rfl⟩ ?_; rotate_left 1; focus (intro w; go_simp <;> with_reducible rfl))
      | ((with_reducible show wpAnyIn _ _ _ _ _ _ _ _ _ _); refine wpAnyIn_take (i := 9) (v := ?_) rfl rfl (by kernel_rfl) (by decide +kernel) (by decide +kernel) (fun _ _ _ h => h) ⟨Or.inl ⟨by rfl, ?_⟩, fun _ => rfl⟩ ?_; rotate_left 1; focus (intro w; go_simp <;> with_reducible rfl))
      | ((with_reducible show wpAnyIn _ _ _ _ _ _ _ _ _ _); refine wpAnyIn_ready (rs := [0, 1, 6]) (by decide +kernel) (by simp) ?_)
      | ((with_reducible show wpAnyIn _ _ _ _ _ _ _ _ _ _); refine wpAnyIn_ready (rs := [1, 6]) (by decide +kernel) (by simp) ?_)
      | ((with_reducible show wpAnyIn _ _ _ _ _ _ _ _ _ _); refine wpAnyIn_ready (rs := [0, 4, 6]) (by decide +kernel) (by simp) ?_)
      | ((with_reducible show wpAnyIn _ _ _ _ _ _ _ _ _ _); refine wpAnyIn_ready (rs := [4, 6]) (by decide +kernel) (by simp) ?_)
      | ((with_reducible show wpAnyIn _ _ _ _ _ _ _ _ _ _); refine wpAnyIn_ready (rs := [0, 6]) (by decide +kernel) (by simp) ?_)
      | ((with_reducible show wpAnyIn _ _ _ _ _ _ _ _ _ _); refine wpAnyIn_ready (rs := [6]) (by decide +kernel) (by simp) ?_)
      | ((with_reducible show wpAnyIn _ _ _ _ _ _ _ _ _ _); refine wpAnyIn_ready (rs := [0, 1]) (by decide +kernel) (by simp) ?_)
      | ((with_reducible show wpAnyIn _ _ _ _ _ _ _ _ _ _); refine wpAnyIn_ready (rs := [1]) (by decide +kernel) (by simp) ?_)
      | ((with_reducible show wpAnyIn _ _ _ _ _ _ _ _ _ _); refine wpAnyIn_ready (rs := [0, 4]) (by decide +kernel) (by simp) ?_)
      | ((with_reducible show wpAnyIn _ _ _ _ _ _ _ _ _ _); refine wpAnyIn_ready (rs := [4]) (by decide +kernel) (by simp) ?_)
      | ((with_reducible show wpAnyIn _ _ _ _ _ _ _ _ _ _); refine wpAnyIn_ready (rs := [0, 7]) (by decide +kernel) (by simp) ?_)
      | ((with_reducible show wpAnyIn _ _ _ _ _ _ _ _ _ _); refine wpAnyIn_ready (rs := [7]) (by decide +kernel) (by simp) ?_)
      | ((with_reducible show wpAnyIn _ _ _ _ _ _ _ _ _ _); refine wpAnyIn_ready (rs := [0]) (by decide +kernel) (by simp) ?_)
      | ((with_reducible show wpAnyIn _ _ _ _ _ _ _ _ _ _); refine wpAnyIn_ready (rs := [10]) (by decide +kernel) (by simp) ?_))
    all_goals gi_wp2
    all_goals exact hfin.out
  case done => 
    rintro D ys W hD rfl ⟨v', hR', hv, hold, hk, hsz⟩ hK
    have hc := hv.cell
    gi_wp2_with (refine ⟨trivial, ?_⟩; gi_at_call 57; refine (callsIn_wide.2 (advance_any B 0 66 _ _ _ _ hR'.ent)).mono ?_; rintro e w4 ha; obtain ⟨b4, rfl⟩ : ∃ b, e = .returned (.bool b) := by (rcases ha.2 with ⟨_, h, _⟩ | ⟨_, _, h, _⟩; exact ⟨_, h⟩; exact ⟨_, h⟩))
    have hneD : D ≠ B := by simp at hD; omega
    have hD2 : w1.heap.size + 2 ≤ D := by simp at hD; omega
    have hR4 := rem_adv hR' ha
    have hK4 : w4.heap[D]? = some (.deferred (some [])) := (ha.1.block D (Array.getElem?_eq_some_iff.1 hK).1 hneD).trans hK
    refine ⟨by simp, .inl ⟨_, _, rfl, run_takeDeferred hK4, ?_⟩⟩
    refine ⟨.int .i64 0, by simp [results, Try.results23, go_sem], rfl, v', ?_, ?_, ?_⟩
    · refine hR4.kept (S := fun k => k = D) (Keeps.of_grown (grownBy_putObj' _ D _) (fun k e => by cases e; rfl)) (fun e => hneD e.symm) (fun k hk e => ?_)
      subst e
      have := own_is_cells hR4.own _ _ hk hK4
      cases this
    · intro k hk
      rcases hold k hk with h | h
      · exact .inl h
      · exact .inr (by omega)
    · refine (hk.trans (ha.1.mono (fun _ e => .inl e))).then (Keeps.of_grown (S := fun k => k = D) (grownBy_putObj' _ D _) (fun k e => by cases e; rfl)) (fun i hi e => by subst e; omega)
  case stop =>
    rintro D c pre W _ _ h _
    exact h.elim

theorem rotate_yes (B : Nat) (R : Rem) (v : Value) (w : World) (hR : IsRem B R v w) (hl : R.left.length + 32 ≤ 1000000) (hu : hits (R.ent.isIn 1) 32 ≠ []) :
    Calls Try.prog 23 #[.pointer (some ⟨B, 0, none⟩)] w (RotPost B R.rotate v w) := callsIn_wide.1 (rotate_in B R v w hR hl hu)

end Go.Proofs.Ytmdfpknhfkgfoaa
