/- Contracts of cid.entries: count, advance. -/
import Derived.Test.YtmdfpknhfkgfoaaRem
namespace Go.Proofs.Ytmdfpknhfkgfoaa
open Go.RowKit Go.Shelf

attribute [local go_sem] Oper.semAt_some

/-- The entries E lie in block B from offset o on. -/
structure EntAt (B o : Nat) (E : Ent) (K : Nat) (f : Nat → Value) (tB : TypeId) (w : World) : Prop where
  blk : Blk B K f tB w
  le : o + 65 ≤ K
  val : ∀ j, j < 65 → f (o + j) = E.at j

theorem EntAt.st {B o : Nat} {E : Ent} {K : Nat} {f : Nat → Value} {tB : TypeId} {w : World} (h : EntAt B o E K f tB w) : ∀ j, j < 32 → f (o + 32 + j) = .int .i64 (E.st j) := fun j hj => by
  rw [show o + 32 + j = o + (32 + j) by omega, h.val _ (by omega), E.at_st j hj]

set_option maxRecDepth 100000 in
set_option maxHeartbeats 1000000 in
theorem count_in (B o s K : Nat) (f : Nat → Value) (tB : TypeId) (E : Ent) (w : World) (hE : EntAt B o E K f tB w) :
    CallsIn Fence.wide 3 Try.prog 55 #[.pointer (some ⟨B, o, none⟩), .int .i64 s] w fun e W' => e = .returned (.int .i64 (hits (E.isIn s) 32).length) ∧ Below w.heap.size w W' := by
  have HE := Lib.hid hE; clear hE
  refine callsIn_of_wp_marks Try.func55 rfl trivial ?_ rfl
  simp only [Try.ntmps55, List.size_toArray, List.length_cons, List.length_nil, Nat.reduceAdd, Nat.reduceSub, Array.replicate_succ, Array.replicate_zero, List.push_toArray, List.append_toArray, List.nil_append, List.cons_append]
  gi_wp2_with (refine ⟨trivial, ?_⟩; gi_at_call 56; refine (callsIn_wide.2 (in_any _ s _ ⟨_, rfl⟩)).mono ?_; rintro e w' ⟨rfl, rfl⟩)
  have bO := Boxed.new w 3 (.int .i64 0)
  have hbl := HE.out.blk.lt
  refine wpIn_rangeFunc_ownG rfl (by decide) (gf := 72) (lb := #[.pointer (some ⟨w.heap.size + 1, 0, none⟩), .pointer (some ⟨w.heap.size + 1 + 1, 0, none⟩)]) rfl trivial (enters_of Try.func72 (by kernel_rfl) rfl)
    (in_stops Fence.wide 2 trivial rfl (by decide) (w.heap.size + 1) (w.heap.size + 1 + 1) B o s K f tB E _ (by simp) (by simp) (by simp [go_sem]) (by simp [go_sem]) (((HE.out.blk.alloc _).alloc _).alloc _) (by have := HE.out.le; omega) HE.out.st) KeepB.t (KeepB.b (by simp)) (Below.refl _ _) (fun _ => rfl)
    (fun pre W => (Boxed W w.heap.size 3 (.int .i64 (pre.length : Nat))) ∧ Below w.heap.size w W)
    (fun _ _ _ => False)
    (OwnFrom.and (Own.from (fun s A B row hs hg hr => hs.kept hg (fun e => by obtain ⟨ob, h1, h2⟩ := hr _ e.symm; rw [show A.heap[w.heap.size]? = _ from hs] at h1; cases h1; cases h2)) _) (ownFrom_below (Nat.le_refl _) (by simp; omega)))
    (fun _ _ _ _ _ hs _ _ => hs)
    ⟨(bO.alloc _).alloc _, (((Below.refl _ w).alloc (Nat.le_refl _) _).alloc (by simp) _).alloc (by simp; omega) _⟩
    (fun x => { tmps := #[.pointer (some ⟨B, o, none⟩), .int .i64 s, undef, undef, .pointer (some ⟨w.heap.size, 0, none⟩), .pointer (some ⟨B, o, none⟩), .int .i64 s, .func (.func 72) #[] #[.pointer (some ⟨w.heap.size + 1, 0, none⟩), .pointer (some ⟨w.heap.size + 1 + 1, 0, none⟩)], .int .i64 (x.val : Int), undef, undef, undef], defers := [] }) ?assign ?body ?done ?stop
  case assign =>
    intro l x W K hK
    gi_wp2
    simpa using hK
  case body =>
    rintro l pre x W ⟨hv, hB⟩ hlt
    have hc := hv.cell
    have hf := hv.frozen
    have hs := hB.size
    gi_wp2
    refine ⟨(KeepsOthers.setCell _ _ _).from _, KeepB.setCell _ _ _ _ _ (by omega), ?_, hB.setCell (Nat.le_refl _) _⟩
    rw [List.length_append, List.length_singleton]
    exact hv.set _
  case done =>
    rintro D ys W hD rfl ⟨hv, hB⟩ hK
    have hc := hv.cell
    have hf := hv.frozen
    gi_wp2
    have hK' : (W.setCell ⟨w.heap.size, 0, none⟩ (.int .i64 (hits (E.isIn s) 32).length)).heap[D]? = some (.deferred (some [])) := (Below.heap_setCell W _ _ _ (by simp at hD; show D ≠ w.heap.size; omega)).trans hK
    have hv' := hv.set (.int .i64 (hits (E.isIn s) 32).length)
    have hne : some w.heap.size ≠ some D := by simp at hD; intro h; injection h; omega
    have hc2 := (hv'.kept (grownBy_putObj' _ D (.deferred none)) hne).cell
    refine ⟨by simp, .inl ⟨_, _, rfl, run_takeDeferred hK', ?_⟩⟩
    exact ⟨.int .i64 (hits (E.isIn s) 32).length, by simp [results, Try.results55, go_sem, hc2], rfl, (hB.setCell (p := ⟨w.heap.size, 0, none⟩) (Nat.le_refl _) _).trans (belowK_b (w := w) (Nat.le_refl _) _ D _ _ (by simp at hD; omega) hK' rfl rfl)⟩
  case stop =>
    rintro D c pre W _ _ h _
    exact h.elim

theorem count_any (B o s K : Nat) (f : Nat → Value) (tB : TypeId) (E : Ent) (w : World) (hE : EntAt B o E K f tB w) :
    Calls Try.prog 55 #[.pointer (some ⟨B, o, none⟩), .int .i64 s] w fun e W' => e = .returned (.int .i64 (hits (E.isIn s) 32).length) ∧ Below w.heap.size w W' :=
  callsIn_wide.1 (count_in B o s K f tB E w hE)

theorem blk_own {β : Type} (B K : Nat) (f : Nat → Value) (tB : TypeId) : Own (fun (_ : β) W => Blk B K f tB W) := fun _ A _ _ hs hg hr =>
  hs.kept hg (fun e => by obtain ⟨ob, h1, h2⟩ := hr _ e.symm; rw [show A.heap[B]? = _ from hs] at h1; cases h1; cases h2)
theorem boxed_own' {β : Type} (B : Nat) (t : TypeId) (v : Value) : Own (fun (_ : β) W => Boxed W B t v) := fun _ A _ _ hs hg hr =>
  hs.kept hg (fun e => by obtain ⟨ob, h1, h2⟩ := hr _ e.symm; rw [show A.heap[B]? = _ from hs] at h1; cases h1; cases h2)
theorem ownFrom_keeps {β : Type} {S : Nat → Prop} {w : World} {n : Nat} (hn : w.heap.size ≤ n) : OwnFrom n (fun (_ : β) W => Keeps S w W) := fun _ _ _ _ hs hg hr =>
  hs.then (Keeps.of_grown (S := fun k => n ≤ k) hg (fun k e => (hr k e).1)) (fun _ hi h => absurd hi (Nat.not_lt.2 (Nat.le_trans hn h)))

/-- ID x becomes current. -/
def Ent.setSt (E : Ent) (x v : Nat) : Ent := { E with st := fun j => if j = x then v else E.st j }

theorem Ent.setSt_at (E : Ent) (o x v : Nat) (hx : x < 32) (f : Nat → Value) (hf : ∀ j, j < 65 → f (o + j) = E.at j) : ∀ j, j < 65 → upd f (o + 32 + x) (.int .i64 v) (o + j) = (E.setSt x v).at j := by
  intro j hj
  have h := hf j hj
  simp only [upd]
  by_cases e : j = 32 + x
  · subst e
    rw [if_pos (by omega), (E.setSt x v).at_st x hx]
    simp [Ent.setSt]
  · rw [if_neg (by omega), h]
    unfold Ent.at Ent.setSt
    split
    · rfl
    · split
      · show Value.int IntKind.i64 ↑(E.st (j - 32)) = .int .i64 ((if j - 32 = x then v else E.st (j - 32) : Nat) : Int)
        rw [if_neg (by omega)]
      · rfl

def AdvPost (B o K : Nat) (f : Nat → Value) (tB : TypeId) (E : Ent) (w : World) (e : Ending) (w' : World) : Prop :=
  Keeps (fun k => k = B) w w' ∧ ((hits (E.isIn 1) 32 = [] ∧ e = .returned (.bool false) ∧ Blk B K f tB w') ∨ (∃ x, (hits (E.isIn 1) 32).head? = some x ∧ e = .returned (.bool true) ∧ Blk B K (upd f (o + 32 + x.val) (.int .i64 2)) tB w'))

set_option maxRecDepth 100000 in
set_option maxHeartbeats 1000000 in
theorem advance_in (B o K : Nat) (f : Nat → Value) (tB : TypeId) (E : Ent) (w : World) (hE : EntAt B o E K f tB w) :
    CallsIn Fence.wide 3 Try.prog 57 #[.pointer (some ⟨B, o, none⟩)] w (AdvPost B o K f tB E w) := by
  have HE := Lib.hid hE; clear hE
  have hbl := HE.out.blk.lt
  have hK := HE.out.le
  refine callsIn_of_wp_marks Try.func57 rfl trivial ?_ rfl
  simp only [Try.ntmps57, List.size_toArray, List.length_cons, List.length_nil, Nat.reduceAdd, Nat.reduceSub, Array.replicate_succ, Array.replicate_zero, List.push_toArray, List.append_toArray, List.nil_append, List.cons_append]
  gi_wp2_with (refine ⟨trivial, ?_⟩; gi_at_call 56; refine (callsIn_wide.2 (in_any _ 1 _ ⟨_, rfl⟩)).mono ?_; rintro e w' ⟨rfl, rfl⟩)
  have bE := Boxed.new w 116 (.pointer (some ⟨B, o, none⟩))
  have bO := Boxed.new (w.alloc (.cells #[.pointer (some ⟨B, o, none⟩)] 116)) 4 (.bool false)
  rw [World.size_alloc] at bO
  refine wpIn_rangeFunc_ownG rfl (by decide) (gf := 72) (lb := #[.pointer (some ⟨w.heap.size + 1 + 1, 0, none⟩), .pointer (some ⟨w.heap.size + 1 + 1 + 1, 0, none⟩)]) rfl trivial (enters_of Try.func72 (by kernel_rfl) rfl)
    (in_stops Fence.wide 2 trivial rfl (by decide) (w.heap.size + 1 + 1) (w.heap.size + 1 + 1 + 1) B o 1 K f tB E _ (by simp) (by simp) (by simp [go_sem]) (by simp [go_sem]) ((((HE.out.blk.alloc _).alloc _).alloc _).alloc _) (by omega) HE.out.st) KeepB.t (KeepB.b (by simp)) (Below.refl _ _) (fun _ => rfl)
    (fun pre W => (pre = [] ∧ Boxed W w.heap.size 116 (.pointer (some ⟨B, o, none⟩))) ∧ (Boxed W (w.heap.size + 1) 4 (.bool false) ∧ Blk B K f tB W) ∧ Keeps (fun k => k = B) w W)
    (fun c pre W => (c = .ret ∧ ∃ x, pre = [x] ∧ Blk B K (upd f (o + 32 + x.val) (.int .i64 2)) tB W) ∧ Boxed W (w.heap.size + 1) 4 (.bool true) ∧ Keeps (fun k => k = B) w W)
    (OwnFrom.and (OwnFrom.and (fun _ _ _ _ hs _ _ => hs) (Own.from (boxed_own' _ _ _) _)) (OwnFrom.and (OwnFrom.and (Own.from (boxed_own' _ _ _) _) (Own.from (blk_own _ _ _ _) _)) (ownFrom_keeps (by simp; omega))))
    (fun c => OwnFrom.and (OwnFrom.and (fun _ _ _ _ hs _ _ => hs) (fun s W W' row hs hg hr => by obtain ⟨x, h1, h2⟩ := hs; exact ⟨x, h1, (blk_own (β := Unit) _ _ _ _) () W W' row h2 hg (fun r e => (hr r e).2)⟩)) (OwnFrom.and (Own.from (boxed_own' _ _ _) _) (ownFrom_keeps (by simp; omega))))
    ⟨⟨rfl, ((bE.alloc _).alloc _).alloc _⟩, ⟨(bO.alloc _).alloc _, (((HE.out.blk.alloc _).alloc _).alloc _).alloc _⟩, ((((Keeps.refl _ w).alloc _).alloc _).alloc _).alloc _⟩
    (fun x => { tmps := #[.pointer (some ⟨B, o, none⟩), .pointer (some ⟨w.heap.size, 0, none⟩), .pointer (some ⟨w.heap.size + 1, 0, none⟩), .int .i64 (x.val : Int), .pointer (some ⟨B, o, none⟩), .func (.func 72) #[] #[.pointer (some ⟨w.heap.size + 1 + 1, 0, none⟩), .pointer (some ⟨w.heap.size + 1 + 1 + 1, 0, none⟩)], .int .i64 (x.val : Int), undef, undef, undef, undef, undef], defers := [] }) ?assign ?body ?done ?stop
  case assign =>
    intro l x W K hK
    gi_wp2
    exact hK
  case body =>
    rintro l pre x W ⟨⟨rfl, hv⟩, ⟨hr, hb⟩, hk⟩ hlt
    have hc := hv.cell
    have hrc := hr.cell
    have hrf := hr.frozen
    have hx := x.isLt
    have hcx := hb.cell (o + 32 + x.val) (by omega)
    have hfx := hb.free (o + 32 + x.val)
    have hx1 : (x.val : Int) < 32 := by omega
    have hneB : ¬ (w.heap.size + 1 = B) := by omega
    have hneB' : ¬ (B = w.heap.size + 1) := by omega
    gi_wp2
    have hr2 : Boxed (W.setCell ⟨B, o + 32 + x.val, none⟩ (.int .i64 2)) (w.heap.size + 1) 4 (.bool false) := (Below.heap_setCell W _ _ _ hneB).trans hr
    exact ⟨((KeepsOthers.setCell _ _ _).trans (KeepsOthers.setCell _ _ _)).from _, ⟨rfl, x, rfl, (hb.set _ _).setOther hneB'⟩, hr2.set _, (hk.setCell (.inl rfl)).setCell (.inr (by omega))⟩
  case done =>
    rintro D ys W hD rfl ⟨⟨hnil, hv⟩, ⟨hr, hb⟩, hk⟩ hK
    have hrc := hr.cell
    have hrf := hr.frozen
    gi_wp2
    have hne1 : D ≠ w.heap.size + 1 := by simp at hD; omega
    have hK' : (W.setCell ⟨w.heap.size + 1, 0, none⟩ (.bool false)).heap[D]? = some (.deferred (some [])) := (Below.heap_setCell W _ _ _ hne1).trans hK
    have hr' := hr.set (.bool false)
    have hc2 := (hr'.kept (grownBy_putObj' _ D (.deferred none)) (fun h => hne1 (by injection h with h; exact h.symm))).cell
    have hD1 : w.heap.size ≤ D := by simp at hD; omega
    refine ⟨by simp, .inl ⟨_, _, rfl, run_takeDeferred hK', ?_⟩⟩
    refine ⟨.bool false, by simp [results, Try.results57, go_sem, hc2], ?_, .inl ⟨hnil, rfl, ?_⟩⟩
    · exact (hk.setCell (.inr (by omega))).then (Keeps.of_grown (S := fun k => k = D) (grownBy_putObj' _ D _) (fun k e => by cases e; rfl)) (fun i hi e => by subst e; omega)
    · exact ((hb.setOther (by omega)).kept (grownBy_putObj' _ D _) (fun h => by injection h with h; omega))
  case stop =>
    rintro D c pre W hD hpre ⟨⟨rfl, x, rfl, hb⟩, hr, hk⟩ hK
    have hrc := hr.cell
    have hrf := hr.frozen
    gi_wp2
    have hne1 : D ≠ w.heap.size + 1 := by simp at hD; omega
    have hc2 := (hr.kept (grownBy_putObj' _ D (.deferred none)) (fun h => hne1 (by injection h with h; exact h.symm))).cell
    have hD1 : w.heap.size ≤ D := by simp at hD; omega
    refine ⟨by simp, .inl ⟨_, _, rfl, run_takeDeferred hK, ?_⟩⟩
    refine ⟨.bool true, by simp [results, Try.results57, go_sem, hc2], ?_, .inr ⟨x, ?_, rfl, ?_⟩⟩
    · exact hk.then (Keeps.of_grown (S := fun k => k = D) (grownBy_putObj' _ D _) (fun k e => by cases e; rfl)) (fun i hi e => by subst e; omega)
    · obtain ⟨r, hr⟩ := hpre
      rw [← hr]; rfl
    · exact (hb.kept (grownBy_putObj' _ D _) (fun h => by injection h with h; omega))

theorem advance_any (B o K : Nat) (f : Nat → Value) (tB : TypeId) (E : Ent) (w : World) (hE : EntAt B o E K f tB w) :
    Calls Try.prog 57 #[.pointer (some ⟨B, o, none⟩)] w (AdvPost B o K f tB E w) := callsIn_wide.1 (advance_in B o K f tB E w hE)

end Go.Proofs.Ytmdfpknhfkgfoaa
