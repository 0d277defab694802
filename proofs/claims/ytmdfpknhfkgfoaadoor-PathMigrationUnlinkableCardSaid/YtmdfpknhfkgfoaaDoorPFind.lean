/- path.Paths.find. -/
import Derived.Test.YtmdfpknhfkgfoaaDoorPMod
import Derived.RangeFuncWrites
namespace Go.Proofs.YtmdfpknhfkgfoaaDoor
open Go.RowKit Go.Shelf

attribute [local go_sem] Oper.semAt_some

theorem boxed_own' {β : Type} (B : Nat) (t : TypeId) (v : Value) : Own (fun (_ : β) W => Boxed W B t v) := fun _ A _ _ hs hg hr =>
  hs.kept hg (fun e => by obtain ⟨ob, h1, h2⟩ := hr _ e.symm; rw [show A.heap[B]? = _ from hs] at h1; cases h1; cases h2)

theorem Boxed.otherSet {W : World} {B C j : Nat} {t : TypeId} {v u : Value} (h : Boxed W B t v) (hne : B ≠ C) : Boxed (W.setCell ⟨C, j, none⟩ u) B t v := (Below.heap_setCell W ⟨C, j, none⟩ _ _ hne).trans h

theorem heap_lt {w : World} {b : Nat} {o : Obj} (h : w.heap[b]? = some o) : b < w.heap.size := (Array.getElem?_eq_some_iff.1 h).1
theorem cell_lt {w : World} {b j : Nat} {v : Value} (h : w.cell? ⟨b, j, none⟩ = some v) : b < w.heap.size := by
  unfold World.cell? at h
  apply Classical.byContradiction
  intro hge
  rw [show w.heap[(⟨b, j, none⟩ : Addr).block]? = none from Array.getElem?_eq_none (Nat.not_lt.1 hge)] at h
  cases h

theorem MatAt.keep {Bp Ba B : Nat} {β : Int × Int → Nat} {es : List PE} {v x y : Value} {k : Int × Int} {w W : World} (h : MatAt Bp Ba B β es v x y k w) (hb : KeepN w.heap.size w W) : MatAt Bp Ba B β es v x y k W := by
  refine ⟨?_, (hb _ (heap_lt h.ca)).trans h.ca, (hb _ (heap_lt h.blk)).trans h.blk, ?_, fun e he => (hb _ (heap_lt (h.ent e he))).trans (h.ent e he)⟩
  · rw [World.cell?_of_block (a := ⟨Bp, 0, none⟩) (hb Bp (cell_lt h.cp))]; exact h.cp
  · refine ⟨h.own.1, ?_⟩
    rcases h.own.2 with hn | ⟨g, cap, cur, hv, hbb, hg, rest⟩
    · exact .inl hn
    · exact .inr ⟨g, cap, cur, hv, hbb, (hb g (heap_lt hg)).trans hg, rest⟩

theorem match_stops (F : Fence) (n : Nat) (h6 : F.fn 78) (hro : F.round = none) (hn : 1 ≤ n) (Bp Ba B : Nat) (β : Int × Int → Nat) (es : List PE) (a0 : Option Addr) (cp : Nat) (x y : Value) (k : Int × Int) (hl4 : es.length ≤ 4) (w : World)
    (hM : MatAt Bp Ba B β es (.slice a0 es.length cp) x y k w) :
    SeqStopsK F n Tryd.prog 78 #[.pointer (some ⟨Bp, 0, none⟩), .pointer (some ⟨Ba, 0, none⟩)] (fun b : Nat => #[Value.pointer (some ⟨b, 0, none⟩)]) (KeepN w.heap.size) (fun ys => ys = mts β es k es.length) (fun pre => pre <+: mts β es k es.length) 4 w := fun l J Jx W hW hJ _ hY h0 =>
  match1_in F n h6 hro hn l Bp Ba B w.heap.size β es a0 cp x y k J Jx hY hl4 W (fun W' hW' => hM.keep (fun b hb => (hW' b hb).trans (hW.block b hb))) h0 (fun pre W1 h1 => hJ pre W1 W1.drew none h1 ⟨rfl, rfl, rfl, Nat.le_refl _, fun _ _ _ => rfl⟩ (fun r e => by cases e))

/-- What find gives. -/
def FindPost (o : Option Nat) (err : Value) (w : World) (e : Ending) (w' : World) : Prop := e = .returned (.tuple #[.pointer (o.map fun b => ⟨b, 0, none⟩), err]) ∧ Below w.heap.size w w'

set_option maxRecDepth 100000 in
set_option maxHeartbeats 400000 in
theorem find_nil (aA aP : Addr) (l r : Int) (w : World) (hE : Errs aA aP w) :
    Calls Tryd.prog 46 #[.pointer none, .int .i64 l, .int .i64 r] w (FindPost none (eVal aP) w) := by
  have c0 := hE.pth
  have hs := hE.sz
  have h0 : (0 : Nat) < w.heap.size := by omega
  have HE := Lib.hid hE; clear hE
  go_enter Tryd.func46, Tryd.ntmps46
  go_wp2
  go_region
  go_wp2
  refine bodyPost_ret (v := .tuple #[.pointer none, eVal aP]) (by simp [results, Tryd.results46, go_sem]) rfl ⟨rfl, ?_⟩
  exact (((Below.refl _ w).alloc (Nat.le_refl _) _).alloc (by simp) _).drew

theorem matching_any (v : Value) (l r : Int) (w : World) (hv : ∃ a, v = .pointer a) :
    Calls Tryd.prog 69 #[v, .agg #[.int .i64 l, .int .i64 r]] w fun e w' => e = .returned (.func (.func 78) #[] #[.pointer (some ⟨w.heap.size, 0, none⟩), .pointer (some ⟨w.heap.size + 1, 0, none⟩)]) ∧ (w.alloc (.cells #[v] 23)).alloc (.cells #[.int .i64 l, .int .i64 r] 92) = w' := by
  obtain ⟨a, rfl⟩ := hv
  have hmf : ∀ (fn : Fn) (first cap : Array Value) (w : World), (Instr.makeFunc fn first cap).run Tryd.prog w = .ok (.func fn first cap) w := fun _ _ _ _ => rfl
  go_enter Tryd.func69, Tryd.ntmps69
  go_wp2
  go_ret
  exact ⟨rfl, rfl⟩

theorem MatAt.of_PS {B : Nat} {β : Int × Int → Nat} {S : PS} {v : Value} {w W : World} (h : IsPS B β S v w) (hb : Below w.heap.size w W) {Bp Ba : Nat} {l r : Int} (hp : W.cell? ⟨Bp, 0, none⟩ = some (.pointer (some ⟨B, 0, none⟩))) (ha : W.heap[Ba]? = some (.cells #[.int .i64 l, .int .i64 r] 92 (0, 0))) :
    MatAt Bp Ba B β S.es v (ptrTo β S.act) (prevV β S.prev) (l, r) W :=
  ⟨hp, ha, (hb.block _ (heap_lt h.blk)).trans h.blk, by
    refine ⟨h.own.1, ?_⟩
    rcases h.own.2 with hn | ⟨g, cap, cur, hv, hbb, hg, rest⟩
    · exact .inl hn
    · exact .inr ⟨g, cap, cur, hv, hbb, (hb.block g (heap_lt hg)).trans hg, rest⟩, fun e he => (hb.block _ (heap_lt (h.ent e he))).trans (h.ent e he)⟩

/-- The block of the path with a key. -/
def findB (β : Int × Int → Nat) (es : List PE) (k : Int × Int) : Option Nat := (mts β es k es.length).head?
def findErr (aP : Addr) : Option Nat → Value
  | some _ => .nilIface
  | none => eVal aP

set_option maxRecDepth 100000 in
set_option maxHeartbeats 1000000 in
theorem find_in (aA aP : Addr) (B : Nat) (β : Int × Int → Nat) (S : PS) (v : Value) (l r : Int) (w : World) (hE : Errs aA aP w) (hS : IsPS B β S v w) :
    CallsIn Fence.wide 3 Tryd.prog 46 #[.pointer (some ⟨B, 0, none⟩), .int .i64 l, .int .i64 r] w (FindPost (findB β S.es (l, r)) (findErr aP (findB β S.es (l, r))) w) := by
  obtain ⟨a0, cp0, hv⟩ : ∃ a0 cp0, v = .slice a0 S.es.length cp0 := by
    rcases hS.own.2 with ⟨h1, h2⟩ | ⟨g, cap, cur, hv, _⟩
    · rw [h2]; exact ⟨none, 0, h1⟩
    · exact ⟨_, cap, hv⟩
  subst hv
  have HS := Lib.hid hS; clear hS
  have hs := hE.sz
  have c0 := hE.pth
  have h00 : (0 : Nat) < w.heap.size := by omega
  clear hE
  refine callsIn_of_wp_marks Tryd.func46 rfl trivial ?_ rfl
  simp only [Tryd.ntmps46, List.size_toArray, List.length_cons, List.length_nil, Nat.reduceAdd, Nat.reduceSub, Array.replicate_succ, Array.replicate_zero, List.push_toArray, List.append_toArray, List.nil_append, List.cons_append]
  gi_wp2_with (refine ⟨trivial, ?_⟩; gi_at_call 69; refine (callsIn_wide.2 (matching_any _ l r _ ⟨_, rfl⟩)).mono ?_; rintro e w' ⟨rfl, rfl⟩)
  have bR := Boxed.new w 90 (.pointer none)
  have bE := Boxed.new (w.alloc (.cells #[.pointer none] 90)) 102 .nilIface
  rw [World.size_alloc] at bE
  have hb4 : Below w.heap.size w ((((w.alloc (.cells #[.pointer none] 90)).alloc (.cells #[.nilIface] 102)).alloc (.cells #[.pointer (some ⟨B, 0, none⟩)] 23)).alloc (.cells #[.int .i64 l, .int .i64 r] 92)) :=
    ((((Below.refl _ w).alloc (Nat.le_refl _) _).alloc (by simp) _).alloc (by simp; omega) _).alloc (by simp; omega) _
  have hMat := MatAt.of_PS HS.out hb4 (Bp := w.heap.size + 1 + 1) (Ba := w.heap.size + 1 + 1 + 1) (l := l) (r := r) (by simp [go_sem]) (by
    have := heap_alloc_new (((w.alloc (.cells #[.pointer none] 90)).alloc (.cells #[.nilIface] 102)).alloc (.cells #[.pointer (some ⟨B, 0, none⟩)] 23)) (.cells #[.int .i64 l, .int .i64 r] 92)
    rw [World.size_alloc, World.size_alloc, World.size_alloc] at this
    exact this)
  refine wpIn_rangeFunc_ownG rfl (by decide) (gf := 78) (lb := #[.pointer (some ⟨w.heap.size + 1 + 1, 0, none⟩), .pointer (some ⟨w.heap.size + 1 + 1 + 1, 0, none⟩)]) rfl trivial (enters_of Tryd.func78 (by kernel_rfl) rfl)
    (match_stops Fence.wide 2 trivial rfl (by decide) (w.heap.size + 1 + 1) (w.heap.size + 1 + 1 + 1) B β S.es a0 cp0 _ _ (l, r) HS.out.len _ hMat) KeepN.t (KeepN.b (Nat.le_refl _)) (Below.refl _ _) (fun _ => rfl)
    (fun pre W => pre = [] ∧ (Boxed W w.heap.size 90 (.pointer none) ∧ Boxed W (w.heap.size + 1) 102 .nilIface) ∧ Below w.heap.size w W)
    (fun c pre W => (c = .ret ∧ ∃ x, pre = [x] ∧ Boxed W w.heap.size 90 (.pointer (some ⟨x, 0, none⟩))) ∧ Boxed W (w.heap.size + 1) 102 .nilIface ∧ Below w.heap.size w W)
    (OwnFrom.and (fun _ _ _ _ hs _ _ => hs) (OwnFrom.and (OwnFrom.and (Own.from (boxed_own' _ _ _) _) (Own.from (boxed_own' _ _ _) _)) (ownFrom_below (Nat.le_refl _) (by simp; omega))))
    (fun c => OwnFrom.and (OwnFrom.and (fun _ _ _ _ hs _ _ => hs) (fun s W W' row hs hg hr => by obtain ⟨x, h1, h2⟩ := hs; exact ⟨x, h1, (boxed_own' (β := Unit) _ _ _) () W W' row h2 hg (fun r e => (hr r e).2)⟩)) (OwnFrom.and (Own.from (boxed_own' _ _ _) _) (ownFrom_below (Nat.le_refl _) (by simp; omega))))
    ⟨rfl, ⟨((bR.alloc _).alloc _).alloc _, (bE.alloc _).alloc _⟩, hb4⟩
    (fun x => { tmps := #[.pointer (some ⟨B, 0, none⟩), .int .i64 l, .int .i64 r, undef, undef, undef, .pointer (some ⟨w.heap.size, 0, none⟩), .pointer (some ⟨w.heap.size + 1, 0, none⟩), .pointer (some ⟨x, 0, none⟩), .pointer (some ⟨B, 0, none⟩), .bool true, .pointer (some ⟨B, 0, none⟩), .int .i64 l, .int .i64 r, .agg #[.int .i64 l, .int .i64 r], .func (.func 78) #[] #[.pointer (some ⟨w.heap.size + 1 + 1, 0, none⟩), .pointer (some ⟨w.heap.size + 1 + 1 + 1, 0, none⟩)], .pointer (some ⟨x, 0, none⟩), undef, undef], defers := [] }) ?assign ?body ?done ?stop
  case assign =>
    intro l x W K hK
    gi_wp2
    exact hK
  case body =>
    rintro l pre x W ⟨rfl, ⟨hR, hE⟩, hk⟩ hlt
    have c1 := hR.cell
    have f1 := hR.frozen
    have c2 := hE.cell
    have f2 := hE.frozen
    have hne : w.heap.size ≠ w.heap.size + 1 := by omega
    gi_wp2
    exact ⟨((KeepsOthers.setCell _ _ _).trans (KeepsOthers.setCell _ _ _)).from _, ⟨rfl, x, rfl, (Below.heap_setCell _ ⟨w.heap.size + 1, 0, none⟩ _ _ hne).trans (hR.set _)⟩, Boxed.set _ (Boxed.otherSet hE hne.symm), (hk.setCell (p := ⟨w.heap.size, 0, none⟩) (Nat.le_refl _) _).setCell (p := ⟨w.heap.size + 1, 0, none⟩) (by simp) _⟩
  case done =>
    rintro D ys W hD rfl ⟨hnil, ⟨hR, hE⟩, hk⟩ hK
    have c1 := hR.cell
    have f1 := hR.frozen
    have c2 := hE.cell
    have f2 := hE.frozen
    have g0 := (hk.cell (p := ⟨0, 0, none⟩) h00).trans c0
    have hnone : findB β S.es (l, r) = none := by unfold findB; rw [hnil]; rfl
    have Hnone := Lib.hid hnone; clear hnone hnil
    have hD1 : D ≠ w.heap.size + 1 := by simp at hD; omega
    have hD0 : D ≠ w.heap.size := by simp at hD; omega
    have hDle : w.heap.size ≤ D := by simp at hD; omega
    gi_wp2
    gi_region
    gi_wp2
    have hne : w.heap.size ≠ w.heap.size + 1 := by omega
    have hR' : Boxed ((W.setCell ⟨w.heap.size, 0, none⟩ (.pointer none)).setCell ⟨w.heap.size + 1, 0, none⟩ (eVal aP)).drew w.heap.size 90 (.pointer none) := (Below.heap_setCell _ ⟨w.heap.size + 1, 0, none⟩ _ _ hne).trans (hR.set _)
    have hE' : Boxed ((W.setCell ⟨w.heap.size, 0, none⟩ (.pointer none)).setCell ⟨w.heap.size + 1, 0, none⟩ (eVal aP)).drew (w.heap.size + 1) 102 (eVal aP) := Boxed.set _ (Boxed.otherSet hE hne.symm)
    have hK' : ((W.setCell ⟨w.heap.size, 0, none⟩ (.pointer none)).setCell ⟨w.heap.size + 1, 0, none⟩ (eVal aP)).drew.heap[D]? = some (.deferred (some [])) := (Below.heap_setCell _ ⟨w.heap.size + 1, 0, none⟩ _ _ hD1).trans ((Below.heap_setCell W ⟨w.heap.size, 0, none⟩ _ _ hD0).trans hK)
    have k1 := (hR'.kept (grownBy_putObj' _ D (.deferred none)) (fun h => hD0 (by injection h with h; exact h.symm))).cell
    have k2 := (hE'.kept (grownBy_putObj' _ D (.deferred none)) (fun h => hD1 (by injection h with h; exact h.symm))).cell
    refine ⟨by simp, .inl ⟨_, _, rfl, run_takeDeferred hK', ?_⟩⟩
    refine ⟨.tuple #[.pointer none, eVal aP], by simp [results, Tryd.results46, go_sem, k1, k2], ?_, ?_⟩
    · rw [Hnone.out]; rfl
    · exact (((hk.setCell (p := ⟨w.heap.size, 0, none⟩) (Nat.le_refl _) _).setCell (p := ⟨w.heap.size + 1, 0, none⟩) (by simp) _).drew).trans (belowK_b (w := w) (Nat.le_refl _) _ D _ _ hDle hK' rfl rfl)
  case stop =>
    rintro D c pre W hD hpre ⟨⟨rfl, x, rfl, hR⟩, hE, hk⟩ hK
    have c1 := hR.cell
    have c2 := hE.cell
    have hfind : findB β S.es (l, r) = some x := by
      obtain ⟨r2, hr2⟩ := hpre
      unfold findB; rw [← hr2]; rfl
    have Hf := Lib.hid hfind; clear hfind hpre
    have hD1 : D ≠ w.heap.size + 1 := by simp at hD; omega
    have hD0 : D ≠ w.heap.size := by simp at hD; omega
    have hDle : w.heap.size ≤ D := by simp at hD; omega
    gi_wp2
    have k1 := (hR.kept (grownBy_putObj' _ D (.deferred none)) (fun h => hD0 (by injection h with h; exact h.symm))).cell
    have k2 := (hE.kept (grownBy_putObj' _ D (.deferred none)) (fun h => hD1 (by injection h with h; exact h.symm))).cell
    refine ⟨by simp, .inl ⟨_, _, rfl, run_takeDeferred hK, ?_⟩⟩
    refine ⟨.tuple #[.pointer (some ⟨x, 0, none⟩), .nilIface], by simp [results, Tryd.results46, go_sem, k1, k2], ?_, ?_⟩
    · rw [Hf.out]; rfl
    · exact hk.trans (belowK_b (w := w) (Nat.le_refl _) _ D _ _ hDle hK rfl rfl)

theorem find_any (aA aP : Addr) (B : Nat) (β : Int × Int → Nat) (S : PS) (v : Value) (l r : Int) (w : World) (hE : Errs aA aP w) (hS : IsPS B β S v w) :
    Calls Tryd.prog 46 #[.pointer (some ⟨B, 0, none⟩), .int .i64 l, .int .i64 r] w (FindPost (findB β S.es (l, r)) (findErr aP (findB β S.es (l, r))) w) := callsIn_wide.1 (find_in aA aP B β S v l r w hE hS)

end Go.Proofs.YtmdfpknhfkgfoaaDoor
