/- The contract of cid.Remote.Current. -/
import Derived.Test.YtmdfpknhfkgfoaaRem3
namespace Go.Proofs.Ytmdfpknhfkgfoaa
open Go.RowKit Go.Shelf

attribute [local go_sem] Oper.semAt_some

/-- The current ID, or the empty string. -/
def Ent.cur (E : Ent) : ByteArray := match (hits (E.isIn 2) 32).head? with | some x => E.ids x.val | none => ⟨#[]⟩

def CurPost (c : ByteArray) (w : World) (e : Ending) (w' : World) : Prop := e = .returned (.string c) ∧ Below w.heap.size w w'

set_option maxRecDepth 100000 in
set_option maxHeartbeats 400000 in
theorem current_nil (w : World) : Calls Try.prog 31 #[.pointer none] w (CurPost ⟨#[]⟩ w) := by
  go_enter Try.func31, Try.ntmps31
  go_wp2
  refine bodyPost_ret (v := .string ⟨#[]⟩) (by simp [results, Try.results31, go_sem]) rfl ⟨rfl, ?_⟩
  exact ((Below.refl _ _).alloc (Nat.le_refl _) _).alloc (by simp) _

set_option maxRecDepth 100000 in
set_option maxHeartbeats 1000000 in
theorem current_in (B : Nat) (R : Rem) (v : Value) (w : World) (hR : IsRem B R v w) :
    CallsIn Fence.wide 3 Try.prog 31 #[.pointer (some ⟨B, 0, none⟩)] w (CurPost R.ent.cur w) := by
  have HR := Lib.hid hR; clear hR
  have hbl := HR.out.blk.lt
  refine callsIn_of_wp_marks Try.func31 rfl trivial ?_ rfl
  simp only [Try.ntmps31, List.size_toArray, List.length_cons, List.length_nil, Nat.reduceAdd, Nat.reduceSub, Array.replicate_succ, Array.replicate_zero, List.push_toArray, List.append_toArray, List.nil_append, List.cons_append]
  gi_wp2_with (refine ⟨trivial, ?_⟩; gi_at_call 56; refine (callsIn_wide.2 (in_any _ 2 _ ⟨_, rfl⟩)).mono ?_; rintro e w' ⟨rfl, rfl⟩)
  have bE := Boxed.new w 34 (.pointer (some ⟨B, 0, none⟩))
  have bO := Boxed.new (w.alloc (.cells #[.pointer (some ⟨B, 0, none⟩)] 34)) 9 (.string ⟨#[]⟩)
  rw [World.size_alloc] at bO
  refine wpIn_rangeFunc_ownG rfl (by decide) (gf := 72) (lb := #[.pointer (some ⟨w.heap.size + 1 + 1, 0, none⟩), .pointer (some ⟨w.heap.size + 1 + 1 + 1, 0, none⟩)]) rfl trivial (enters_of Try.func72 (by kernel_rfl) rfl)
    (in_stops Fence.wide 2 trivial rfl (by decide) (w.heap.size + 1 + 1) (w.heap.size + 1 + 1 + 1) B 0 2 66 (R.at v) 84 R.ent _ (by simp) (by simp) (by simp [go_sem]) (by simp [go_sem]) ((((HR.out.blk.alloc _).alloc _).alloc _).alloc _) (by omega) HR.out.ent.st) KeepB.t (KeepB.b (by simp)) (Below.refl _ _) (fun _ => rfl)
    (fun pre W => (pre = [] ∧ Boxed W w.heap.size 34 (.pointer (some ⟨B, 0, none⟩))) ∧ (Boxed W (w.heap.size + 1) 9 (.string ⟨#[]⟩) ∧ Blk B 66 (R.at v) 84 W) ∧ Below w.heap.size w W)
    (fun c pre W => (c = .ret ∧ ∃ x, pre = [x] ∧ Boxed W (w.heap.size + 1) 9 (.string (R.ent.ids x.val))) ∧ Below w.heap.size w W)
    (OwnFrom.and (OwnFrom.and (fun _ _ _ _ hs _ _ => hs) (Own.from (boxed_own' _ _ _) _)) (OwnFrom.and (OwnFrom.and (Own.from (boxed_own' _ _ _) _) (Own.from (blk_own _ _ _ _) _)) (ownFrom_below (Nat.le_refl _) (by simp; omega))))
    (fun c => OwnFrom.and (OwnFrom.and (fun _ _ _ _ hs _ _ => hs) (fun s W W' row hs hg hr => by obtain ⟨x, h1, h2⟩ := hs; exact ⟨x, h1, (boxed_own' (β := Unit) _ _ _) () W W' row h2 hg (fun r e => (hr r e).2)⟩)) (ownFrom_below (Nat.le_refl _) (by simp; omega)))
    ⟨⟨rfl, ((bE.alloc _).alloc _).alloc _⟩, ⟨(bO.alloc _).alloc _, (((HR.out.blk.alloc _).alloc _).alloc _).alloc _⟩, ((((Below.refl _ w).alloc (Nat.le_refl _) _).alloc (by simp) _).alloc (by simp; omega) _).alloc (by simp; omega) _⟩
    (fun x => { tmps := #[.pointer (some ⟨B, 0, none⟩), .pointer (some ⟨w.heap.size, 0, none⟩), .pointer (some ⟨w.heap.size + 1, 0, none⟩), .int .i64 (x.val : Int), .pointer (some ⟨B, 0, none⟩), .bool false, .pointer (some ⟨B, 0, none⟩), .pointer (some ⟨B, 0, none⟩), .pointer (some ⟨B, 0, none⟩), .func (.func 72) #[] #[.pointer (some ⟨w.heap.size + 1 + 1, 0, none⟩), .pointer (some ⟨w.heap.size + 1 + 1 + 1, 0, none⟩)], .int .i64 (x.val : Int), undef, undef, undef, undef, undef, undef, undef], defers := [] }) ?assign ?body ?done ?stop
  case assign =>
    intro l x W K hK
    gi_wp2
    exact hK
  case body =>
    rintro l pre x W ⟨⟨rfl, hv⟩, ⟨hr, hb⟩, hk⟩ hlt
    have hc := hv.cell
    have hrc := hr.cell
    have hrf := hr.frozen
    have hx := x.isLt
    have hcx := hb.cell x.val (by omega)
    rw [R.at_id v _ hx] at hcx
    have hx1 : (x.val : Int) < 32 := by omega
    gi_wp2
    exact ⟨(KeepsOthers.setCell _ _ _).from _, ⟨rfl, x, rfl, hr.set _⟩, hk.setCell (p := ⟨w.heap.size + 1, 0, none⟩) (by simp) _⟩
  case done =>
    rintro D ys W hD rfl ⟨⟨hnil, hv⟩, ⟨hr, hb⟩, hk⟩ hK
    have hrc := hr.cell
    have hrf := hr.frozen
    gi_wp2
    have hne1 : D ≠ w.heap.size + 1 := by simp at hD; omega
    have hK' : (W.setCell ⟨w.heap.size + 1, 0, none⟩ (.string ⟨#[]⟩)).heap[D]? = some (.deferred (some [])) := (Below.heap_setCell W _ _ _ hne1).trans hK
    have hr' := hr.set (.string ⟨#[]⟩)
    have hc2 := (hr'.kept (grownBy_putObj' _ D (.deferred none)) (fun h => hne1 (by injection h with h; exact h.symm))).cell
    have hD1 : w.heap.size ≤ D := by simp at hD; omega
    refine ⟨by simp, .inl ⟨_, _, rfl, run_takeDeferred hK', ?_⟩⟩
    refine ⟨.string ⟨#[]⟩, by simp [results, Try.results31, go_sem, hc2], ?_, ?_⟩
    · unfold Ent.cur; rw [hnil]; rfl
    · exact (hk.setCell (p := ⟨w.heap.size + 1, 0, none⟩) (by simp) _).trans (belowK_b (w := w) (Nat.le_refl _) _ D _ _ hD1 hK' rfl rfl)
  case stop =>
    rintro D c pre W hD hpre ⟨⟨rfl, x, rfl, hr⟩, hk⟩ hK
    have hrc := hr.cell
    have hrf := hr.frozen
    gi_wp2
    have hne1 : D ≠ w.heap.size + 1 := by simp at hD; omega
    have hc2 := (hr.kept (grownBy_putObj' _ D (.deferred none)) (fun h => hne1 (by injection h with h; exact h.symm))).cell
    have hD1 : w.heap.size ≤ D := by simp at hD; omega
    refine ⟨by simp, .inl ⟨_, _, rfl, run_takeDeferred hK, ?_⟩⟩
    refine ⟨.string (R.ent.ids x.val), by simp [results, Try.results31, go_sem, hc2], ?_, ?_⟩
    · obtain ⟨r, hr⟩ := hpre
      unfold Ent.cur; rw [← hr]; rfl
    · exact hk.trans (belowK_b (w := w) (Nat.le_refl _) _ D _ _ hD1 hK rfl rfl)

theorem current_any (B : Nat) (R : Rem) (v : Value) (w : World) (hR : IsRem B R v w) :
    Calls Try.prog 31 #[.pointer (some ⟨B, 0, none⟩)] w (CurPost R.ent.cur w) := callsIn_wide.1 (current_in B R v w hR)

end Go.Proofs.Ytmdfpknhfkgfoaa
