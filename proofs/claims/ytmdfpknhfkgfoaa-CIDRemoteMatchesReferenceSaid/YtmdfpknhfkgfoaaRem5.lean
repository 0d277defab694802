/- The contract of cid.Remote.Rotate. -/
import Derived.Test.YtmdfpknhfkgfoaaRem4
namespace Go.Proofs.Ytmdfpknhfkgfoaa
open Go.RowKit Go.Shelf

attribute [local go_sem] Oper.semAt_some

/-- The IDs of pre are retired, and reported. -/
def Rem.rot (R : Rem) (pre : List (Fin 32)) : Rem := { ent := pre.foldl (fun E x => E.setSt x.val 3) R.ent, left := R.left ++ pre.map (·.val) }
theorem Rem.rot_nil (R : Rem) : R.rot [] = R := by cases R; simp [Rem.rot]
theorem Rem.rot_snoc (R : Rem) (pre : List (Fin 32)) (x : Fin 32) : R.rot (pre ++ [x]) = { ent := (R.rot pre).ent.setSt x.val 3, left := (R.rot pre).left ++ [x.val] } := by simp [Rem.rot, List.append_assoc]
theorem Rem.rot_len (R : Rem) (pre : List (Fin 32)) : (R.rot pre).left.length = R.left.length + pre.length := by simp [Rem.rot]

theorem info_int : (Try.prog.info? 3).map (fun i => (i.zero, i.size, i.bytes)) = some (some (.int .i64 0), 1, 8) := by kernel_rfl

theorem natVals_snoc (l : List Nat) (x : Nat) : natVals (l ++ [x]) = natVals l ++ [.int .i64 (x : Int)] := by simp [natVals]

/-- The world at the append of x. -/
def rotW (B x : Nat) (W : World) : World := ((W.setCell ⟨B, 32 + x, none⟩ (.int .i64 3)).alloc (.cells #[.int .i64 (x : Int)] 3)).drew

theorem OldOrNew.trans {a b c : Value} {n m : Nat} (h : OldOrNew a b n) (k : OldOrNew b c m) (hm : n ≤ m) : OldOrNew a c n := fun i hi => by
  rcases k i hi with h1 | h1
  · exact h i h1
  · exact .inr (by omega)
theorem OldOrNew.refl (a : Value) (n : Nat) : OldOrNew a a n := fun _ h => .inl h

theorem own_is_cells {W : World} {base size n : Nat} {e : TypeId} {v : Value} {xs : List Value} (h : W.ownsRow base e size v n xs) : ∀ (j : Nat) (o : Obj), v.ownBlock = some j → W.heap[j]? = some o → o.isCells = true := by
  intro j o ej hj
  rcases h.2 with ⟨rfl, _⟩ | ⟨g, cap, cur, rfl, _, hgb, _⟩
  · simp [Value.ownBlock] at ej
  · obtain rfl : g = j := by simpa [Value.ownBlock] using ej
    rw [hgb] at hj; cases hj; rfl

theorem own_lt {W : World} {base size n : Nat} {e : TypeId} {v : Value} {xs : List Value} (h : W.ownsRow base e size v n xs) : ∀ j, v.ownBlock = some j → j < W.heap.size := by
  intro j ej
  rcases h.2 with ⟨rfl, _⟩ | ⟨g, cap, cur, rfl, _, hgb, _⟩
  · simp [Value.ownBlock] at ej
  · obtain rfl : g = j := by simpa [Value.ownBlock] using ej
    exact (Array.getElem?_eq_some_iff.1 hgb).1

theorem ownFrom_rem {β : Type} {B n : Nat} {R : β → Rem} {v : Value} : OwnFrom n (fun s W => IsRem B (R s) v W) := fun s A C row hs hg hr => by
  refine hs.kept (S := fun k => row = some k) (Keeps.of_grown hg (fun k e => e)) (fun e => ?_) (fun k hk e => ?_)
  · obtain ⟨_, ob, h1, h2⟩ := hr _ e
    rw [show A.heap[B]? = _ from hs.blk] at h1; cases h1; cases h2
  · obtain ⟨_, ob, h1, h2⟩ := hr _ e
    rw [own_is_cells hs.own k ob hk h1] at h2; cases h2

structure PushPost (B : Nat) (R : Rem) (v : Value) (x : Nat) (W : World) (v2 : Value) (w3 : World) : Prop where
  blk : Blk B 66 (upd (R.at v) (32 + x) (.int .i64 3)) 84 w3
  rem : IsRem B { ent := R.ent.setSt x 3, left := R.left ++ [x] } v2 (w3.setCell ⟨B, 65, none⟩ v2)
  old : OldOrNew v v2 W.heap.size
  keeps : Keeps (fun k => k = B ∨ v.ownBlock = some k) W w3
  others : KeepsOthers W w3
  shape : ∃ g cap, v2 = .slice (some ⟨g, 0, none⟩) (R.left.length + 1) cap

theorem push_rem (B : Nat) (R : Rem) (v : Value) (x : Nat) (hx : x < 32) (W : World) (hR : IsRem B R v W) (hl : R.left.length + 1 ≤ 1000000) :
    ∃ v2 w3, (Builtin.append_ #[47, 47] 47 #[v, .slice (some ⟨W.heap.size, 0, none⟩) 1 1]).run Try.prog (rotW B x W) = .ok v2 w3 ∧ PushPost B R v x W v2 w3 := by
  obtain ⟨i0, hi, hz0, hz1, hz2⟩ := info_parts info_int
  have hblk := hR.blk
  have hneB := hblk.ne_row (e := 3) (by decide) hR.own
  have hk1 : Keeps (fun k => k = B ∨ v.ownBlock = some k) W (rotW B x W) := (((Keeps.refl _ W).setCell (.inl (.inl rfl))).alloc _).drew
  have hk1' : Keeps (fun k => k = B) W (rotW B x W) := (((Keeps.refl (fun k => k = B) W).setCell (.inl rfl)).alloc _).drew
  have hown1 : (rotW B x W).ownsRow 0 3 1 v R.left.length (natVals R.left) := ownsRow_keeps hR.own hk1' hneB
  have hb1 : Blk B 66 (upd (R.at v) (32 + x) (.int .i64 3)) 84 (rotW B x W) := ((hblk.set _ _).alloc _).drew
  have hnew : (rotW B x W).cell? ⟨W.heap.size, 0, none⟩ = some (.int .i64 (x : Int)) := by
    unfold rotW
    simp [go_sem]
  obtain ⟨v2, w3, hr, ho, hg, hold⟩ := run_append_where (P := Try.prog) (rotW B x W) 47 47 3 i0 _ 1 8 Try.underlying47 hi hz0 hz1 hz2 rfl (by decide) v R.left.length (natVals R.left) hown1
    ⟨W.heap.size, 0, none⟩ 1 1 [.int .i64 (x : Int)] rfl (by
      intro j u hj
      match j with
      | 0 => simp at hj; subst hj; simpa [Addr.add] using hnew
      | j + 1 => simp at hj) (by intro u hu; simp at hu; subst hu; rfl) (by simp only [maxLen]; omega) (by omega)
  refine ⟨v2, w3, hr, ?_⟩
  have hsz : (rotW B x W).heap.size = W.heap.size + 1 := by simp [rotW]
  have hb3 : Blk B 66 (upd (R.at v) (32 + x) (.int .i64 3)) 84 w3 := hb1.keeps (Keeps.of_grown (S := fun k => v.ownBlock = some k) hg (fun _ e => e)) (fun e => hneB B e rfl)
  have hne2 := hb3.ne_row (e := 3) (by decide) ho
  refine ⟨hb3, ⟨(hb3.set 65 v2).congr ?_, ?_⟩, ?_, hk1.trans (Keeps.of_grown hg (fun k e => .inr e)), ?_, ownsRow_succ ho⟩
  · intro j hj
    by_cases e : j = 65
    · subst e; simp [upd, Rem.at]
    · have h1 : j < 65 := by omega
      have := R.ent.setSt_at 0 x 3 hx (R.at v) (fun j hj => by simp [Rem.at, hj]) j h1
      simp only [Nat.zero_add] at this
      simp only [Rem.at, h1, if_true]
      rw [← this]
      simp [upd, e]
  · rw [List.length_append, List.length_singleton, natVals_snoc]
    exact ownsRow_keeps ho (((Keeps.refl (fun k => k = B) w3)).setCell (.inl rfl)) hne2
  · intro k hk
    rcases hold k hk with h | h
    · exact .inl h
    · exact .inr (by omega)
  · refine ((KeepsOthers.setCell W _ _).trans ((KeepsOthers.alloc _ _).trans (KeepsOthers.drew _))).trans (KeepsOthers.of_grownBy hg (own_is_cells hown1))

end Go.Proofs.Ytmdfpknhfkgfoaa
