/- The argument of CIDRemoteMatchesReference: the calls, and that the frames' other fields are one cell each. -/
import Derived.Test.YtmdfpknhfkgfoaaArgs7
namespace Go.Proofs.Ytmdfpknhfkgfoaa
open Go.RowKit Go.Shelf Go.ChangeShapes Go.WideShapes

/-- The frame's other fields are one cell each. -/
def Call7.one (C : Call7) : Prop := ∀ k, 1 ≤ k → k ≤ 9 → (C.v k).oneCell' = true

theorem cells_bool : Try.prog.cellsOf 4 = 1 := by kernel_rfl
theorem cells_spans : Try.prog.cellsOf 40 = 1 := by kernel_rfl

section
variable {H : Type} {enc : TypeId × Value → H} {w : World} {base : Nat} {spare : Nat → Bool} {held : Bool}

theorem bool_field {fs : Array Field} {xs : List (DataW H × List MemPlace)} {n : Nat} {cs : List Value} (hl : xs.length = fs.size)
    (hf : ∀ (i : Nat) (f : Field), fs[i]? = some f → DataW.trod enc Try.prog w base spare held n f.type ((cs.drop f.offset).take (Try.prog.cellsOf f.type)) = xs[i]?)
    (i : Nat) (f : Field) (hi : fs[i]? = some f) (hu : Try.prog.underlying f.type = some .bool) (hc : Try.prog.cellsOf f.type = 1) :
    ∃ b, cs[f.offset]? = some (.bool b) := by
  have hlt : i < xs.length := by rw [hl]; exact (Array.getElem?_eq_some_iff.1 hi).1
  have h := hf i f hi
  rw [List.getElem?_eq_getElem hlt, hc] at h
  obtain ⟨z, h1, _⟩ := DataW.trod_bool hu h
  exact ⟨z, drop_take1 h1⟩
theorem slice_field {fs : Array Field} {xs : List (DataW H × List MemPlace)} {n : Nat} {cs : List Value} {e : TypeId} (hl : xs.length = fs.size)
    (hf : ∀ (i : Nat) (f : Field), fs[i]? = some f → DataW.trod enc Try.prog w base spare held n f.type ((cs.drop f.offset).take (Try.prog.cellsOf f.type)) = xs[i]?)
    (i : Nat) (f : Field) (hi : fs[i]? = some f) (hu : Try.prog.underlying f.type = some (.slice e)) (hc : Try.prog.cellsOf f.type = 1) :
    ∃ u, cs[f.offset]? = some u ∧ u.oneCell' = true := by
  have hlt : i < xs.length := by rw [hl]; exact (Array.getElem?_eq_some_iff.1 hi).1
  have h := hf i f hi
  rw [List.getElem?_eq_getElem hlt, hc] at h
  rcases Go.Deep.open_slice hu h with ⟨h1, _⟩ | ⟨a, len, cap, _, _, _, _, h1, _⟩
  · exact ⟨_, drop_take1 h1, rfl⟩
  · exact ⟨_, drop_take1 h1, rfl⟩

/-- The frame's other cells. -/
theorem call_one {fuel : Nat} {cs : List Value} {x : DataW H × List MemPlace} (h : DataW.trod enc Try.prog w base spare held fuel 44 cs = some x) :
    ∀ j, 4 ≤ j → j ≤ 12 → ∃ u, cs[j]? = some u ∧ u.oneCell' = true := by
  obtain ⟨xs, n, _, _, hlen, hxl, hf⟩ := DataW.trod_struct Try.underlying44 h
  rw [cells_callp] at hlen
  have h3 : DataW.trod enc Try.prog w base spare held n 42 ((cs.drop 3).take 13) = xs[3]? := by
    rw [← cells_frame]
    exact hf 3 _ rfl
  rw [List.getElem?_eq_getElem (by rw [hxl]; decide)] at h3
  obtain ⟨ys, m, _, _, hyc, hyl, hg⟩ := DataW.trod_struct Try.underlying42 h3
  have hsub : ∀ j, j < 13 → ((cs.drop 3).take 13)[j]? = cs[3 + j]? := fun j hj => by
    rw [List.getElem?_take, if_pos hj, List.getElem?_drop]
  intro j hj1 hj2
  have hj : j = 4 ∨ j = 5 ∨ j = 6 ∨ j = 7 ∨ j = 8 ∨ j = 9 ∨ j = 10 ∨ j = 11 ∨ j = 12 := by omega
  rcases hj with rfl | rfl | rfl | rfl | rfl | rfl | rfl | rfl | rfl
  · obtain ⟨z, hz, _⟩ := int_field hyl hg 1 _ rfl .i64 Try.underlying3 cells_int
    exact ⟨_, (hsub 1 (by decide)).symm.trans hz, rfl⟩
  · obtain ⟨z, hz, _⟩ := int_field hyl hg 2 _ rfl .i64 Try.underlying3 cells_int
    exact ⟨_, (hsub 2 (by decide)).symm.trans hz, rfl⟩
  · obtain ⟨z, hz, _⟩ := str_field hyl hg 3 _ rfl Try.underlying9 cells_str
    exact ⟨_, (hsub 3 (by decide)).symm.trans hz, rfl⟩
  · obtain ⟨z, hz⟩ := bool_field hyl hg 4 _ rfl Try.underlying4 cells_bool
    exact ⟨_, (hsub 4 (by decide)).symm.trans hz, rfl⟩
  · obtain ⟨z, hz, _⟩ := int_field hyl hg 5 _ rfl .i64 Try.underlying3 cells_int
    exact ⟨_, (hsub 5 (by decide)).symm.trans hz, rfl⟩
  · obtain ⟨z, hz, _⟩ := int_field hyl hg 6 _ rfl .i64 Try.underlying3 cells_int
    exact ⟨_, (hsub 6 (by decide)).symm.trans hz, rfl⟩
  · obtain ⟨z, hz⟩ := bool_field hyl hg 7 _ rfl Try.underlying4 cells_bool
    exact ⟨_, (hsub 7 (by decide)).symm.trans hz, rfl⟩
  · obtain ⟨z, hz, _⟩ := int_field hyl hg 8 _ rfl .i64 Try.underlying3 cells_int
    exact ⟨_, (hsub 8 (by decide)).symm.trans hz, rfl⟩
  · obtain ⟨u, hz, hu⟩ := slice_field hyl hg 9 _ rfl Try.underlying40 cells_spans
    exact ⟨u, (hsub 9 (by decide)).symm.trans hz, hu⟩

set_option maxRecDepth 100000 in
/-- The whole argument. -/
theorem open_calls1 {W : World} {r : Reach} {b0 : Nat} {v : Value} {d : DataW H} {p : List MemPlace} (hv : Value.okWide Try.prog W r b0 33 v)
    (h : DataW.Trod enc Try.prog W 0 (fun _ => true) true 33 v d p) :
    ∃ (a : Option Addr) (len cap : Nat) (C : Nat → Call7), v = .slice a len cap ∧ len ≤ maxLen ∧ ArgCalls a len C W ∧ ∀ i, i < len → (C i).one := by
  obtain ⟨a0, l0, c0, rfl⟩ := okWide_slice Try.underlying33 hv
  obtain ⟨fuel, hf⟩ := h
  rcases Go.Deep.open_slice Try.underlying33 hf with ⟨h0, _⟩ | ⟨a, len, cap, m, n, D, Pl, hcs, hb, hl, hm, hmm, hx, hi⟩
  · simp only [Value.cells, List.cons.injEq, and_true] at h0
    rw [h0]
    exact ⟨none, 0, 0, fun _ => ⟨0, 0, 0, 0, fun _ => undef, 0, 0, ⟨#[]⟩⟩, rfl, by unfold maxLen; omega, fun i hi => absurd hi (Nat.not_lt_zero _), fun i hi => absurd hi (Nat.not_lt_zero _)⟩
  · simp only [Value.cells, List.cons.injEq, and_true] at hcs
    rw [hcs]
    simp only [if_true] at hmm
    have key : ∀ i, i < len → ∃ C : Call7, (C.ok ∧ C.one) ∧ ∀ j, j < 16 → W.cell? (a.add (i * 16 + j)) = some (C.at j) := fun i hil => by
      obtain ⟨cs', hc, ht⟩ := hi i (by omega)
      rw [cells_callp] at hc
      obtain ⟨_, _, hat⟩ := World.cells?_some hc
      obtain ⟨C, hok, hC⟩ := open_call ht
      have h1 := call_one ht
      refine ⟨C, ⟨hok, fun k hk1 hk2 => ?_⟩, fun j hj => by rw [← Go.Deep.add_add, hat j hj, hC j hj]⟩
      obtain ⟨u, hu, ho⟩ := h1 (k + 3) (by omega) (by omega)
      rw [hC (k + 3) (by omega)] at hu
      injection hu with hu
      have e : C.at (k + 3) = C.v k := by
        unfold Call7.at
        rw [if_neg (by omega), if_neg (by omega), if_neg (by omega), if_neg (by omega), if_neg (by omega), if_neg (by omega), if_neg (by omega), Nat.add_sub_cancel]
      rw [← e, hu]; exact ho
    haveI : Inhabited Call7 := ⟨⟨0, 0, 0, 0, fun _ => undef, 0, 0, ⟨#[]⟩⟩⟩
    obtain ⟨C, hC⟩ := Go.Deep.choose_lt key
    refine ⟨some a, len, cap, C, rfl, Nat.le_trans hl hm, fun i hil => ⟨(hC i hil).1.1, ?_⟩, fun i hil => (hC i hil).1.2⟩
    have h00 := (hC 0 (by omega)).2 0 (by decide)
    have hspot : a.spot = none := by
      unfold World.cell? Addr.add at h00
      simp only [Nat.zero_mul, Nat.add_zero, if_true] at h00
      cases hs : a.spot with
      | none => rfl
      | some x => rw [hs] at h00; simp at h00; split at h00 <;> simp at h00
    obtain ⟨ab, ao, sp⟩ := a
    simp only at hspot
    subst hspot
    refine ⟨ab, ao, rfl, ?_, fun j hj => ?_⟩
    · unfold World.cell? at h00
      apply Classical.byContradiction
      intro hge
      rw [show W.heap[(Addr.add ⟨ab, ao, none⟩ (0 * 16 + 0)).block]? = none from by
        simp only [Addr.add, Nat.zero_mul, Nat.add_zero, if_true]
        exact Array.getElem?_eq_none (Nat.not_lt.1 hge)] at h00
      cases h00
    · rw [← (hC i hil).2 j hj]
      unfold Addr.add
      by_cases e : i * 16 + j = 0
      · rw [if_pos e, show ao + i * 16 + j = ao by omega]
      · rw [if_neg e]
        show _ = W.cell? ⟨ab, ao + (i * 16 + j), none⟩
        rw [Nat.add_assoc]

end

end Go.Proofs.Ytmdfpknhfkgfoaa
