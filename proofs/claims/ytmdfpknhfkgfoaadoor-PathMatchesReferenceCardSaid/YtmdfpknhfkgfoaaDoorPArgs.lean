/- The argument of law24's statements: a slice of CallParams, as it lies in memory. -/
import Derived.Test.YtmdfpknhfkgfoaaDoorPDo
import Derived.Deep.Slices
import Derived.Deep.Fields
import Derived.ChangeSame
import Derived.Carry
import Derived.OpenShut
namespace Go.Proofs.YtmdfpknhfkgfoaaDoor
open Go.RowKit Go.Shelf Go.ChangeShapes Go.WideShapes

/-- The calls lie in memory as the slice says. -/
def ArgC (a : Option Addr) (len : Nat) (C : Nat → Call24) (w : World) : Prop :=
  ∀ i, i < len → (C i).ok ∧ ∃ b o, a = some ⟨b, o, none⟩ ∧ b < w.heap.size ∧ ∀ j, j < 5 → w.cell? ⟨b, o + i * 5 + j, none⟩ = (C i).cells[j]?

theorem ArgC.below {a : Option Addr} {len : Nat} {C : Nat → Call24} {w w' : World} (h : ArgC a len C w) (hb : Below w.heap.size w w') : ArgC a len C w' := fun i hi => by
  obtain ⟨h1, b, o, h2, h3, h4⟩ := h i hi
  exact ⟨h1, b, o, h2, Nat.lt_of_lt_of_le h3 hb.size, fun j hj => (hb.cell (p := ⟨b, _, none⟩) h3).trans (h4 j hj)⟩

theorem cells_call24 : Tryd.prog.cellsOf 45 = 5 := by kernel_rfl
theorem cells_int24 : Tryd.prog.cellsOf 3 = 1 := by kernel_rfl

theorem wf_63 {n : Int} (h : (Lit.int .i64 n).wf = true) : in63 n := bounds_i64 h

theorem drop_take24 {cs : List Value} {k : Nat} {v : Value} (h : (cs.drop k).take 1 = [v]) : cs[k]? = some v := by
  have : ((cs.drop k).take 1)[0]? = some v := by rw [h]; rfl
  simpa [List.getElem?_take, List.getElem?_drop] using this

section
variable {H : Type} {enc : TypeId × Value → H} {w : World} {base : Nat} {spare : Nat → Bool} {held : Bool}

theorem int_field24 {fs : Array Field} {xs : List (DataW H × List MemPlace)} {n : Nat} {cs : List Value} (hl : xs.length = fs.size)
    (hf : ∀ (i : Nat) (f : Field), fs[i]? = some f → DataW.trod enc Tryd.prog w base spare held n f.type ((cs.drop f.offset).take (Tryd.prog.cellsOf f.type)) = xs[i]?)
    (i : Nat) (f : Field) (hi : fs[i]? = some f) (k : IntKind) (hu : Tryd.prog.underlying f.type = some (.int k)) (hc : Tryd.prog.cellsOf f.type = 1) :
    ∃ z, cs[f.offset]? = some (.int k z) ∧ (Lit.int k z).wf = true := by
  have hlt : i < xs.length := by rw [hl]; exact (Array.getElem?_eq_some_iff.1 hi).1
  have h := hf i f hi
  rw [List.getElem?_eq_getElem hlt, hc] at h
  obtain ⟨z, h1, _, h3⟩ := DataW.trod_int hu h
  exact ⟨z, drop_take24 h1, h3⟩

/-- One element's cells. -/
theorem open_call24 {fuel : Nat} {cs : List Value} {x : DataW H × List MemPlace} (h : DataW.trod enc Tryd.prog w base spare held fuel 45 cs = some x) :
    ∃ C : Call24, C.ok ∧ cs.length = 5 ∧ ∀ j, j < 5 → cs[j]? = C.cells[j]? := by
  obtain ⟨xs, n, _, _, hlen, hxl, hf⟩ := DataW.trod_struct Tryd.underlying45 h
  rw [cells_call24] at hlen
  obtain ⟨z0, h0, w0⟩ := int_field24 hxl hf 0 _ rfl .i64 Tryd.underlying3 cells_int24
  obtain ⟨z1, h1, w1⟩ := int_field24 hxl hf 1 _ rfl .i64 Tryd.underlying3 cells_int24
  obtain ⟨z2, h2, w2⟩ := int_field24 hxl hf 2 _ rfl .i64 Tryd.underlying3 cells_int24
  obtain ⟨z3, h3, w3⟩ := int_field24 hxl hf 3 _ rfl .i64 Tryd.underlying3 cells_int24
  obtain ⟨z4, h4, w4⟩ := int_field24 hxl hf 4 _ rfl .i64 Tryd.underlying3 cells_int24
  refine ⟨⟨z0, z1, z2, z3, z4⟩, ⟨wf_63 w0, wf_63 w1, wf_63 w2, wf_63 w3, wf_63 w4⟩, hlen, fun j hj => ?_⟩
  match j, hj with
  | 0, _ => exact h0
  | 1, _ => exact h1
  | 2, _ => exact h2
  | 3, _ => exact h3
  | 4, _ => exact h4

set_option maxRecDepth 100000 in
/-- The whole argument. -/
theorem open_calls24 {W : World} {r : Reach} {b0 : Nat} {v : Value} {d : DataW H} {p : List MemPlace} (hv : Value.okWide Tryd.prog W r b0 40 v)
    (h : DataW.Trod enc Tryd.prog W 0 (fun _ => true) true 40 v d p) :
    ∃ (a : Option Addr) (len cap : Nat) (C : Nat → Call24), v = .slice a len cap ∧ len ≤ maxLen ∧ ArgC a len C W := by
  obtain ⟨a0, l0, c0, rfl⟩ := okWide_slice Tryd.underlying40 hv
  obtain ⟨fuel, hf⟩ := h
  rcases Go.Deep.open_slice Tryd.underlying40 hf with ⟨h0, _⟩ | ⟨a, len, cap, m, n, D, Pl, hcs, hb, hl, hm, hmm, hx, hi⟩
  · simp only [Value.cells, List.cons.injEq, and_true] at h0
    rw [h0]
    exact ⟨none, 0, 0, fun _ => ⟨0, 0, 0, 0, 0⟩, rfl, by unfold maxLen; omega, fun i hi => absurd hi (Nat.not_lt_zero _)⟩
  · simp only [Value.cells, List.cons.injEq, and_true] at hcs
    rw [hcs]
    simp only [if_true] at hmm
    have key : ∀ i, i < len → ∃ C : Call24, C.ok ∧ ∀ j, j < 5 → W.cell? (a.add (i * 5 + j)) = C.cells[j]? := fun i hil => by
      obtain ⟨cs', hc, ht⟩ := hi i (by omega)
      rw [cells_call24] at hc
      obtain ⟨_, _, hat⟩ := World.cells?_some hc
      obtain ⟨C, hok, _, hC⟩ := open_call24 ht
      exact ⟨C, hok, fun j hj => by rw [← Go.Deep.add_add, hat j hj, hC j hj]⟩
    haveI : Inhabited Call24 := ⟨⟨0, 0, 0, 0, 0⟩⟩
    obtain ⟨C, hC⟩ := Go.Deep.choose_lt key
    refine ⟨some a, len, cap, C, rfl, Nat.le_trans hl hm, fun i hil => ⟨(hC i hil).1, ?_⟩⟩
    have h00 : W.cell? (a.add (0 * 5 + 0)) = some (.int .i64 (C 0).kind) := (hC 0 (by omega)).2 0 (by decide)
    have hspot : a.spot = none := by
      unfold World.cell? Addr.add at h00
      simp only [Nat.zero_mul, Nat.add_zero, if_true] at h00
      cases hs : a.spot with
      | none => rfl
      | some x => rw [hs] at h00; simp at h00; split at h00 <;> simp at h00
    obtain ⟨ab, ao, sp⟩ := a
    simp only at hspot
    subst hspot
    refine ⟨ab, ao, rfl, ?_, fun j hj => ?_⟩
    · unfold World.cell? at h00
      apply Classical.byContradiction
      intro hge
      rw [show W.heap[(Addr.add ⟨ab, ao, none⟩ (0 * 5 + 0)).block]? = none from by
        simp only [Addr.add, Nat.zero_mul, Nat.add_zero, if_true]
        exact Array.getElem?_eq_none (Nat.not_lt.1 hge)] at h00
      cases h00
    · rw [← (hC i hil).2 j hj]
      unfold Addr.add
      by_cases e : i * 5 + j = 0
      · rw [if_pos e, show ao + i * 5 + j = ao by omega]
      · rw [if_neg e]
        show _ = W.cell? ⟨ab, ao + (i * 5 + j), none⟩
        rw [Nat.add_assoc]
end

end Go.Proofs.YtmdfpknhfkgfoaaDoor
