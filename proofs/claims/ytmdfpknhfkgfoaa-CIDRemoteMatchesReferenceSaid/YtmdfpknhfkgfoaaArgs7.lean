/- The argument of law07's statements: a slice of CallParams, as it lies in memory. -/
import Derived.Test.YtmdfpknhfkgfoaaSane7
import Derived.Deep.Slices
import Derived.Deep.Fields
import Derived.ChangeSame
import Derived.Carry
import Derived.OpenShut
namespace Go.Proofs.Ytmdfpknhfkgfoaa
open Go.RowKit Go.Shelf Go.ChangeShapes Go.WideShapes

/-- The parameters of a call. -/
structure Call7 where
  kind : Nat
  n : Int
  other : Int
  ty : Int
  v : Nat → Value
  seq : Int
  ret : Int
  cid : ByteArray

def Call7.at (C : Call7) (j : Nat) : Value :=
  if j = 0 then .int .u8 C.kind else if j = 1 then .int .i64 C.n else if j = 2 then .int .i64 C.other else if j = 3 then .int .i64 C.ty
  else if j = 13 then .int .i64 C.seq else if j = 14 then .int .i64 C.ret else if j = 15 then .string C.cid else C.v (j - 3)

def in64 (z : Int) : Prop := -9223372036854775808 ≤ z ∧ z ≤ 9223372036854775807

structure Call7.ok (C : Call7) : Prop where
  kind : C.kind < 256
  n : in64 C.n
  other : in64 C.other
  ty : in64 C.ty
  seq : in64 C.seq
  ret : in64 C.ret
  cid : C.cid.size ≤ maxLen

/-- The calls lie in memory as the slice says. -/
def ArgCalls (a : Option Addr) (len : Nat) (C : Nat → Call7) (w : World) : Prop :=
  ∀ i, i < len → (C i).ok ∧ ∃ b o, a = some ⟨b, o, none⟩ ∧ b < w.heap.size ∧ ∀ j, j < 16 → w.cell? ⟨b, o + i * 16 + j, none⟩ = some ((C i).at j)

theorem ArgCalls.below {a : Option Addr} {len : Nat} {C : Nat → Call7} {w w' : World} (h : ArgCalls a len C w) (hb : Below w.heap.size w w') : ArgCalls a len C w' := fun i hi => by
  obtain ⟨h1, b, o, h2, h3, h4⟩ := h i hi
  exact ⟨h1, b, o, h2, Nat.lt_of_lt_of_le h3 hb.size, fun j hj => (hb.cell (p := ⟨b, _, none⟩) h3).trans (h4 j hj)⟩

theorem cells_callp : Try.prog.cellsOf 44 = 16 := by kernel_rfl
theorem cells_frame : Try.prog.cellsOf 42 = 13 := by kernel_rfl
theorem cells_int : Try.prog.cellsOf 3 = 1 := by kernel_rfl
theorem cells_u8 : Try.prog.cellsOf 5 = 1 := by kernel_rfl
theorem cells_str : Try.prog.cellsOf 9 = 1 := by kernel_rfl

theorem wf_64 {n : Int} (h : (Lit.int .i64 n).wf = true) : in64 n := bounds_i64 h
theorem wf_u8 {n : Int} (h : (Lit.int .u8 n).wf = true) : 0 ≤ n ∧ n < 256 := by
  have := bounds_u8 h
  omega

theorem drop_take1 {cs : List Value} {k : Nat} {v : Value} (h : (cs.drop k).take 1 = [v]) : cs[k]? = some v := by
  have : ((cs.drop k).take 1)[0]? = some v := by rw [h]; rfl
  simpa [List.getElem?_take, List.getElem?_drop] using this

section
variable {H : Type} {enc : TypeId × Value → H} {w : World} {base : Nat} {spare : Nat → Bool} {held : Bool}

theorem int_field {fs : Array Field} {xs : List (DataW H × List MemPlace)} {n : Nat} {cs : List Value} (hl : xs.length = fs.size)
    (hf : ∀ (i : Nat) (f : Field), fs[i]? = some f → DataW.trod enc Try.prog w base spare held n f.type ((cs.drop f.offset).take (Try.prog.cellsOf f.type)) = xs[i]?)
    (i : Nat) (f : Field) (hi : fs[i]? = some f) (k : IntKind) (hu : Try.prog.underlying f.type = some (.int k)) (hc : Try.prog.cellsOf f.type = 1) :
    ∃ z, cs[f.offset]? = some (.int k z) ∧ (Lit.int k z).wf = true := by
  have hlt : i < xs.length := by rw [hl]; exact (Array.getElem?_eq_some_iff.1 hi).1
  have h := hf i f hi
  rw [List.getElem?_eq_getElem hlt, hc] at h
  obtain ⟨z, h1, _, h3⟩ := DataW.trod_int hu h
  exact ⟨z, drop_take1 h1, h3⟩

theorem str_field {fs : Array Field} {xs : List (DataW H × List MemPlace)} {n : Nat} {cs : List Value} (hl : xs.length = fs.size)
    (hf : ∀ (i : Nat) (f : Field), fs[i]? = some f → DataW.trod enc Try.prog w base spare held n f.type ((cs.drop f.offset).take (Try.prog.cellsOf f.type)) = xs[i]?)
    (i : Nat) (f : Field) (hi : fs[i]? = some f) (hu : Try.prog.underlying f.type = some .string) (hc : Try.prog.cellsOf f.type = 1) :
    ∃ s : ByteArray, cs[f.offset]? = some (.string s) ∧ s.size ≤ maxLen := by
  have hlt : i < xs.length := by rw [hl]; exact (Array.getElem?_eq_some_iff.1 hi).1
  have h := hf i f hi
  rw [List.getElem?_eq_getElem hlt, hc] at h
  obtain ⟨z, h1, _, h3⟩ := DataW.trod_string hu h
  exact ⟨z, drop_take1 h1, h3⟩

/-- One element's cells. -/
theorem open_call {fuel : Nat} {cs : List Value} {x : DataW H × List MemPlace} (h : DataW.trod enc Try.prog w base spare held fuel 44 cs = some x) :
    ∃ C : Call7, C.ok ∧ ∀ j, j < 16 → cs[j]? = some (C.at j) := by
  obtain ⟨xs, n, _, _, hlen, hxl, hf⟩ := DataW.trod_struct Try.underlying44 h
  rw [cells_callp] at hlen
  obtain ⟨k, hk, wk⟩ := int_field hxl hf 0 _ rfl .u8 Try.underlying5 cells_u8
  obtain ⟨z1, h1, w1⟩ := int_field hxl hf 1 _ rfl .i64 Try.underlying3 cells_int
  obtain ⟨z2, h2, w2⟩ := int_field hxl hf 2 _ rfl .i64 Try.underlying3 cells_int
  have h3 : DataW.trod enc Try.prog w base spare held n 42 ((cs.drop 3).take 13) = xs[3]? := by
    rw [← cells_frame]
    exact hf 3 _ rfl
  rw [List.getElem?_eq_getElem (by rw [hxl]; decide)] at h3
  obtain ⟨ys, m, _, _, hyc, hyl, hg⟩ := DataW.trod_struct Try.underlying42 h3
  obtain ⟨t, ht, wt⟩ := int_field hyl hg 0 _ rfl .i64 Try.underlying3 cells_int
  obtain ⟨q, hq, wq⟩ := int_field hyl hg 10 _ rfl .i64 Try.underlying3 cells_int
  obtain ⟨r, hr, wr⟩ := int_field hyl hg 11 _ rfl .i64 Try.underlying3 cells_int
  obtain ⟨c, hc, wc⟩ := str_field hyl hg 12 _ rfl Try.underlying9 cells_str
  have hsub : ∀ j, j < 13 → ((cs.drop 3).take 13)[j]? = cs[3 + j]? := fun j hj => by
    rw [List.getElem?_take, if_pos hj, List.getElem?_drop]
  have e0 := hsub 0 (by decide)
  have e10 := hsub 10 (by decide)
  have e11 := hsub 11 (by decide)
  have e12 := hsub 12 (by decide)
  rw [show (3 : Nat) + 0 = 3 from rfl] at e0
  rw [show (3 : Nat) + 10 = 13 from rfl] at e10
  rw [show (3 : Nat) + 11 = 14 from rfl] at e11
  rw [show (3 : Nat) + 12 = 15 from rfl] at e12
  have ht' := e0.symm.trans ht
  have hq' := e10.symm.trans hq
  have hr' := e11.symm.trans hr
  have hc' := e12.symm.trans hc
  have hku := wf_u8 wk
  refine ⟨{ kind := k.toNat, n := z1, other := z2, ty := t, v := fun j => cs.getD (j + 3) undef, seq := q, ret := r, cid := c }, ⟨by show k.toNat < 256; omega, wf_64 w1, wf_64 w2, wf_64 wt, wf_64 wq, wf_64 wr, wc⟩, fun j hj => ?_⟩
  unfold Call7.at
  by_cases a0 : j = 0
  · subst a0; rw [if_pos rfl]; rw [show (((k.toNat : Nat)) : Int) = k by omega]; exact hk
  rw [if_neg a0]
  by_cases a1 : j = 1
  · subst a1; rw [if_pos rfl]; exact h1
  rw [if_neg a1]
  by_cases a2 : j = 2
  · subst a2; rw [if_pos rfl]; exact h2
  rw [if_neg a2]
  by_cases a3 : j = 3
  · subst a3; rw [if_pos rfl]; exact ht'
  rw [if_neg a3]
  by_cases a4 : j = 13
  · subst a4; rw [if_pos rfl]; exact hq'
  rw [if_neg a4]
  by_cases a5 : j = 14
  · subst a5; rw [if_pos rfl]; exact hr'
  rw [if_neg a5]
  by_cases a6 : j = 15
  · subst a6; rw [if_pos rfl]; exact hc'
  rw [if_neg a6]
  show cs[j]? = some (cs.getD (j - 3 + 3) undef)
  rw [show j - 3 + 3 = j by omega, List.getD_eq_getElem?_getD, List.getElem?_eq_getElem (by omega)]
  rfl

set_option maxRecDepth 100000 in
/-- The whole argument. -/
theorem open_calls {W : World} {r : Reach} {b0 : Nat} {v : Value} {d : DataW H} {p : List MemPlace} (hv : Value.okWide Try.prog W r b0 33 v)
    (h : DataW.Trod enc Try.prog W 0 (fun _ => true) true 33 v d p) :
    ∃ (a : Option Addr) (len cap : Nat) (C : Nat → Call7), v = .slice a len cap ∧ len ≤ maxLen ∧ ArgCalls a len C W := by
  obtain ⟨a0, l0, c0, rfl⟩ := okWide_slice Try.underlying33 hv
  obtain ⟨fuel, hf⟩ := h
  rcases Go.Deep.open_slice Try.underlying33 hf with ⟨h0, _⟩ | ⟨a, len, cap, m, n, D, Pl, hcs, hb, hl, hm, hmm, hx, hi⟩
  · simp only [Value.cells, List.cons.injEq, and_true] at h0
    rw [h0]
    exact ⟨none, 0, 0, fun _ => ⟨0, 0, 0, 0, fun _ => undef, 0, 0, ⟨#[]⟩⟩, rfl, by unfold maxLen; omega, fun i hi => absurd hi (Nat.not_lt_zero _)⟩
  · simp only [Value.cells, List.cons.injEq, and_true] at hcs
    rw [hcs]
    simp only [if_true] at hmm
    have key : ∀ i, i < len → ∃ C : Call7, C.ok ∧ ∀ j, j < 16 → W.cell? (a.add (i * 16 + j)) = some (C.at j) := fun i hil => by
      obtain ⟨cs', hc, ht⟩ := hi i (by omega)
      rw [cells_callp] at hc
      obtain ⟨_, _, hat⟩ := World.cells?_some hc
      obtain ⟨C, hok, hC⟩ := open_call ht
      exact ⟨C, hok, fun j hj => by rw [← Go.Deep.add_add, hat j hj, hC j hj]⟩
    haveI : Inhabited Call7 := ⟨⟨0, 0, 0, 0, fun _ => undef, 0, 0, ⟨#[]⟩⟩⟩
    obtain ⟨C, hC⟩ := Go.Deep.choose_lt key
    refine ⟨some a, len, cap, C, rfl, Nat.le_trans hl hm, fun i hil => ⟨(hC i hil).1, ?_⟩⟩
    have h00 := (hC 0 (by omega)).2 0 (by decide)
    have hspot : a.spot = none := by
      unfold World.cell? Addr.add at h00
      simp only [Nat.zero_mul, Nat.add_zero, if_true] at h00
      cases hs : a.spot with
      | none => rfl
      | some x => rw [hs] at h00; simp at h00; split at h00 <;> simp at h00
    obtain ⟨ab, ao, sp⟩ := a
    simp only at hspot
    subst hspot
    refine ⟨ab, ao, rfl, ?_, fun j hj => ?_⟩
    · unfold World.cell? at h00
      apply Classical.byContradiction
      intro hge
      rw [show W.heap[(Addr.add ⟨ab, ao, none⟩ (0 * 16 + 0)).block]? = none from by
        simp only [Addr.add, Nat.zero_mul, Nat.add_zero, if_true]
        exact Array.getElem?_eq_none (Nat.not_lt.1 hge)] at h00
      cases h00
    · rw [← (hC i hil).2 j hj]
      unfold Addr.add
      by_cases e : i * 16 + j = 0
      · rw [if_pos e, show ao + i * 16 + j = ao by omega]
      · rw [if_neg e]
        show _ = W.cell? ⟨ab, ao + (i * 16 + j), none⟩
        rw [Nat.add_assoc]
end

end Go.Proofs.Ytmdfpknhfkgfoaa
