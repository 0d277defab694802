/- What the laid variables give a walk of law24; a world that meets the condition. -/
import Derived.Test.YtmdfpknhfkgfoaaDoorTie
import Derived.Test.YtmdfpknhfkgfoaaDoorPArgs
import Derived.Stop.LaidTwo
import Derived.LaidMore
import Derived.ProofKit
import Derived.OpenShut
import Derived.Stop.Joined
namespace Go.Proofs.YtmdfpknhfkgfoaaDoor
open Go.ChangeShapes Go.WideShapes Go.ChangeAt Go.RowKit

theorem own24 : ownKnob Tryd.prog.godebug = none := by kernel_rfl
theorem laidOut24 : laidOutB Tryd.prog = true := by kernel_rfl
theorem gArg24 : Tryd.prog.globalNamed "peregrine/path.errArgument" = some 1 := by kernel_rfl
theorem gPth24 : Tryd.prog.globalNamed "peregrine/path.errPath" = some 0 := by kernel_rfl
theorem tArg24 : (Tryd.prog.globals[1]?).map (·.type) = some 102 := by kernel_rfl
theorem tPth24 : (Tryd.prog.globals[0]?).map (·.type) = some 102 := by kernel_rfl
theorem star24 : "*" ++ "errors.errorString" = "*errors.errorString" := by decide
theorem rowErr24 (u : TypeId) (h : Tryd.prog.typeName? 3 u = some "*errors.errorString") : u = 174 :=
  typeName_ptr_named (nm := "errors.errorString") (by rw [star24]; kernel_rfl) (by kernel_rfl) (by decide) u (by rw [star24]; exact h)

def laid24 : List (String × DataW Unit) := [("peregrine/path.errArgument", Rows.laid_peregrine_path_errArgument), ("peregrine/path.errPath", Rows.laid_peregrine_path_errPath)]

theorem errs_of_laid {W : World} (h : laidMetH Tryd.prog laid24 W) : ∃ aA aP, Errs aA aP W := by
  rw [MakeChecks.laidMetH_plain _ _ _ (by kernel_rfl)] at h
  obtain ⟨a0, a1, s0, s1, c0, c1, t0, t1, hv0, hv1, _, _, _, _, _, _, hne, hb0, hb1⟩ := laid_sentinels2 h gArg24 tArg24 gPth24 tPth24 Tryd.underlying102 rowErr24 Tryd.underlying174 Tryd.underlying199 rfl rfl Tryd.underlying9 (by kernel_rfl) (by kernel_rfl)
  have h1 : W.cell? ⟨1, 0, none⟩ = some (.iface 174 (.pointer (some a0))) := by simpa using World.var?_cell gArg24 hv0 0
  have h0 : W.cell? ⟨0, 0, none⟩ = some (.iface 174 (.pointer (some a1))) := by simpa using World.var?_cell gPth24 hv1 0
  refine ⟨a0, a1, h1, h0, hne, ⟨c0, t0, hb0⟩, ⟨c1, t1, hb1⟩, ?_⟩
  apply Classical.byContradiction
  intro hlt
  unfold World.cell? at h1
  rw [show W.heap[(⟨1, 0, none⟩ : Addr).block]? = none from Array.getElem?_eq_none (by show W.heap.size ≤ 1; omega)] at h1
  cases h1

/-- The heap that the door's own run leaves meets the condition. -/
theorem door_met24 (os : Os) (args : Array Value) : laidMetH Tryd.prog laid24 ((World.doorLaid Tryd.prog 47 os).forCall (fun _ _ => 0) ⟨#[], args, []⟩).memory :=
  laidMetH_of_parts3 (fuel := 8) (laidMet_of_run' 8 (by kernel_rfl) (by kernel_rfl)) (by kernel_rfl) (by kernel_rfl)

section
variable {H : Type} {enc : TypeId × Value → H}
set_option maxRecDepth 100000 in
/-- A call handed over as a value. -/
theorem open_one24 {W : World} {r : Reach} {b0 : Nat} {v : Value} {d : DataW H} {p : List MemPlace} (hv : Value.okWide Tryd.prog W r b0 45 v)
    (h : DataW.Trod enc Tryd.prog W 0 (fun _ => true) true 45 v d p) : ∃ C : Call24, C.ok ∧ v = C.val := by
  obtain ⟨cs, rfl, hsz⟩ := okWide_struct Tryd.underlying45 hv
  obtain ⟨fuel, hf⟩ := h
  obtain ⟨C, hok, hl, hc⟩ := open_call24 hf
  refine ⟨C, hok, ?_⟩
  have hl' : cs.toList.length = 5 := hl
  have hc' : ∀ j, j < 5 → cs.toList[j]? = C.cells[j]? := hc
  have : cs = C.cells := by
    apply Array.ext (by simpa using hl')
    intro i h1 h2
    have h5 : i < 5 := by simpa using h2
    have := hc' i h5
    rw [Array.getElem?_toList, Array.getElem?_eq_getElem h1, Array.getElem?_eq_getElem h2] at this
    exact Option.some.inj this
  rw [this]
end
end Go.Proofs.YtmdfpknhfkgfoaaDoor
