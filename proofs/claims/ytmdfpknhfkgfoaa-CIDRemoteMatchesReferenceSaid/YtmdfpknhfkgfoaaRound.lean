/- A region that draws its order inside a round: as outside of it, if it defers nothing. No program in sight. -/
import Derived.RegionIn
import Derived.RangeFuncWrites
namespace Go.Proofs.Ytmdfpknhfkgfoaa
open Go

def Oper.still (o : Oper) : Bool := match o.op with | .defer _ => false | _ => true

theorem wpIn_inRound {F : Fence} {n l : Nat} {P : Program} {o : Oper} {a : Act} {w : World} {K : Act → World → Prop} {Q : Exit → Act → World → Prop} (hro : F.round = none) (hd : Oper.still o = true)
    (h : o.wpIn F n P a w K Q) : o.wpIn (F.inRound l) n P a w K Q := by
  refine ⟨h.1, ?_⟩
  have h2 := h.2
  rw [hro] at h2
  rw [Oper.semAt_eq (F.inRound l).round _ _ (by intro c hc; unfold Oper.still at hd; rw [hc] at hd; cases hd)]
  exact h2

theorem wpAnyIn_inRound {F : Fence} {n l : Nat} {P : Program} {md : Region.Mode} {ops : Array Oper} {Q : Exit → Act → World → Prop} (hro : F.round = none) (hd : ops.all Oper.still = true) :
    ∀ (fuel : Nat) (listed : Array Bool) (a : Act) (w : World), wpAnyIn F n P md ops Q fuel listed a w → wpAnyIn (F.inRound l) n P md ops Q fuel listed a w
  | 0, _, _, _, h => h
  | fuel + 1, listed, a, w, h => by
    refine ⟨h.1, fun i hi => ?_⟩
    have h2 := h.2 i hi
    have ih := fun a w => wpAnyIn_inRound (F := F) (n := n) (l := l) (P := P) (md := md) (ops := ops) (Q := Q) hro hd fuel (listed.setIfInBounds i true) a w
    have h3 := wpOpIn_mono (fun a w => ih a w) h2
    unfold wpOpIn at h3 ⊢
    split
    · rename_i ho
      simpa [ho] using h3
    · rename_i o ho
      simp only [ho] at h3
      split
      · rename_i hw
        simp only [hw, if_true] at h3
        exact wpIn_inRound hro ((Array.all_eq_true_iff_forall_mem.1 hd) o (Array.mem_of_getElem? ho)) h3
      · rename_i hw
        simp only [hw] at h3
        exact h3

end Go.Proofs.Ytmdfpknhfkgfoaa
