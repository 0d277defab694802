/- cid.Remote.Add: what it computes, and the lemmas of its walk. -/
import Derived.Test.YtmdfpknhfkgfoaaRem7
namespace Go.Proofs.Ytmdfpknhfkgfoaa
open Go.RowKit Go.Shelf

/-- The block when m cells from o on are written anew. -/
def updR (f : Nat → Value) (o m : Nat) (g : Nat → Value) : Nat → Value := fun j => if o ≤ j ∧ j < o + m then g (j - o) else f j

theorem setCells_blk {B k : Nat} {t : TypeId} : ∀ (m : Nat) (o : Nat) (g f : Nat → Value) (w : World), Blk B k f t w →
    Blk B k (updR f o m g) t (w.setCells B o ((List.range m).map g)) ∧ Only B w (w.setCells B o ((List.range m).map g)) := by
  intro m
  induction m with
  | zero =>
    intro o g f w h
    refine ⟨h.congr (fun j _ => ?_), Only.refl _ _⟩
    unfold updR
    rw [if_neg (by omega)]
  | succ m ih =>
    intro o g f w h
    have e : (List.range (m + 1)).map g = g 0 :: (List.range m).map (fun j => g (j + 1)) := by
      rw [List.range_succ_eq_map, List.map_cons, List.map_map]; rfl
    rw [e]
    have h1 := ih (o + 1) (fun j => g (j + 1)) (upd f o (g 0)) (w.setCell ⟨B, o, none⟩ (g 0)) (h.set o (g 0))
    refine ⟨h1.1.congr (fun j _ => ?_), ((Only.refl B w).setCell o (g 0)).trans h1.2⟩
    simp only [updR, upd]
    by_cases hj : j = o
    · subst hj
      rw [if_neg (by omega), if_pos rfl, if_pos (by omega)]; simp
    · by_cases h2 : o + 1 ≤ j ∧ j < o + 1 + m
      · rw [if_pos h2, if_pos (by omega)]; congr 1; omega
      · rw [if_neg h2, if_neg hj, if_neg (by omega)]

theorem Blk.there {B k : Nat} {f : Nat → Value} {t : TypeId} {w : World} (h : Blk B k f t w) (o m : Nat) (hm : o + m ≤ k) : w.there B o m := fun j hj => by
  rw [h.cell (o + j) (by omega)]; exact ⟨rfl, h.free _⟩

theorem Ent.one (E : Ent) (j : Nat) : (E.at j).oneCell' = true := by
  unfold Ent.at; split; rfl; split <;> rfl
theorem Ent.all_one (E : Ent) : ((List.range 65).map E.at).toArray.all (·.oneCell') = true := all_oneCell_toArray (by
  intro v hv; obtain ⟨j, _, rfl⟩ := List.mem_map.1 hv; exact E.one j)

theorem size_ent : (Try.prog.info? 82).map (·.size) = some 65 := by kernel_rfl

/-! ### What Add computes -/
/-- A new ID is taken in. -/
def Ent.put (E : Ent) (seq : Nat) (c : ByteArray) : Ent :=
  if E.st seq = 0 then { ids := fun j => if j = seq then c else E.ids j, st := fun j => if j = seq then 1 else E.st j, bound := E.bound } else E
def Ent.bnd (E : Ent) (ret : Nat) : Ent := { E with bound := max E.bound ret }
def Ent.live (E : Ent) (j : Nat) : Bool := E.st j == 1 || E.st j == 2
/-- The live IDs below k are retired. -/
def Ent.prune (E : Ent) : Nat → Ent
  | 0 => E
  | k + 1 => if E.live k then (E.prune k).setSt k 3 else E.prune k
def Ent.gone (E : Ent) : Nat → List Nat
  | 0 => []
  | k + 1 => if E.live k then E.gone k ++ [k] else E.gone k

theorem Ent.prune_st (E : Ent) (k : Nat) : ∀ j, k ≤ j → (E.prune k).st j = E.st j := by
  induction k with
  | zero => intro j _; rfl
  | succ k ih =>
    intro j hj
    unfold Ent.prune
    split
    · simp only [Ent.setSt]; rw [if_neg (by omega)]; exact ih j (by omega)
    · exact ih j (by omega)
theorem Ent.gone_le (E : Ent) (k : Nat) : (E.gone k).length ≤ k := by
  induction k with
  | zero => exact Nat.le_refl _
  | succ k ih => unfold Ent.gone; split; rw [List.length_append]; simp; omega; omega

/-- Add, when the frame is in order. -/
def Ent.made (E : Ent) (seq ret : Nat) (c : ByteArray) : Ent := (E.put seq c).bnd ret
def Ent.kept (E : Ent) (seq ret : Nat) (c : ByteArray) : Ent := (E.made seq ret c).prune (E.made seq ret c).bound
def Ent.lost (E : Ent) (seq ret : Nat) (c : ByteArray) : List Nat := (E.made seq ret c).gone (E.made seq ret c).bound
def Ent.next (E : Ent) : Ent := if hits (E.isIn 2) 32 = [] then E.adv else E

def Rem.add (R : Rem) (seq ret : Nat) (c : ByteArray) : Int × Rem :=
  if R.ent.fits seq c = false then (70, R)
  else if hits ((R.ent.kept seq ret c).isIn 2) 32 = [] ∧ hits ((R.ent.kept seq ret c).isIn 1) 32 = [] then (70, R)
  else if 4 ≤ (hits ((R.ent.kept seq ret c).next.isIn 1) 32).length then (71, R)
  else (0, { ent := (R.ent.kept seq ret c).next, left := R.left ++ R.ent.lost seq ret c })

theorem Ent.at_put (E : Ent) (seq : Nat) (c : ByteArray) (hs : seq < 32) (h0 : E.st seq = 0) : ∀ j, j < 65 → upd (upd E.at seq (.string c)) (32 + seq) (.int .i64 1) j = (E.put seq c).at j := by
  intro j hj
  unfold Ent.put
  rw [if_pos h0]
  simp only [upd, Ent.at]
  by_cases h1 : j < 32
  · have h2 : ¬ (j = 32 + seq) := by omega
    simp only [h1, h2, if_true, if_false]
    by_cases h3 : j = seq
    · simp [h3]
    · simp [h3]
  · by_cases h4 : j < 64
    · have h5 : ¬ (j = seq) := by omega
      simp only [h1, h4, h5, if_true, if_false]
      by_cases h3 : j = 32 + seq
      · have h6 : j - 32 = seq := by omega
        simp [h3]
      · have h6 : ¬ (j - 32 = seq) := by omega
        simp [h3, h6]
    · have h5 : ¬ (j = seq) := by omega
      have h6 : ¬ (j = 32 + seq) := by omega
      simp [h1, h4, h5, h6]

theorem Ent.at_bnd (E : Ent) (ret : Nat) : ∀ j, j < 65 → upd E.at 64 (.int .i64 (max E.bound ret : Nat)) j = (E.bnd ret).at j := by
  intro j hj
  unfold Ent.bnd
  simp only [upd, Ent.at]
  by_cases h : j = 64
  · subst h; simp
  · have h1 : (j < 32) ∨ (j < 64) := by omega
    simp only [h, if_false]
    by_cases h2 : j < 32
    · simp [h2]
    · have h3 : j < 64 := by omega
      simp [h2, h3]

end Go.Proofs.Ytmdfpknhfkgfoaa
