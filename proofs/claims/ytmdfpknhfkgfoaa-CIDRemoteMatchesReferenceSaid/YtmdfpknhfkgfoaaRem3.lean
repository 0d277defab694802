/- Contracts of cid.Remote: NewRemote, Current, Unused, Retired. -/
import Derived.Test.YtmdfpknhfkgfoaaRem2
namespace Go.Proofs.Ytmdfpknhfkgfoaa
open Go.RowKit Go.Shelf

attribute [local go_sem] Oper.semAt_some

structure Rem where
  ent : Ent
  left : List Nat

def Rem.at (R : Rem) (v : Value) (j : Nat) : Value := if j < 65 then R.ent.at j else v

def natVals (l : List Nat) : List Value := l.map fun (n : Nat) => Value.int .i64 (n : Int)

structure IsRem (B : Nat) (R : Rem) (v : Value) (w : World) : Prop where
  blk : Blk B 66 (R.at v) 84 w
  own : w.ownsRow 0 3 1 v R.left.length (natVals R.left)

theorem IsRem.ent {B : Nat} {R : Rem} {v : Value} {w : World} (h : IsRem B R v w) : EntAt B 0 R.ent 66 (R.at v) 84 w :=
  ⟨h.blk, by decide, fun j hj => by simp [Rem.at, hj]⟩

theorem Rem.at_id (R : Rem) (v : Value) (j : Nat) (h : j < 32) : R.at v j = .string (R.ent.ids j) := by unfold Rem.at; rw [if_pos (by omega), R.ent.at_id j h]
theorem Rem.at_left (R : Rem) (v : Value) : R.at v 65 = v := by simp [Rem.at]

theorem IsRem.kept {B : Nat} {R : Rem} {v : Value} {w w' : World} {S : Nat → Prop} (h : IsRem B R v w) (hk : Keeps S w w') (hB : ¬ S B) (hv : ∀ k, v.ownBlock = some k → ¬ S k) : IsRem B R v w' :=
  ⟨h.blk.keeps hk hB, ownsRow_keeps h.own hk hv⟩

theorem IsRem.below {B : Nat} {R : Rem} {v : Value} {w w' : World} (h : IsRem B R v w) (hb : Below w.heap.size w w') : IsRem B R v w' :=
  h.kept (Keeps.of_below (S := fun _ => False) hb) (fun h => h) (fun _ _ h => h)

/-- A Remote with one ID. -/
def newRem (first : ByteArray) : Rem := { ent := { ids := fun j => if j = 0 then first else ⟨#[]⟩, st := fun j => if j = 0 then 2 else 0, bound := 0 }, left := [] }

theorem zero_rem : Try.zeroCells84 = rowOf 66 (Rem.at { ent := { ids := fun _ => ⟨#[]⟩, st := fun _ => 0, bound := 0 }, left := [] } (.slice none 0 0)) := by kernel_rfl

theorem new_rem_at (first : ByteArray) : ∀ j, j < 66 → upd (upd (Rem.at { ent := { ids := fun _ => ⟨#[]⟩, st := fun _ => 0, bound := 0 }, left := [] } (.slice none 0 0)) 0 (.string first)) 32 (.int .i64 2) j = (newRem first).at (.slice none 0 0) j := by
  intro j hj
  simp only [upd, Rem.at, Ent.at, newRem]
  repeat' split
  all_goals first | (exfalso; omega) | (simp; done) | (subst_vars; simp; done)

theorem new_rem (first : ByteArray) : (Try.zeroCells84.setIfInBounds 0 (.string first)).setIfInBounds 32 (.int .i64 2) = rowOf 66 ((newRem first).at (.slice none 0 0)) := by
  rw [zero_rem, rowOf_set, rowOf_set]
  exact rowOf_congr (new_rem_at first)

def NewRemPost (first : ByteArray) (w : World) (e : Ending) (w' : World) : Prop :=
  ∃ B, e = .returned (.tuple #[.pointer (some ⟨B, 0, none⟩), .int .i64 0]) ∧ IsRem B (newRem first) (.slice none 0 0) w' ∧ w.heap.size ≤ B ∧ Below w.heap.size w w'

set_option maxRecDepth 100000 in
set_option maxHeartbeats 800000 in
theorem newRemote_yes (first : ByteArray) (w : World) (hk : first.size = 8) :
    Calls Try.prog 21 #[.string first] w (NewRemPost first w) := by
  have h1 : ((first.size : Int) != 8) = false := by simp; omega
  have Hk := Lib.hid hk; clear hk
  have HB := Lib.hid (Blk.new w 66 (Rem.at { ent := { ids := fun _ => ⟨#[]⟩, st := fun _ => 0, bound := 0 }, left := [] } (.slice none 0 0)) 84)
  rw [← zero_rem] at HB
  have c0 := HB.out.cell 0 (by decide)
  have c32 := HB.out.cell 32 (by decide)
  have f0 := HB.out.free 0
  have f32 := HB.out.free 32
  go_enter Try.func21, Try.ntmps21
  go_wp2
  go_region
  rw [new_rem]
  go_wp2
  go_ret2
  exact ⟨_, rfl, ⟨(Blk.new w 66 _ _).drew, World.ownsRow_nil _ _ _ _⟩, Nat.le_refl _, ((Below.refl _ _).alloc (Nat.le_refl _) _).drew⟩

set_option maxRecDepth 100000 in
set_option maxHeartbeats 400000 in
theorem newRemote_no (first : ByteArray) (w : World) (hk : first.size ≠ 8) :
    Calls Try.prog 21 #[.string first] w fun e w' => e = .returned (.tuple #[.pointer none, .int .i64 70]) ∧ w = w' := by
  have h1 : ((first.size : Int) != 8) = true := by rw [bne_iff_ne]; omega
  have Hk := Lib.hid hk; clear hk
  go_enter Try.func21, Try.ntmps21
  go_wp2
  go_ret2
  exact ⟨rfl, rfl⟩

set_option maxRecDepth 100000 in
set_option maxHeartbeats 400000 in
theorem retired_any (B : Nat) (R : Rem) (v : Value) (w : World) (hR : IsRem B R v w) :
    Calls Try.prog 26 #[.pointer (some ⟨B, 0, none⟩)] w fun e w' => e = .returned v ∧ IsRem B { R with left := [] } (.slice none 0 0) w' ∧ Only B w w' := by
  have c := hR.blk.cell 65 (by decide)
  rw [R.at_left] at c
  have fr := hR.blk.free 65
  have HR := Lib.hid hR; clear hR
  go_enter Try.func26, Try.ntmps26
  go_wp2
  go_ret
  refine ⟨rfl, ⟨(HR.out.blk.set 65 _).congr ?_, World.ownsRow_nil _ _ _ _⟩, (Only.refl _ _).setCell _ _⟩
  intro j hj
  simp only [upd, Rem.at]
  repeat' split
  all_goals first | (exfalso; omega) | rfl

theorem unused_any (B : Nat) (R : Rem) (v : Value) (w : World) (hR : IsRem B R v w) :
    Calls Try.prog 33 #[.pointer (some ⟨B, 0, none⟩)] w fun e w' => e = .returned (.int .i64 (hits (R.ent.isIn 1) 32).length) ∧ Below w.heap.size w w' := by
  have HR := Lib.hid hR.ent; clear hR
  go_enter Try.func33, Try.ntmps33
  go_wp2_with (fail)
  refine (count_any B 0 1 66 _ _ R.ent _ HR.out).mono ?_
  rintro e w1 ⟨rfl, hb⟩
  go_wp2
  go_ret
  exact ⟨rfl, hb⟩

end Go.Proofs.Ytmdfpknhfkgfoaa
