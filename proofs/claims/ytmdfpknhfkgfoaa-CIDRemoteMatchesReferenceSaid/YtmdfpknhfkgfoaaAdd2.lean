/- cid.Remote.Add: the walk. -/
import Derived.Test.YtmdfpknhfkgfoaaAdd
namespace Go.Proofs.Ytmdfpknhfkgfoaa
open Go.RowKit Go.Shelf

def SamePost (err : Int) (w : World) (e : Ending) (w' : World) : Prop := e = .returned (.int .i64 err) ∧ Below w.heap.size w w'

set_option maxRecDepth 100000 in
set_option maxHeartbeats 800000 in
theorem add_nil (w : World) (ty : Int) (v1 v2 v3 v4 v5 v6 v7 v8 v9 : Value) (seq ret : Int) (c : ByteArray) :
    Calls Try.prog 29 #[.pointer none, frameA ty v1 v2 v3 v4 v5 v6 v7 v8 v9 seq ret c] w (SamePost 1 w) := by
  go_enter Try.func29, Try.ntmps29
  go_wp2
  go_ret
  exact ⟨rfl, (Below.refl _ w).alloc (Nat.le_refl _) _⟩

/-- The frame's own form is wrong. -/
def badFrame (ty seq ret : Int) (c : ByteArray) : Prop := ty ≠ 24 ∨ c.size ≠ 8 ∨ ret < 0 ∨ seq < ret

set_option maxRecDepth 100000 in
set_option maxHeartbeats 1600000 in
theorem add_arg (B : Nat) (w : World) (ty : Int) (v1 v2 v3 v4 v5 v6 v7 v8 v9 : Value) (seq ret : Int) (c : ByteArray) (hb : badFrame ty seq ret c) :
    Calls Try.prog 29 #[.pointer (some ⟨B, 0, none⟩), frameA ty v1 v2 v3 v4 v5 v6 v7 v8 v9 seq ret c] w (SamePost 2 w) := by
  have Hb := Lib.hid hb; clear hb
  go_enter Try.func29, Try.ntmps29
  by_cases h1 : ty = 24
  · subst h1
    by_cases h2 : c.size = 8
    · have h2' : ((c.size : Int) != 8) = false := by rw [h2]; rfl
      by_cases h3 : ret < 0
      · clear h2
        go_wp2
        go_ret
        exact ⟨rfl, (Below.refl _ w).alloc (Nat.le_refl _) _⟩
      · have h4 : seq < ret := by rcases Hb.out with h | h | h | h; exact absurd rfl h; exact absurd h2 h; exact absurd h h3; exact h
        clear h2
        go_wp2
        go_ret
        exact ⟨rfl, (Below.refl _ w).alloc (Nat.le_refl _) _⟩
    · have h2' : ((c.size : Int) != 8) = true := by rw [bne_iff_ne]; omega
      clear h2
      go_wp2
      go_ret
      exact ⟨rfl, (Below.refl _ w).alloc (Nat.le_refl _) _⟩
  · have h1' : (ty != 24) = true := by rw [bne_iff_ne]; exact h1
    go_wp2
    go_ret
    exact ⟨rfl, (Below.refl _ w).alloc (Nat.le_refl _) _⟩

set_option maxRecDepth 100000 in
set_option maxHeartbeats 1600000 in
theorem add_limit (B : Nat) (w : World) (v1 v2 v3 v4 v5 v6 v7 v8 v9 : Value) (seq ret : Int) (c : ByteArray) (h2 : c.size = 8) (h3 : 0 ≤ ret) (h4 : ret ≤ seq) (h5 : 32 ≤ seq) :
    Calls Try.prog 29 #[.pointer (some ⟨B, 0, none⟩), frameA 24 v1 v2 v3 v4 v5 v6 v7 v8 v9 seq ret c] w (SamePost 71 w) := by
  have h2' : ((c.size : Int) != 8) = false := by rw [h2]; rfl
  have h3' : ¬ (ret < 0) := by omega
  have h4' : ¬ (seq < ret) := by omega
  clear h2
  go_enter Try.func29, Try.ntmps29
  go_wp2
  go_ret
  exact ⟨rfl, (Below.refl _ w).alloc (Nat.le_refl _) _⟩

set_option maxRecDepth 100000 in
set_option maxHeartbeats 1600000 in
theorem add_unfit (B : Nat) (R : Rem) (v : Value) (w : World) (hR : IsRem B R v w) (v1 v2 v3 v4 v5 v6 v7 v8 v9 : Value) (seq ret : Nat) (z y : Int) (hz : z = ↑seq) (hy : y = ↑ret) (c : ByteArray) (h2 : c.size = 8) (h4 : ret ≤ seq) (h5 : seq < 32) (hf : R.ent.fits seq c = false) :
    Calls Try.prog 29 #[.pointer (some ⟨B, 0, none⟩), frameA 24 v1 v2 v3 v4 v5 v6 v7 v8 v9 z y c] w (SamePost 70 w) := by
  subst hz hy
  have h2' : ((c.size : Int) != 8) = false := by rw [h2]; rfl
  have h3' : ¬ ((ret : Int) < 0) := by omega
  have h4' : ¬ ((seq : Int) < ret) := by omega
  have h5' : ¬ ((32 : Int) ≤ seq) := by omega
  have HR := Lib.hid hR; clear hR h2
  have Hf := Lib.hid hf; clear hf
  go_enter Try.func29, Try.ntmps29
  go_wp2_with (fail)
  refine (consistent_any B R v _ (HR.out.alloc _) 24 v1 v2 v3 v4 v5 v6 v7 v8 v9 seq _ ret rfl c).mono ?_
  rintro e w1 ⟨rfl, hb1⟩
  rw [Hf.out]
  go_wp2
  go_ret
  exact ⟨rfl, ((Below.refl _ w).alloc (Nat.le_refl _) _).trans (hb1.mono (by simp))⟩

end Go.Proofs.Ytmdfpknhfkgfoaa
