/- cid.Remote: Rotate without an unused ID, calls on a nil Remote, consistent. -/
import Derived.Test.YtmdfpknhfkgfoaaRem6
namespace Go.Proofs.Ytmdfpknhfkgfoaa
open Go.RowKit Go.Shelf

attribute [local go_sem] Oper.semAt_some

set_option maxRecDepth 100000 in
set_option maxHeartbeats 800000 in
theorem rotate_no (B : Nat) (R : Rem) (v : Value) (w : World) (hR : IsRem B R v w) (hu : hits (R.ent.isIn 1) 32 = []) :
    Calls Try.prog 23 #[.pointer (some ⟨B, 0, none⟩)] w fun e w' => e = .returned (.int .i64 70) ∧ Below w.heap.size w w' := by
  have HR := Lib.hid hR; clear hR
  have h0 : (((hits (R.ent.isIn 1) 32).length : Int) == 0) = true := by rw [hu]; rfl
  clear hu
  go_enter Try.func23, Try.ntmps23
  go_wp2_with (fail)
  refine (count_any B 0 1 66 _ _ R.ent _ (HR.out.alloc _).ent).mono ?_
  rintro e w1 ⟨rfl, hb1⟩
  go_wp2
  go_ret
  exact ⟨rfl, ((Below.refl _ w).alloc (Nat.le_refl _) _).trans (hb1.mono (by simp))⟩

set_option maxRecDepth 100000 in
set_option maxHeartbeats 800000 in
theorem rotate_nil (w : World) :
    Calls Try.prog 23 #[.pointer none] w fun e w' => e = .returned (.int .i64 1) ∧ Below w.heap.size w w' := by
  go_enter Try.func23, Try.ntmps23
  go_wp2
  go_ret
  exact ⟨rfl, (Below.refl _ w).alloc (Nat.le_refl _) _⟩

/-- A frame, its other fields whatever they are. -/
abbrev frameA (ty : Int) (v1 v2 v3 v4 v5 v6 v7 v8 v9 : Value) (seq ret : Int) (c : ByteArray) : Value := .agg #[.int .i64 ty, v1, v2, v3, v4, v5, v6, v7, v8, v9, .int .i64 seq, .int .i64 ret, .string c]

/-- ID j does not speak against a frame. -/
def Ent.fit (E : Ent) (seq : Nat) (c : ByteArray) (j : Nat) : Bool := E.st j == 0 || ((j == seq) == decide (E.ids j = c))
def Ent.fits (E : Ent) (seq : Nat) (c : ByteArray) : Bool := (List.range 32).all (E.fit seq c)

theorem Ent.fits_yes (E : Ent) (seq : Nat) (c : ByteArray) (h : ∀ j, j < 32 → E.fit seq c j = true) : E.fits seq c = true := by
  unfold Ent.fits; rw [List.all_eq_true]; intro j hj; exact h j (List.mem_range.1 hj)
theorem Ent.fits_no (E : Ent) (seq : Nat) (c : ByteArray) (j : Nat) (hj : j < 32) (h : E.fit seq c j = false) : E.fits seq c = false := by
  unfold Ent.fits; rw [List.all_eq_false]; exact ⟨j, List.mem_range.2 hj, by rw [h]; simp⟩
theorem run_index_strs (f : Nat → Value) (j : Nat) (hj : j < 32) (w : World) : (Instr.index 79 (.agg (rowOf 32 f)) (.int .i64 (j : Int))).run Try.prog w = .ok (f j) w := by
  simp [Instr.index, run_underlying Try.underlying79, asIntOf, part]
  rw [if_pos hj, rowOf_get _ _ _ hj]
  rfl
theorem size_strs : (Try.prog.info? 79).map (·.size) = some 32 := by kernel_rfl

set_option maxRecDepth 100000 in
set_option maxHeartbeats 800000 in
theorem consistent_any (B : Nat) (R : Rem) (v : Value) (w : World) (hR : IsRem B R v w) (ty : Int) (v1 v2 v3 v4 v5 v6 v7 v8 v9 : Value) (seq : Nat) (z ret : Int) (hz : z = ↑seq) (c : ByteArray) :
    Calls Try.prog 60 #[.pointer (some ⟨B, 0, none⟩), frameA ty v1 v2 v3 v4 v5 v6 v7 v8 v9 z ret c] w fun e w' => e = .returned (.bool (R.ent.fits seq c)) ∧ Below w.heap.size w w' := by
  subst hz
  have hrow : ((List.range 32).map fun j => R.at v (0 + j)).toArray = rowOf 32 (fun j => .string (R.ent.ids j)) := rowOf_congr (f := fun j => R.at v (0 + j)) (fun j hj => by rw [Nat.zero_add]; exact R.at_id v j hj)
  have Hrow := Lib.hid hrow; clear hrow
  have HR := Lib.hid (hR.alloc (.cells #[.int .i64 ty, v1, v2, v3, v4, v5, v6, v7, v8, v9, .int .i64 seq, .int .i64 ret, .string c] 42)); clear hR
  have hrg := Lib.hid (HR.out.blk.range 0 32 (by decide))
  go_enter Try.func60, Try.ntmps60
  go_wp2_with (refine wpList_load_mid rfl 79 (.tmp 10) rfl B 0 rfl _ _ hrg.out Try.underlying79 rfl (by simpa using size_strs) ?_; rw [Hrow.out])
  clear Hrow hrg
  go_loop [12] (fun i => ∃ j : Nat, j ≤ 32 ∧ i = .int .i64 j ∧ Hid (∀ k, k < j → R.ent.fit seq c k = true)) (fun i => 32 - (intOf i).toNat)
  case atStart => exact ⟨0, Nat.zero_le _, rfl, fun k hk => absurd hk (Nat.not_lt_zero _)⟩
  case round =>
    obtain ⟨j, hj, rfl, hall⟩ := hrel
    by_cases hlt : j < 32
    · have hidx := run_index_strs (fun j => .string (R.ent.ids j)) j hlt
      have cs := HR.out.ent.blk.cell (0 + 32 + j) (by omega)
      rw [HR.out.ent.st j hlt, Nat.zero_add] at cs
      have hlt1 : (j : Int) < 32 := by omega
      by_cases h0 : R.ent.st j = 0
      · have Hfit := Lib.hid (show R.ent.fit seq c j = true by unfold Ent.fit; rw [h0]; rfl)
        rw [h0] at cs
        clear h0
        go_wp2
        go_round
        case rel => exact ⟨j + 1, by omega, by go_num, fun k hk => by rcases Nat.lt_or_eq_of_le (Nat.le_of_lt_succ hk) with h | h; exact hall.out k h; rw [h]; exact Hfit.out⟩
        case measure => simp [intOf]; omega
      · have h0' : ((R.ent.st j : Int) != 0) = true := by rw [bne_iff_ne]; omega
        have h0f : (R.ent.st j == 0) = false := by rw [beq_eq_false_iff_ne]; exact h0
        clear h0
        by_cases hs : j = seq
        · have hs1 : ((j : Int) == (seq : Int)) = true := by rw [hs]; simp
          have hs2 : (j == seq) = true := by rw [hs]; simp
          clear hs
          by_cases hc : R.ent.ids j = c
          · have Hfit := Lib.hid (show R.ent.fit seq c j = true by unfold Ent.fit; rw [h0f, hs2, decide_eq_true hc]; rfl)
            have hc1 := str_eq_true hc
            clear hc h0f hs2
            go_wp2
            go_round
            case rel => exact ⟨j + 1, by omega, by go_num, fun k hk => by rcases Nat.lt_or_eq_of_le (Nat.le_of_lt_succ hk) with h | h; exact hall.out k h; rw [h]; exact Hfit.out⟩
            case measure => simp [intOf]; omega
          · have Hfit := Lib.hid (show R.ent.fit seq c j = false by unfold Ent.fit; rw [h0f, hs2, decide_eq_false hc]; rfl)
            have hc1 := str_eq_false hc
            clear hc h0f hs2
            go_wp2
            go_ret
            refine ⟨?_, (Below.refl _ _).alloc (Nat.le_refl _) _⟩
            rw [Ent.fits_no R.ent seq c j hlt Hfit.out]
            rfl
        · have hs1 : ((j : Int) == (seq : Int)) = false := by rw [beq_eq_false_iff_ne]; omega
          have hs2 : (j == seq) = false := by rw [beq_eq_false_iff_ne]; exact hs
          clear hs
          by_cases hc : R.ent.ids j = c
          · have Hfit := Lib.hid (show R.ent.fit seq c j = false by unfold Ent.fit; rw [h0f, hs2, decide_eq_true hc]; rfl)
            have hc1 := str_eq_true hc
            clear hc h0f hs2
            go_wp2
            go_ret
            refine ⟨?_, (Below.refl _ _).alloc (Nat.le_refl _) _⟩
            rw [Ent.fits_no R.ent seq c j hlt Hfit.out]
            rfl
          · have Hfit := Lib.hid (show R.ent.fit seq c j = true by unfold Ent.fit; rw [h0f, hs2, decide_eq_false hc]; rfl)
            have hc1 := str_eq_false hc
            clear hc h0f hs2
            go_wp2
            go_round
            case rel => exact ⟨j + 1, by omega, by go_num, fun k hk => by rcases Nat.lt_or_eq_of_le (Nat.le_of_lt_succ hk) with h | h; exact hall.out k h; rw [h]; exact Hfit.out⟩
            case measure => simp [intOf]; omega
    · obtain rfl : j = 32 := by omega
      go_wp2
      go_ret
      refine ⟨?_, (Below.refl _ _).alloc (Nat.le_refl _) _⟩
      rw [Ent.fits_yes R.ent seq c hall.out]
      rfl

end Go.Proofs.Ytmdfpknhfkgfoaa
