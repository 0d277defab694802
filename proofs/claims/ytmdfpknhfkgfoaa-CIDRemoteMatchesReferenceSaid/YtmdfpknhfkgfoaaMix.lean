/- The contracts of bits.RotateLeft32 and of cipher's round function. -/
import Derived.Test.YtmdfpknhfkgfoaaWords
import Derived.Deep.QuietTactic
import Derived.BigQuiet
import Derived.Deep.RegionWith
namespace Go.Proofs.Ytmdfpknhfkgfoaa
open Go.RowKit

set_option maxRecDepth 100000 in
set_option maxHeartbeats 400000 in
theorem rot_7 (x : Nat) (w : World) (hx : x < 4294967296) :
    Calls Try.prog 80 #[.int .u32 x, .int .i64 7] w fun e w' => e = .returned (.int .u32 (rotl x 7 : Nat)) ∧ w' = w := by
  have hb : bits .and .u64 7 31 = 7 := by decide
  go_enter Try.func80, Try.ntmps80
  go_wp2
  go_ret
  exact ⟨congrArg (fun z : Int => Ending.returned (.int .u32 z)) (rot_val7 x hx), rfl⟩

set_option maxRecDepth 100000 in
set_option maxHeartbeats 400000 in
theorem rot_18 (x : Nat) (w : World) (hx : x < 4294967296) :
    Calls Try.prog 80 #[.int .u32 x, .int .i64 18] w fun e w' => e = .returned (.int .u32 (rotl x 18 : Nat)) ∧ w' = w := by
  have hb : bits .and .u64 18 31 = 18 := by decide
  go_enter Try.func80, Try.ntmps80
  go_wp2
  go_ret
  exact ⟨congrArg (fun z : Int => Ending.returned (.int .u32 z)) (rot_val18 x hx), rfl⟩

theorem rot_7' (x : Nat) (z : Int) (w : World) (hx : x < 4294967296) (hz : z = (x : Int)) :
    Calls Try.prog 80 #[.int .u32 z, .int .i64 7] w fun e w' => e = .returned (.int .u32 (rotl x 7 : Nat)) ∧ w' = w := by
  subst hz; exact rot_7 x w hx

def MixPost (k : Nat → Nat) (r i : Nat) (w : World) (e : Ending) (w' : World) : Prop := e = .returned (.int .u32 (mix k r i : Nat)) ∧ Below w.heap.size w w'

abbrev kv (k : Nat → Nat) : Value := .agg #[.int .u32 (k 0), .int .u32 (k 1), .int .u32 (k 2), .int .u32 (k 3)]

theorem below_drewN {B : Nat} {a w : World} (h : Below B a w) (n : Nat) : Below B a (w.drewN n) := ⟨h.os, h.tape, h.output, h.size, h.block⟩

set_option maxRecDepth 100000 in
set_option maxHeartbeats 400000 in
theorem mix_0 (k : Nat → Nat) (r : Nat) (w : World) (hk : ∀ j, k j < 4294967296) (hr : r < 4294967296) :
    Calls Try.prog 76 #[kv k, .int .u32 r, .int .i64 0] w (MixPost k r 0 w) := by
  have Hk := Lib.hid hk; clear hk
  have hv : bits .xor .u32 (bits .xor .u32 (rotl (mixIn k r 0) 7 : Nat) (rotl r 18 : Nat)) (k 1 : Nat) = (mix k r 0 : Nat) := mix_val k r 0 Hk.out hr
  have Hv := Lib.hid hv; clear hv
  unfold kv
  go_enter Try.func76, Try.ntmps76
  go_wp2
  go_quiet (first | (go_at_call_of 80 (Value.int .i64 18); exact Calls.quiet_of_same (rot_18 r _ hr)) | (go_at_call_of 80 (Value.int .i64 7); refine Calls.quiet_of_same (rot_7' (mixIn k r 0) _ _ (mixIn_lt _ _ _) ?_); simp only [mixIn, Nat.reduceMod, Nat.reduceAdd, Nat.reduceMul]; omega))
  go_wp2
  go_ret
  refine ⟨congrArg (fun z : Int => Ending.returned (.int .u32 z)) Hv.out, ?_⟩
  exact below_drewN ((Below.refl _ _).alloc (Nat.le_refl _) _) _

set_option maxRecDepth 100000 in
set_option maxHeartbeats 400000 in
theorem mix_1 (k : Nat → Nat) (r : Nat) (w : World) (hk : ∀ j, k j < 4294967296) (hr : r < 4294967296) :
    Calls Try.prog 76 #[kv k, .int .u32 r, .int .i64 1] w (MixPost k r 1 w) := by
  have Hk := Lib.hid hk; clear hk
  have hv : bits .xor .u32 (bits .xor .u32 (rotl (mixIn k r 1) 7 : Nat) (rotl r 18 : Nat)) (k 2 : Nat) = (mix k r 1 : Nat) := mix_val k r 1 Hk.out hr
  have Hv := Lib.hid hv; clear hv
  unfold kv
  go_enter Try.func76, Try.ntmps76
  go_wp2
  go_quiet (first | (go_at_call_of 80 (Value.int .i64 18); exact Calls.quiet_of_same (rot_18 r _ hr)) | (go_at_call_of 80 (Value.int .i64 7); refine Calls.quiet_of_same (rot_7' (mixIn k r 1) _ _ (mixIn_lt _ _ _) ?_); simp only [mixIn, Nat.reduceMod, Nat.reduceAdd, Nat.reduceMul]; omega))
  go_wp2
  go_ret
  refine ⟨congrArg (fun z : Int => Ending.returned (.int .u32 z)) Hv.out, ?_⟩
  exact below_drewN ((Below.refl _ _).alloc (Nat.le_refl _) _) _

set_option maxRecDepth 100000 in
set_option maxHeartbeats 400000 in
theorem mix_2 (k : Nat → Nat) (r : Nat) (w : World) (hk : ∀ j, k j < 4294967296) (hr : r < 4294967296) :
    Calls Try.prog 76 #[kv k, .int .u32 r, .int .i64 2] w (MixPost k r 2 w) := by
  have Hk := Lib.hid hk; clear hk
  have hv : bits .xor .u32 (bits .xor .u32 (rotl (mixIn k r 2) 7 : Nat) (rotl r 18 : Nat)) (k 3 : Nat) = (mix k r 2 : Nat) := mix_val k r 2 Hk.out hr
  have Hv := Lib.hid hv; clear hv
  unfold kv
  go_enter Try.func76, Try.ntmps76
  go_wp2
  go_quiet (first | (go_at_call_of 80 (Value.int .i64 18); exact Calls.quiet_of_same (rot_18 r _ hr)) | (go_at_call_of 80 (Value.int .i64 7); refine Calls.quiet_of_same (rot_7' (mixIn k r 2) _ _ (mixIn_lt _ _ _) ?_); simp only [mixIn, Nat.reduceMod, Nat.reduceAdd, Nat.reduceMul]; omega))
  go_wp2
  go_ret
  refine ⟨congrArg (fun z : Int => Ending.returned (.int .u32 z)) Hv.out, ?_⟩
  exact below_drewN ((Below.refl _ _).alloc (Nat.le_refl _) _) _

set_option maxRecDepth 100000 in
set_option maxHeartbeats 400000 in
theorem mix_3 (k : Nat → Nat) (r : Nat) (w : World) (hk : ∀ j, k j < 4294967296) (hr : r < 4294967296) :
    Calls Try.prog 76 #[kv k, .int .u32 r, .int .i64 3] w (MixPost k r 3 w) := by
  have Hk := Lib.hid hk; clear hk
  have hv : bits .xor .u32 (bits .xor .u32 (rotl (mixIn k r 3) 7 : Nat) (rotl r 18 : Nat)) (k 0 : Nat) = (mix k r 3 : Nat) := mix_val k r 3 Hk.out hr
  have Hv := Lib.hid hv; clear hv
  unfold kv
  go_enter Try.func76, Try.ntmps76
  go_wp2
  go_quiet (first | (go_at_call_of 80 (Value.int .i64 18); exact Calls.quiet_of_same (rot_18 r _ hr)) | (go_at_call_of 80 (Value.int .i64 7); refine Calls.quiet_of_same (rot_7' (mixIn k r 3) _ _ (mixIn_lt _ _ _) ?_); simp only [mixIn, Nat.reduceMod, Nat.reduceAdd, Nat.reduceMul]; omega))
  go_wp2
  go_ret
  refine ⟨congrArg (fun z : Int => Ending.returned (.int .u32 z)) Hv.out, ?_⟩
  exact below_drewN ((Below.refl _ _).alloc (Nat.le_refl _) _) _

set_option maxRecDepth 100000 in
set_option maxHeartbeats 400000 in
theorem mix_4 (k : Nat → Nat) (r : Nat) (w : World) (hk : ∀ j, k j < 4294967296) (hr : r < 4294967296) :
    Calls Try.prog 76 #[kv k, .int .u32 r, .int .i64 4] w (MixPost k r 4 w) := by
  have Hk := Lib.hid hk; clear hk
  have hv : bits .xor .u32 (bits .xor .u32 (rotl (mixIn k r 4) 7 : Nat) (rotl r 18 : Nat)) (k 1 : Nat) = (mix k r 4 : Nat) := mix_val k r 4 Hk.out hr
  have Hv := Lib.hid hv; clear hv
  unfold kv
  go_enter Try.func76, Try.ntmps76
  go_wp2
  go_quiet (first | (go_at_call_of 80 (Value.int .i64 18); exact Calls.quiet_of_same (rot_18 r _ hr)) | (go_at_call_of 80 (Value.int .i64 7); refine Calls.quiet_of_same (rot_7' (mixIn k r 4) _ _ (mixIn_lt _ _ _) ?_); simp only [mixIn, Nat.reduceMod, Nat.reduceAdd, Nat.reduceMul]; omega))
  go_wp2
  go_ret
  refine ⟨congrArg (fun z : Int => Ending.returned (.int .u32 z)) Hv.out, ?_⟩
  exact below_drewN ((Below.refl _ _).alloc (Nat.le_refl _) _) _

set_option maxRecDepth 100000 in
set_option maxHeartbeats 400000 in
theorem mix_5 (k : Nat → Nat) (r : Nat) (w : World) (hk : ∀ j, k j < 4294967296) (hr : r < 4294967296) :
    Calls Try.prog 76 #[kv k, .int .u32 r, .int .i64 5] w (MixPost k r 5 w) := by
  have Hk := Lib.hid hk; clear hk
  have hv : bits .xor .u32 (bits .xor .u32 (rotl (mixIn k r 5) 7 : Nat) (rotl r 18 : Nat)) (k 2 : Nat) = (mix k r 5 : Nat) := mix_val k r 5 Hk.out hr
  have Hv := Lib.hid hv; clear hv
  unfold kv
  go_enter Try.func76, Try.ntmps76
  go_wp2
  go_quiet (first | (go_at_call_of 80 (Value.int .i64 18); exact Calls.quiet_of_same (rot_18 r _ hr)) | (go_at_call_of 80 (Value.int .i64 7); refine Calls.quiet_of_same (rot_7' (mixIn k r 5) _ _ (mixIn_lt _ _ _) ?_); simp only [mixIn, Nat.reduceMod, Nat.reduceAdd, Nat.reduceMul]; omega))
  go_wp2
  go_ret
  refine ⟨congrArg (fun z : Int => Ending.returned (.int .u32 z)) Hv.out, ?_⟩
  exact below_drewN ((Below.refl _ _).alloc (Nat.le_refl _) _) _

set_option maxRecDepth 100000 in
set_option maxHeartbeats 400000 in
theorem mix_6 (k : Nat → Nat) (r : Nat) (w : World) (hk : ∀ j, k j < 4294967296) (hr : r < 4294967296) :
    Calls Try.prog 76 #[kv k, .int .u32 r, .int .i64 6] w (MixPost k r 6 w) := by
  have Hk := Lib.hid hk; clear hk
  have hv : bits .xor .u32 (bits .xor .u32 (rotl (mixIn k r 6) 7 : Nat) (rotl r 18 : Nat)) (k 3 : Nat) = (mix k r 6 : Nat) := mix_val k r 6 Hk.out hr
  have Hv := Lib.hid hv; clear hv
  unfold kv
  go_enter Try.func76, Try.ntmps76
  go_wp2
  go_quiet (first | (go_at_call_of 80 (Value.int .i64 18); exact Calls.quiet_of_same (rot_18 r _ hr)) | (go_at_call_of 80 (Value.int .i64 7); refine Calls.quiet_of_same (rot_7' (mixIn k r 6) _ _ (mixIn_lt _ _ _) ?_); simp only [mixIn, Nat.reduceMod, Nat.reduceAdd, Nat.reduceMul]; omega))
  go_wp2
  go_ret
  refine ⟨congrArg (fun z : Int => Ending.returned (.int .u32 z)) Hv.out, ?_⟩
  exact below_drewN ((Below.refl _ _).alloc (Nat.le_refl _) _) _

set_option maxRecDepth 100000 in
set_option maxHeartbeats 400000 in
theorem mix_7 (k : Nat → Nat) (r : Nat) (w : World) (hk : ∀ j, k j < 4294967296) (hr : r < 4294967296) :
    Calls Try.prog 76 #[kv k, .int .u32 r, .int .i64 7] w (MixPost k r 7 w) := by
  have Hk := Lib.hid hk; clear hk
  have hv : bits .xor .u32 (bits .xor .u32 (rotl (mixIn k r 7) 7 : Nat) (rotl r 18 : Nat)) (k 0 : Nat) = (mix k r 7 : Nat) := mix_val k r 7 Hk.out hr
  have Hv := Lib.hid hv; clear hv
  unfold kv
  go_enter Try.func76, Try.ntmps76
  go_wp2
  go_quiet (first | (go_at_call_of 80 (Value.int .i64 18); exact Calls.quiet_of_same (rot_18 r _ hr)) | (go_at_call_of 80 (Value.int .i64 7); refine Calls.quiet_of_same (rot_7' (mixIn k r 7) _ _ (mixIn_lt _ _ _) ?_); simp only [mixIn, Nat.reduceMod, Nat.reduceAdd, Nat.reduceMul]; omega))
  go_wp2
  go_ret
  refine ⟨congrArg (fun z : Int => Ending.returned (.int .u32 z)) Hv.out, ?_⟩
  exact below_drewN ((Below.refl _ _).alloc (Nat.le_refl _) _) _

theorem mix_any (k : Nat → Nat) (r i : Nat) (w : World) (hk : ∀ j, k j < 4294967296) (hr : r < 4294967296) (hi : i < 8) :
    Calls Try.prog 76 #[kv k, .int .u32 r, .int .i64 i] w (MixPost k r i w) := by
  match i, hi with
  | 0, _ => exact mix_0 k r w hk hr
  | 1, _ => exact mix_1 k r w hk hr
  | 2, _ => exact mix_2 k r w hk hr
  | 3, _ => exact mix_3 k r w hk hr
  | 4, _ => exact mix_4 k r w hk hr
  | 5, _ => exact mix_5 k r w hk hr
  | 6, _ => exact mix_6 k r w hk hr
  | 7, _ => exact mix_7 k r w hk hr

end Go.Proofs.Ytmdfpknhfkgfoaa
