/- The contracts of cipher.state's methods forward and swapped. -/
import Derived.Test.YtmdfpknhfkgfoaaMix
import Derived.Deep.RegionHeld3
import Derived.Handy
namespace Go.Proofs.Ytmdfpknhfkgfoaa
open Go.RowKit

abbrev sv (l r : Nat) : Value := .agg #[.int .u32 l, .int .u32 r]

def StPost (l r : Nat) (w : World) (e : Ending) (w' : World) : Prop := e = .returned (sv l r) ∧ Below w.heap.size w w'

set_option maxRecDepth 100000 in
set_option maxHeartbeats 400000 in
theorem swapped_any (l r : Nat) (w : World) :
    Calls Try.prog 69 #[sv l r] w (StPost r l w) := by
  go_enter Try.func69, Try.ntmps69
  go_wp2
  refine bodyPost_ret (v := sv r l) (by simp [results, Try.results69, go_sem]) rfl ⟨rfl, ?_⟩
  go_grown

theorem cells6 {W w' : World} {B : Nat} {v0 v1 v2 v3 v4 v5 : Value} (hb : Below W.heap.size W w') (hB : B + 1 < W.heap.size)
    (h : W.cell? ⟨B, 0, none⟩ = some v0 ∧ W.cell? ⟨B, 1, none⟩ = some v1 ∧ W.cell? ⟨B + 1, 0, none⟩ = some v2 ∧ W.cell? ⟨B + 1, 1, none⟩ = some v3 ∧ W.cell? ⟨B + 1, 2, none⟩ = some v4 ∧ W.cell? ⟨B + 1, 3, none⟩ = some v5) :
    w'.cell? ⟨B, 0, none⟩ = some v0 ∧ w'.cell? ⟨B, 1, none⟩ = some v1 ∧ w'.cell? ⟨B + 1, 0, none⟩ = some v2 ∧ w'.cell? ⟨B + 1, 1, none⟩ = some v3 ∧ w'.cell? ⟨B + 1, 2, none⟩ = some v4 ∧ w'.cell? ⟨B + 1, 3, none⟩ = some v5 := by
  have e0 : ∀ o, w'.cell? ⟨B, o, none⟩ = W.cell? ⟨B, o, none⟩ := fun o => hb.cell (p := ⟨B, o, none⟩) (by show B < _; omega)
  have e1 : ∀ o, w'.cell? ⟨B + 1, o, none⟩ = W.cell? ⟨B + 1, o, none⟩ := fun o => hb.cell (p := ⟨B + 1, o, none⟩) hB
  rw [e0, e0, e1, e1, e1, e1]
  exact h

theorem cells6_start (w : World) (v0 v1 v2 v3 v4 v5 : Value) (t0 t1 : TypeId) (o : Obj) :
    let W := (((w.alloc (.cells #[v0, v1] t0)).alloc (.cells #[v2, v3, v4, v5] t1)).alloc o).drew
    W.cell? ⟨w.heap.size, 0, none⟩ = some v0 ∧ W.cell? ⟨w.heap.size, 1, none⟩ = some v1 ∧ W.cell? ⟨w.heap.size + 1, 0, none⟩ = some v2 ∧ W.cell? ⟨w.heap.size + 1, 1, none⟩ = some v3 ∧ W.cell? ⟨w.heap.size + 1, 2, none⟩ = some v4 ∧ W.cell? ⟨w.heap.size + 1, 3, none⟩ = some v5 := by
  simp [go_sem]

theorem res2 {w w' : World} {o0 o1 : Obj} {a b : Value} {t : TypeId} (hb : Below (((w.alloc o0).alloc o1).alloc (.cells #[a, b] t)).drew.heap.size (((w.alloc o0).alloc o1).alloc (.cells #[a, b] t)).drew w') :
    w'.cell? ⟨w.heap.size + 1 + 1, 0, none⟩ = some a ∧ w'.cell? ⟨w.heap.size + 1 + 1, 1, none⟩ = some b ∧ w'.frozen? ⟨w.heap.size + 1 + 1, 0, none⟩ = false ∧ w'.frozen? ⟨w.heap.size + 1 + 1, 1, none⟩ = false := by
  have e0 : ∀ o, w'.cell? ⟨w.heap.size + 1 + 1, o, none⟩ = _ := fun o => hb.cell (p := ⟨w.heap.size + 1 + 1, o, none⟩) (by simp)
  have e1 : ∀ o, w'.frozen? ⟨w.heap.size + 1 + 1, o, none⟩ = _ := fun o => hb.frozen (p := ⟨w.heap.size + 1 + 1, o, none⟩) (by simp)
  rw [e0, e0, e1, e1]
  simp [go_sem]

set_option maxRecDepth 100000 in
set_option maxHeartbeats 400000 in
theorem forward_any (k : Nat → Nat) (l r i : Nat) (w : World) (hk : ∀ j, k j < 4294967296) (hl : l < 4294967296) (hr : r < 4294967296) (hi : i < 8) :
    Calls Try.prog 68 #[sv l r, kv k, .int .i64 i] w (StPost r (l ^^^ mix k r i) w) := by
  have Hk := Lib.hid hk; clear hk
  have hn2 : ¬ (w.heap.size = w.heap.size + 1 + 1) := by omega
  have hn3 : ¬ (w.heap.size + 1 + 1 = w.heap.size) := by omega
  go_enter Try.func68, Try.ntmps68
  go_wp2
  go_region_held3 (fun w' => w'.cell? ⟨w.heap.size, 0, none⟩ = some (.int .u32 l) ∧ w'.cell? ⟨w.heap.size, 1, none⟩ = some (.int .u32 r) ∧ w'.cell? ⟨w.heap.size + 1, 0, none⟩ = some (.int .u32 (k 0)) ∧ w'.cell? ⟨w.heap.size + 1, 1, none⟩ = some (.int .u32 (k 1)) ∧ w'.cell? ⟨w.heap.size + 1, 2, none⟩ = some (.int .u32 (k 2)) ∧ w'.cell? ⟨w.heap.size + 1, 3, none⟩ = some (.int .u32 (k 3))) (first | exact hS | go_keep)
    (first | (go_at_call 76; refine (mix_any k r i _ Hk.out hr hi).mono ?_; rintro e w' ⟨rfl, hb⟩; have hS := cells6 (B := w.heap.size) hb (by simp) (cells6_start _ _ _ _ _ _ _ _ _ _); obtain ⟨hr0, hr1, hf0, hf1⟩ := res2 hb))
  rw [u32_xor_nat _ _ hl (mix_lt k r i Hk.out hr)]
  clear hS
  go_wp2
  refine bodyPost_ret (v := sv r (l ^^^ mix k r i)) (by simp [results, Try.results68, go_sem, hr0, hr1]) rfl ⟨rfl, ?_⟩
  have h0 : Below w.heap.size w w' := by
    refine Below.trans ?_ (hb.mono (by simp; omega))
    go_grown
  exact (h0.setCell (by simp; omega) _).setCell (by simp; omega) _

end Go.Proofs.Ytmdfpknhfkgfoaa
