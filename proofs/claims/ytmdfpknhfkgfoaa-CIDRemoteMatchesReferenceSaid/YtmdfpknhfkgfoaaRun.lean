/- The contracts of cipher.run, Encrypt and Decrypt. -/
import Derived.Test.YtmdfpknhfkgfoaaParse
import Derived.Test.YtmdfpknhfkgfoaaPlain2
import Derived.StillTailTactics
namespace Go.Proofs.Ytmdfpknhfkgfoaa
open Go.RowKit

theorem enc1_any (i : Nat) (w : World) : Calls Try.prog 50 #[.int .i64 i] w fun e w' => e = .returned (.int .i64 (ordE i : Nat)) ∧ w' = w := by
  go_enter Try.func50, Try.ntmps50
  go_wp2
  go_ret
  exact ⟨rfl, rfl⟩

theorem dec1_any (i : Nat) (w : World) (hi : i < 8) : Calls Try.prog 54 #[.int .i64 i] w fun e w' => e = .returned (.int .i64 (ordD i : Nat)) ∧ w' = w := by
  have h : (7 : Int) - i = (ordD i : Nat) := by unfold ordD; omega
  have H := Lib.hid h; clear h
  go_enter Try.func54, Try.ntmps54
  go_wp2
  go_ret
  exact ⟨congrArg (fun z : Int => Ending.returned (.int .i64 z)) H.out, rfl⟩

def CryptPost (ord : Nat → Nat) (key block : ByteArray) (w : World) (e : Ending) (w' : World) : Prop :=
  e = .returned (.tuple #[.string ⟨(crypt ord key.data.toList block.data.toList).toArray⟩, .int .i64 0]) ∧ Below w.heap.size w w'

def CryptNo (w : World) (e : Ending) (w' : World) : Prop := e = .returned (.tuple #[.string ⟨#[]⟩, .int .i64 20]) ∧ Below w.heap.size w w'

structure RunInv (k : Nat → Nat) (s : Nat × Nat) (B : Nat) (w wr : World) : Prop where
  key : wr.heap[B]? = some (.cells #[.int .u32 (k 0), .int .u32 (k 1), .int .u32 (k 2), .int .u32 (k 3)] 107 (0, 0))
  st : wr.heap[B + 1]? = some (.cells #[.int .u32 s.1, .int .u32 s.2] 109 (0, 0))
  le : w.heap.size ≤ B
  below : Below w.heap.size w wr

theorem heap_setCell_same (w : World) (g : Nat) (cs : Array Value) (t : TypeId) (j : Nat) (u : Value) (h : w.heap[g]? = some (.cells cs t (0, 0))) : (w.setCell ⟨g, j, none⟩ u).heap[g]? = some (.cells (cs.setIfInBounds j u) t (0, 0)) := by
  have hlt : g < w.heap.size := (Array.getElem?_eq_some_iff.1 h).1
  have hv : w.heap[g] = .cells cs t (0, 0) := (Array.getElem?_eq_some_iff.1 h).2
  simp [World.setCell, hlt, Array.getElem_modify, hv]

theorem RunInv.next {k : Nat → Nat} {s : Nat × Nat} {B : Nat} {w wr w2 : World} (h : RunInv k s B w wr) (hb : Below wr.drew.heap.size wr.drew w2) : RunInv k s B w w2 := by
  have h0 := (Array.getElem?_eq_some_iff.1 h.key).1
  have h1 := (Array.getElem?_eq_some_iff.1 h.st).1
  exact ⟨(hb.block B h0).trans h.key, (hb.block (B + 1) h1).trans h.st, h.le, h.below.drew.trans (hb.mono h.below.size)⟩

theorem RunInv.store {k : Nat → Nat} {s : Nat × Nat} {B : Nat} {w w2 : World} (h : RunInv k s B w w2) (a b : Nat) : RunInv k (a, b) B w ((w2.setCell ⟨B + 1, 0, none⟩ (.int .u32 a)).setCell ⟨B + 1, 1, none⟩ (.int .u32 b)) := by
  refine ⟨?_, ?_, h.le, (h.below.setCell (by have := h.le; simp; omega) _).setCell (by have := h.le; simp; omega) _⟩
  · rw [Below.heap_setCell _ _ _ _ (by simp), Below.heap_setCell _ _ _ _ (by simp)]; exact h.key
  · rw [heap_setCell_same _ _ _ _ _ _ (heap_setCell_same _ _ _ _ _ _ h.st)]; rfl

set_option maxRecDepth 100000 in
set_option maxHeartbeats 800000 in
theorem run_encE (key block : ByteArray) (w : World) (hk : key.size = 16) (hb : block.size = 8) :
    Calls Try.prog 49 #[.string key, .string block, .func (.func 50) #[] #[]] w (CryptPost ordE key block w) := by
  have Hk := Lib.hid hk; clear hk
  have Hb := Lib.hid hb; clear hb
  go_enter Try.func49, Try.ntmps49
  go_wp2_with (fail)
  refine (parse_yes key block _ Hk.out Hb.out).mono ?_
  rintro e w1 ⟨rfl, hb1⟩
  have HI : Hid (RunInv (word key.data.toList) (steps (word key.data.toList) ordE (word block.data.toList 0, word block.data.toList 1) 0) w1.heap.size w ((w1.alloc (.cells #[.int .u32 (word key.data.toList 0), .int .u32 (word key.data.toList 1), .int .u32 (word key.data.toList 2), .int .u32 (word key.data.toList 3)] 107)).alloc (.cells #[.int .u32 (word block.data.toList 0), .int .u32 (word block.data.toList 1)] 109))) :=
    ⟨alloc2_first _ _ _, alloc2_second _ _ _, hb1.size, (hb1.alloc hb1.size _).alloc (by have := hb1.size; simp; omega) _⟩
  have hle := hb1.size
  clear hb1
  have hkl : Hid (∀ j, word key.data.toList j < 4294967296) := word_lt key.data.toList
  have hsl : Hid (∀ j, (steps (word key.data.toList) ordE (word block.data.toList 0, word block.data.toList 1) j).1 < 4294967296 ∧ (steps (word key.data.toList) ordE (word block.data.toList 0, word block.data.toList 1) j).2 < 4294967296) := steps_lt _ _ _ (word_lt _) (word_lt _ _) (word_lt _ _)
  go_wp2
  go_loopw [22] (fun i wr => ∃ j : Nat, j ≤ 8 ∧ i = .int .i64 j ∧ Hid (RunInv (word key.data.toList) (steps (word key.data.toList) ordE (word block.data.toList 0, word block.data.toList 1) j) w1.heap.size w wr)) (fun i _ => 8 - (intOf i).toNat)
  case atStart => exact ⟨0, by omega, rfl, HI⟩
  case round =>
    clear HI
    obtain ⟨j, hj, rfl, HI⟩ := hrel
    have hst := steps_succ (word key.data.toList) ordE (word block.data.toList 0, word block.data.toList 1) j
    have hlt := hsl.out j
    generalize hS : steps (word key.data.toList) ordE (word block.data.toList 0, word block.data.toList 1) j = s at *
    obtain ⟨l, r⟩ := s
    have Hst := Lib.hid hst; clear hst
    have HS := Lib.hid hS; clear hS
    have c0 := cell_of_heap HI.out.key 0
    have c1 := cell_of_heap HI.out.key 1
    have c2 := cell_of_heap HI.out.key 2
    have c3 := cell_of_heap HI.out.key 3
    have d0 := cell_of_heap HI.out.st 0
    have d1 := cell_of_heap HI.out.st 1
    have f4 := free_of_heap HI.out.st 0
    have f5 := free_of_heap HI.out.st 1
    simp at c0 c1 c2 c3 d0 d1
    by_cases hj8 : j < 8
    · go_wp2
      refine wp_region_still_tail 6 (by kernel_rfl) (by kernel_rfl) ?_
      simp only [List.take_succ_cons, List.take_zero, List.drop_succ_cons, List.drop_zero]
      repeat still_step
      still_call (enc1_any _ _)
      refine wpStill_nil ?_
      go_wp2_with (fail)
      refine (forward_any (word key.data.toList) l r (ordE j) _ hkl.out hlt.1 hlt.2 (by unfold ordE; omega)).mono ?_
      rintro e w2 ⟨rfl, hb2⟩
      have HI2 := Lib.hid (HI.out.next hb2)
      have e0 := cell_of_heap HI2.out.st 0
      have e1 := cell_of_heap HI2.out.st 1
      have g4 := free_of_heap HI2.out.st 0
      have g5 := free_of_heap HI2.out.st 1
      simp at e0 e1
      have HI3 := Lib.hid (HI2.out.store r (l ^^^ mix (word key.data.toList) r (ordE j)))
      clear HI HI2 c0 c1 c2 c3 d0 d1 f4 f5 hb2
      go_wp2
      go_roundw
      case rel => exact ⟨j + 1, by omega, by go_num, by rw [Hst.out]; exact HI3⟩
      case measure => simp [intOf]; omega
    · obtain rfl : j = 8 := by omega
      go_wp2_with (fail)
      refine (swapped_any _ _ _).mono ?_
      rintro e w3 ⟨rfl, hb3⟩
      go_wp2_with (fail)
      refine (text_any _ _ _ hlt.2 hlt.1).mono ?_
      rintro e w4 ⟨rfl, hb4⟩
      go_wp2
      go_ret2
      refine ⟨?_, ?_⟩
      · unfold crypt; rw [HS.out]; rfl
      · have hz := HI.out.below.size
        have hz3 := hb3.size
        exact HI.out.below.trans ((hb3.mono hz).trans (hb4.mono (Nat.le_trans hz hz3)))

set_option maxRecDepth 100000 in
set_option maxHeartbeats 800000 in
theorem run_encD (key block : ByteArray) (w : World) (hk : key.size = 16) (hb : block.size = 8) :
    Calls Try.prog 49 #[.string key, .string block, .func (.func 54) #[] #[]] w (CryptPost ordD key block w) := by
  have Hk := Lib.hid hk; clear hk
  have Hb := Lib.hid hb; clear hb
  go_enter Try.func49, Try.ntmps49
  go_wp2_with (fail)
  refine (parse_yes key block _ Hk.out Hb.out).mono ?_
  rintro e w1 ⟨rfl, hb1⟩
  have HI : Hid (RunInv (word key.data.toList) (steps (word key.data.toList) ordD (word block.data.toList 0, word block.data.toList 1) 0) w1.heap.size w ((w1.alloc (.cells #[.int .u32 (word key.data.toList 0), .int .u32 (word key.data.toList 1), .int .u32 (word key.data.toList 2), .int .u32 (word key.data.toList 3)] 107)).alloc (.cells #[.int .u32 (word block.data.toList 0), .int .u32 (word block.data.toList 1)] 109))) :=
    ⟨alloc2_first _ _ _, alloc2_second _ _ _, hb1.size, (hb1.alloc hb1.size _).alloc (by have := hb1.size; simp; omega) _⟩
  have hle := hb1.size
  clear hb1
  have hkl : Hid (∀ j, word key.data.toList j < 4294967296) := word_lt key.data.toList
  have hsl : Hid (∀ j, (steps (word key.data.toList) ordD (word block.data.toList 0, word block.data.toList 1) j).1 < 4294967296 ∧ (steps (word key.data.toList) ordD (word block.data.toList 0, word block.data.toList 1) j).2 < 4294967296) := steps_lt _ _ _ (word_lt _) (word_lt _ _) (word_lt _ _)
  go_wp2
  go_loopw [22] (fun i wr => ∃ j : Nat, j ≤ 8 ∧ i = .int .i64 j ∧ Hid (RunInv (word key.data.toList) (steps (word key.data.toList) ordD (word block.data.toList 0, word block.data.toList 1) j) w1.heap.size w wr)) (fun i _ => 8 - (intOf i).toNat)
  case atStart => exact ⟨0, by omega, rfl, HI⟩
  case round =>
    clear HI
    obtain ⟨j, hj, rfl, HI⟩ := hrel
    have hst := steps_succ (word key.data.toList) ordD (word block.data.toList 0, word block.data.toList 1) j
    have hlt := hsl.out j
    generalize hS : steps (word key.data.toList) ordD (word block.data.toList 0, word block.data.toList 1) j = s at *
    obtain ⟨l, r⟩ := s
    have Hst := Lib.hid hst; clear hst
    have HS := Lib.hid hS; clear hS
    have c0 := cell_of_heap HI.out.key 0
    have c1 := cell_of_heap HI.out.key 1
    have c2 := cell_of_heap HI.out.key 2
    have c3 := cell_of_heap HI.out.key 3
    have d0 := cell_of_heap HI.out.st 0
    have d1 := cell_of_heap HI.out.st 1
    have f4 := free_of_heap HI.out.st 0
    have f5 := free_of_heap HI.out.st 1
    simp at c0 c1 c2 c3 d0 d1
    by_cases hj8 : j < 8
    · go_wp2
      refine wp_region_still_tail 6 (by kernel_rfl) (by kernel_rfl) ?_
      simp only [List.take_succ_cons, List.take_zero, List.drop_succ_cons, List.drop_zero]
      repeat still_step
      still_call (dec1_any _ _ hj8)
      refine wpStill_nil ?_
      go_wp2_with (fail)
      refine (forward_any (word key.data.toList) l r (ordD j) _ hkl.out hlt.1 hlt.2 (by unfold ordD; omega)).mono ?_
      rintro e w2 ⟨rfl, hb2⟩
      have HI2 := Lib.hid (HI.out.next hb2)
      have e0 := cell_of_heap HI2.out.st 0
      have e1 := cell_of_heap HI2.out.st 1
      have g4 := free_of_heap HI2.out.st 0
      have g5 := free_of_heap HI2.out.st 1
      simp at e0 e1
      have HI3 := Lib.hid (HI2.out.store r (l ^^^ mix (word key.data.toList) r (ordD j)))
      clear HI HI2 c0 c1 c2 c3 d0 d1 f4 f5 hb2
      go_wp2
      go_roundw
      case rel => exact ⟨j + 1, by omega, by go_num, by rw [Hst.out]; exact HI3⟩
      case measure => simp [intOf]; omega
    · obtain rfl : j = 8 := by omega
      go_wp2_with (fail)
      refine (swapped_any _ _ _).mono ?_
      rintro e w3 ⟨rfl, hb3⟩
      go_wp2_with (fail)
      refine (text_any _ _ _ hlt.2 hlt.1).mono ?_
      rintro e w4 ⟨rfl, hb4⟩
      go_wp2
      go_ret2
      refine ⟨?_, ?_⟩
      · unfold crypt; rw [HS.out]; rfl
      · have hz := HI.out.below.size
        have hz3 := hb3.size
        exact HI.out.below.trans ((hb3.mono hz).trans (hb4.mono (Nat.le_trans hz hz3)))

set_option maxRecDepth 100000 in
set_option maxHeartbeats 400000 in
theorem run_noE (key block : ByteArray) (w : World) (h : key.size ≠ 16 ∨ block.size ≠ 8) :
    Calls Try.prog 49 #[.string key, .string block, .func (.func 50) #[] #[]] w (CryptNo w) := by
  have H := Lib.hid h; clear h
  go_enter Try.func49, Try.ntmps49
  go_wp2_with (fail)
  refine (parse_no key block _ H.out).mono ?_
  rintro e w1 ⟨rfl, hb1⟩
  go_wp2
  go_ret2
  exact ⟨rfl, (hb1.alloc hb1.size _).alloc (by have := hb1.size; simp; omega) _⟩

set_option maxRecDepth 100000 in
set_option maxHeartbeats 400000 in
theorem encrypt_yes (key block : ByteArray) (w : World) (hk : key.size = 16) (hb : block.size = 8) :
    Calls Try.prog 15 #[.string key, .string block] w (CryptPost ordE key block w) := by
  have Hk := Lib.hid hk; clear hk
  have Hb := Lib.hid hb; clear hb
  go_enter Try.func15, Try.ntmps15
  go_wp2_with (fail)
  refine (run_encE key block _ Hk.out Hb.out).mono ?_
  rintro e w1 ⟨rfl, hb1⟩
  go_wp2
  go_ret2
  exact ⟨rfl, hb1⟩

set_option maxRecDepth 100000 in
set_option maxHeartbeats 400000 in
theorem encrypt_no (key block : ByteArray) (w : World) (h : key.size ≠ 16 ∨ block.size ≠ 8) :
    Calls Try.prog 15 #[.string key, .string block] w (CryptNo w) := by
  have H := Lib.hid h; clear h
  go_enter Try.func15, Try.ntmps15
  go_wp2_with (fail)
  refine (run_noE key block _ H.out).mono ?_
  rintro e w1 ⟨rfl, hb1⟩
  go_wp2
  go_ret2
  exact ⟨rfl, hb1⟩

set_option maxRecDepth 100000 in
set_option maxHeartbeats 400000 in
theorem run_noD (key block : ByteArray) (w : World) (h : key.size ≠ 16 ∨ block.size ≠ 8) :
    Calls Try.prog 49 #[.string key, .string block, .func (.func 54) #[] #[]] w (CryptNo w) := by
  have H := Lib.hid h; clear h
  go_enter Try.func49, Try.ntmps49
  go_wp2_with (fail)
  refine (parse_no key block _ H.out).mono ?_
  rintro e w1 ⟨rfl, hb1⟩
  go_wp2
  go_ret2
  exact ⟨rfl, (hb1.alloc hb1.size _).alloc (by have := hb1.size; simp; omega) _⟩

set_option maxRecDepth 100000 in
set_option maxHeartbeats 400000 in
theorem decrypt_yes (key block : ByteArray) (w : World) (hk : key.size = 16) (hb : block.size = 8) :
    Calls Try.prog 17 #[.string key, .string block] w (CryptPost ordD key block w) := by
  have Hk := Lib.hid hk; clear hk
  have Hb := Lib.hid hb; clear hb
  go_enter Try.func17, Try.ntmps17
  go_wp2_with (fail)
  refine (run_encD key block _ Hk.out Hb.out).mono ?_
  rintro e w1 ⟨rfl, hb1⟩
  go_wp2
  go_ret2
  exact ⟨rfl, hb1⟩

set_option maxRecDepth 100000 in
set_option maxHeartbeats 400000 in
theorem decrypt_no (key block : ByteArray) (w : World) (h : key.size ≠ 16 ∨ block.size ≠ 8) :
    Calls Try.prog 17 #[.string key, .string block] w (CryptNo w) := by
  have H := Lib.hid h; clear h
  go_enter Try.func17, Try.ntmps17
  go_wp2_with (fail)
  refine (run_noD key block _ H.out).mono ?_
  rintro e w1 ⟨rfl, hb1⟩
  go_wp2
  go_ret2
  exact ⟨rfl, hb1⟩

end Go.Proofs.Ytmdfpknhfkgfoaa
