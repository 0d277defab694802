/- The contract of cipher.parse. -/
import Derived.Test.YtmdfpknhfkgfoaaText
import Derived.Test.YtmdfpknhfkgfoaaLaws
import Derived.Deep.DeepCutAuto
namespace Go.Proofs.Ytmdfpknhfkgfoaa
open Go.RowKit

def ParsePost (key block : ByteArray) (w : World) (e : Ending) (w' : World) : Prop :=
  e = .returned (.tuple #[kv (word key.data.toList), sv (word block.data.toList 0) (word block.data.toList 1), .bool true]) ∧ Below w.heap.size w w'

def ParseNo (w : World) (e : Ending) (w' : World) : Prop :=
  e = .returned (.tuple #[kv (fun _ => 0), sv 0 0, .bool false]) ∧ Below w.heap.size w w'

set_option maxRecDepth 100000 in
set_option maxHeartbeats 400000 in
theorem parse_no (key block : ByteArray) (w : World) (h : key.size ≠ 16 ∨ block.size ≠ 8) :
    Calls Try.prog 67 #[.string key, .string block] w (ParseNo w) := by
  by_cases h1 : key.size = 16
  · have h2 : ((block.size : Int) != 8) = true := by rw [bne_iff_ne]; omega
    have h1' : ((key.size : Int) != 16) = false := by simp; omega
    have H := Lib.hid h1; clear h1 h
    go_enter Try.func67, Try.ntmps67
    go_wp2
    go_region
    go_wp2
    refine bodyPost_ret (v := .tuple #[kv (fun _ => 0), sv 0 0, .bool false]) (by simp [results, Try.results67, go_sem]) rfl ⟨rfl, ?_⟩
    go_grown
  · have h2 : ((key.size : Int) != 16) = true := by rw [bne_iff_ne]; omega
    have H := Lib.hid h1; clear h1 h
    go_enter Try.func67, Try.ntmps67
    go_wp2
    go_region
    go_wp2
    refine bodyPost_ret (v := .tuple #[kv (fun _ => 0), sv 0 0, .bool false]) (by simp [results, Try.results67, go_sem]) rfl ⟨rfl, ?_⟩
    go_grown

theorem size_u32 : (Try.prog.info? 105).map (·.size) = some 1 := by kernel_rfl

theorem words4 (l : List UInt8) : wordVals l 4 = [.int .u32 (word l 0 : Nat), .int .u32 (word l 1 : Nat), .int .u32 (word l 2 : Nat), .int .u32 (word l 3 : Nat)] := by simp [wordVals, List.range_succ]

theorem one_words (l : List UInt8) (c : Nat) : ∀ v ∈ wordVals l c, v.oneCell' = true := by
  intro v hv
  simp [wordVals] at hv
  obtain ⟨i, _, rfl⟩ := hv
  rfl

set_option maxRecDepth 100000 in
set_option maxHeartbeats 400000 in
theorem parse_yes (key block : ByteArray) (w : World) (hk : key.size = 16) (hb : block.size = 8) :
    Calls Try.prog 67 #[.string key, .string block] w (ParsePost key block w) := by
  have h1 : ((key.size : Int) != 16) = false := by simp; omega
  have h2 : ((block.size : Int) != 8) = false := by simp; omega
  have Hk := Lib.hid hk; clear hk
  have Hb := Lib.hid hb; clear hb
  go_enter Try.func67, Try.ntmps67
  go_wp2
  go_region_law (first | (refine step_copy_grown rfl (.tmp 18) (.tmp 20) 118 118 rfl 105 Try.underlying118 size_u32 w.heap.size 0 ⟨g, 0, none⟩ 4 4 4 cap (by simp [Act.eval]) (by simp [Act.eval]) [.int .u32 0, .int .u32 0, .int .u32 0, .int .u32 0] 107 HgB.out (wordVals key.data.toList 4) (by rw [wordVals_length]; rfl) Hsrc.out (by rw [wordVals_length]; decide) honec.out ?_; intro w4 hg4 hgr4) | (go_simp; go_at_call 75; refine (words_any key 4 _ (by rw [Hk.out]; decide) (by rw [Hk.out]; decide) (by decide)).mono ?_; rintro e w3 ⟨v, rfl, hown, hb3⟩; obtain ⟨g, cap, rfl⟩ := ownsRow_succ hown; have HgB := Lib.hid ((hb3.block w.heap.size (by simp; omega)).trans (alloc2_first _ _ _)); have HgC := Lib.hid ((hb3.block (w.heap.size + 1) (by simp)).trans (alloc2_second _ _ _)); have Hsrc := Lib.hid (own_src hown); have honec := Lib.hid (one_words key.data.toList 4)))
  have hz3 : w.heap.size + 2 ≤ w3.heap.size := by have := hb3.size; simp at this; omega
  have hz4 : w.heap.size + 2 ≤ w4.heap.size := Nat.le_trans hz3 hgr4.size
  have hbw4 : Below w.heap.size w w4 := by
    refine Below.grown (w := w3) ?_ hgr4 (by omega) (fun k hk => by cases hk; exact Nat.le_refl _)
    refine Below.trans ?_ (hb3.mono (by simp; omega))
    go_grown
  have HC4 := Lib.hid ((hgr4.block (w.heap.size + 1) (by omega) (by simp)).trans HgC.out)
  have HB4 : Hid (w4.heap[w.heap.size]? = some (.cells #[.int .u32 (word key.data.toList 0 : Nat), .int .u32 (word key.data.toList 1 : Nat), .int .u32 (word key.data.toList 2 : Nat), .int .u32 (word key.data.toList 3 : Nat)] 107 (0, 0))) := by
    have := hg4.out
    rw [words4] at this
    exact this
  clear hg4 hgr4 HgB HgC Hsrc honec hown hb3 hz3
  go_wp2_with (fail)
  refine (words_any block 2 _ (by rw [Hb.out]; decide) (by rw [Hb.out]; decide) (by decide)).mono ?_
  rintro e w5 ⟨v, rfl, hown, hb5⟩
  obtain ⟨g, cap, rfl⟩ := ownsRow_succ hown
  have hg := (hown.lt g rfl).1
  have HB5 := (hb5.block w.heap.size (by omega)).trans HB4.out
  have HC5 := (hb5.block (w.heap.size + 1) (by omega)).trans HC4.out
  have c0 := cell_of_heap HB5 0
  have c1 := cell_of_heap HB5 1
  have c2 := cell_of_heap HB5 2
  have c3 := cell_of_heap HB5 3
  have d0 := cell_of_heap HC5 0
  have d1 := cell_of_heap HC5 1
  have f0 := free_of_heap HB5 0
  have f1 := free_of_heap HB5 1
  have f2 := free_of_heap HB5 2
  have f3 := free_of_heap HB5 3
  have f4 := free_of_heap HC5 0
  have f5 := free_of_heap HC5 1
  have e0 := hown.cellAt 0 (by decide)
  have e1 := hown.cellAt 1 (by decide)
  have hne : ¬ (g = w.heap.size) := by omega
  have hne1 : ¬ (g = w.heap.size + 1) := by omega
  have hbw5 : Below w.heap.size w w5 := hbw4.trans (hb5.mono (by omega))
  simp [wordVals, List.range_succ] at e0 e1
  simp at c0 c1 c2 c3 d0 d1
  have K1 := Lib.hid hbw5
  clear HB5 HC5 HB4 HC4 hown hb5 hbw4 hbw5 hz4
  go_wp2
  go_region
  go_wp2
  refine bodyPost_ret (v := .tuple #[kv (word key.data.toList), sv (word block.data.toList 0) (word block.data.toList 1), .bool true]) (by simp [results, Try.results67, go_sem, c0, c1, c2, c3, d0, d1]) rfl ⟨rfl, ?_⟩
  have := K1.out
  go_grown

end Go.Proofs.Ytmdfpknhfkgfoaa
