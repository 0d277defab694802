/- law07's FrameFrom. -/
import Derived.Test.YtmdfpknhfkgfoaaRR6
import Derived.Deep.Draws
import Derived.StillTailTactics
import Derived.Lib.SmallJoins
import Derived.Laws.BytesArg
namespace Go.Proofs.Ytmdfpknhfkgfoaa
open Go.RowKit Go.Shelf

/-- A call's parameters, as they are handed over. -/
abbrev callA (C : Call7) : Array Value := #[.int .u8 C.kind, .int .i64 C.n, .int .i64 C.other, .int .i64 C.ty, C.v 1, C.v 2, C.v 3, C.v 4, C.v 5, C.v 6, C.v 7, C.v 8, C.v 9, .int .i64 C.seq, .int .i64 C.ret, .string C.cid]

theorem pick7_at (c : Int) (n : Nat) (z : Int) (w : World) (hz : z = (n : Int)) (h0 : 0 < n) (h1 : n ≤ 10000000000) (hlo : -9223372036854775808 ≤ c) (hhi : c ≤ 9223372036854775807) :
    Calls Try.prog 40 #[.int .i64 c, .int .i64 z] w fun e w' => e = .returned (.int .i64 (pickN c n : Nat)) ∧ w' = w := by
  subst hz
  exact (pick7_any c n w h0 h1 hlo hhi).mono fun _ _ h => ⟨h.1, h.2.symm⟩

theorem tdiv9 {c : Int} (h1 : -9223372036854775808 ≤ c) (h2 : c ≤ 9223372036854775807) : -9223372036854775808 ≤ c.tdiv 9 ∧ c.tdiv 9 ≤ 9223372036854775807 := by
  by_cases h : 0 ≤ c
  · rw [Int.tdiv_eq_ediv_of_nonneg h]; omega
  · have e : c.tdiv 9 = -((-c) / 9) := by rw [← Int.tdiv_eq_ediv_of_nonneg (by omega : 0 ≤ -c), Int.neg_tdiv, Int.neg_neg]
    rw [e]; omega
theorem tdiv16 {c : Int} (h1 : -9223372036854775808 ≤ c) (h2 : c ≤ 9223372036854775807) : -9223372036854775808 ≤ c.tdiv 16 ∧ c.tdiv 16 ≤ 9223372036854775807 := by
  by_cases h : 0 ≤ c
  · rw [Int.tdiv_eq_ediv_of_nonneg h]; omega
  · have e : c.tdiv 16 = -((-c) / 16) := by rw [← Int.tdiv_eq_ediv_of_nonneg (by omega : 0 ≤ -c), Int.neg_tdiv, Int.neg_neg]
    rw [e]; omega

/-- The eight bytes, behind them the run-time's mark. -/
def B8 (g : Nat) (l : List UInt8) (W : World) : Prop := l.length = 8 ∧ W.heap[g]? = some (.cells (byteVals l).toArray 5 (8, 9))
theorem B8.cell {g : Nat} {l : List UInt8} {W : World} (h : B8 g l W) : W.cell? ⟨g, 7, none⟩ = some (.int .u8 ((l.getD 7 0).toNat : Int)) := by
  have h1 := h.1
  rw [Joins.cell_of_block h.2 7]
  simp [byteVals, h1]
theorem B8.free {g : Nat} {l : List UInt8} {W : World} (h : B8 g l W) : W.frozen? ⟨g, 7, none⟩ = false := by
  have h2 := h.2
  simp [World.frozen?, h2]
theorem B8.set {g : Nat} {l : List UInt8} {W : World} (h : B8 g l W) (b : UInt8) : B8 g (l.set 7 b) (W.setCell ⟨g, 7, none⟩ (.int .u8 (b.toNat : Int))) := by
  refine ⟨by rw [List.length_set]; exact h.1, ?_⟩
  rw [Joins.block_setCell h.2, byteVals_set]
  simp
theorem B8.conv {g : Nat} {l : List UInt8} {W : World} (h : B8 g l W) :
    ∃ s : ByteArray, s.size = 8 ∧ ∀ k, (convert 30 9 (.slice (some ⟨g, 0, none⟩) 8 8)).run Try.prog (W.drewN k) = .ok (.string s) (W.drewN k) := by
  have h1 := h.1
  have hc : ∀ j, j < l.length → W.cell? ⟨g, j, none⟩ = some (.int .u8 ((l.getD j 0).toNat : Int)) := fun j hj => by
    rw [Joins.cell_of_block h.2 j]
    simp [byteVals, hj]
  refine ⟨strOfNums (((List.range 8).map fun i => ((l.getD (0 + i) 0).toNat : Int))), by rw [strOfNums_size]; simp, fun k => ?_⟩
  refine run_convert_bytes_arg (P := Try.prog) (W.drewN k) 30 5 Try.underlying30 Try.underlying5 g 0 8 8 _ (by simp) (fun i hi => ?_) 9 Try.underlying9
  have := hc (0 + i) (by omega)
  rw [show (W.drewN k).cell? ⟨g, 0 + i, none⟩ = W.cell? ⟨g, 0 + i, none⟩ from rfl, this]
  simp [List.getD, hi]

/-- Where FrameFrom stands. -/
structure FFAt (A : Array Value) (l : List UInt8) (w W : World) : Prop where
  arg : W.heap[w.heap.size]? = some (.cells A 44 (0, 0))
  res : W.heap[w.heap.size + 1]? = some (.cells zeroFrame 42 (0, 0))
  row : B8 (w.heap.size + 1 + 1) l W
  below : Below w.heap.size w W
theorem FFAt.set {A : Array Value} {l : List UInt8} {w W : World} (h : FFAt A l w W) (b : UInt8) : FFAt A (l.set 7 b) w (W.setCell ⟨w.heap.size + 1 + 1, 7, none⟩ (.int .u8 (b.toNat : Int))) :=
  ⟨(Below.heap_setCell _ _ _ _ (by show w.heap.size ≠ w.heap.size + 1 + 1; omega)).trans h.arg, (Below.heap_setCell _ _ _ _ (by show w.heap.size + 1 ≠ w.heap.size + 1 + 1; omega)).trans h.res, h.row.set b, h.below.setCell (p := ⟨w.heap.size + 1 + 1, 7, none⟩) (by show w.heap.size ≤ w.heap.size + 1 + 1; omega) _⟩

/-- A frame in order. -/
def FFPost (w : World) (e : Ending) (w' : World) : Prop := ∃ (s r : Nat) (c : ByteArray), e = .returned (frameV 24 (s : Int) (r : Int) c) ∧ s < 9 ∧ r ≤ s ∧ c.size = 8 ∧ Below w.heap.size w w'

set_option maxRecDepth 100000 in
set_option maxHeartbeats 1600000 in
theorem frameFrom_any (C : Call7) (hok : C.ok) (w : World) :
    Calls Try.prog 28 #[.agg (callA C)] w (FFPost w) := by
  obtain ⟨hn1, hn2⟩ := hok.n
  obtain ⟨ho1, ho2⟩ := hok.other
  clear hok
  have HF : Hid (FFAt (callA C) (List.replicate 8 97) w (((w.alloc (.cells (callA C) 44)).alloc (.cells zeroFrame 42)).alloc (.cells #[.int .u8 97, .int .u8 97, .int .u8 97, .int .u8 97, .int .u8 97, .int .u8 97, .int .u8 97, .int .u8 97] 5 (8, 9)))) := by
    refine ⟨?_, ?_, ⟨rfl, ?_⟩, ?_⟩
    · exact heap_alloc (heap_alloc (heap_alloc_new w _) _) _
    · have := heap_alloc (heap_alloc_new (w.alloc (.cells (callA C) 44)) (.cells zeroFrame 42)) (.cells #[.int .u8 97, .int .u8 97, .int .u8 97, .int .u8 97, .int .u8 97, .int .u8 97, .int .u8 97, .int .u8 97] 5 (8, 9))
      rw [World.size_alloc] at this
      exact this
    · have := heap_alloc_new ((w.alloc (.cells (callA C) 44)).alloc (.cells zeroFrame 42)) (.cells #[.int .u8 97, .int .u8 97, .int .u8 97, .int .u8 97, .int .u8 97, .int .u8 97, .int .u8 97, .int .u8 97] 5 (8, 9))
      rw [World.size_alloc, World.size_alloc] at this
      exact this
    · exact (((Below.refl _ w).alloc (Nat.le_refl _) _).alloc (by simp) _).alloc (by simp; omega) _
  have kc := Joins.run_convert_bytes_const_at (P := Try.prog) ((w.alloc (.cells (callA C) 44)).alloc (.cells zeroFrame 42)) 30 5 #[.int .u8 97, .int .u8 97, .int .u8 97, .int .u8 97, .int .u8 97, .int .u8 97, .int .u8 97, .int .u8 97] 8 8 (w.heap.size + 1 + 1) (by simp) Try.underlying30 Try.underlying5
  go_enter Try.func28, Try.ntmps28
  go_wp2_with (fail)
  refine (pick7_any C.n 9 _ (by decide) (by decide) hn1 hn2).mono ?_
  rintro e w' ⟨rfl, rfl⟩
  have hpl := pickN_lt C.n 9 (by decide)
  generalize pickN C.n 9 = p at *
  go_upto_region 3 with (fail)
  clear kc
  generalize (((w.alloc (.cells (callA C) 44)).alloc (.cells zeroFrame 42)).alloc (.cells #[.int .u8 97, .int .u8 97, .int .u8 97, .int .u8 97, .int .u8 97, .int .u8 97, .int .u8 97, .int .u8 97] 5 (8, 9))) = W3 at HF ⊢
  generalize List.replicate 8 (97 : UInt8) = l3 at HF
  obtain ⟨b, hb⟩ := u8_is (97 + (p : Int)) (by omega) (by omega)
  have HF4 := Lib.hid (HF.out.set b)
  have y7 := HF.out.row.cell
  have z7 := HF.out.row.free
  have x1 := cell_of_heap HF4.out.arg 1
  have x2 := cell_of_heap HF4.out.arg 2
  simp at x1 x2
  go_wp2_with (fail)
  refine (pick7_any C.other 16 _ (by decide) (by decide) ho1 ho2).mono ?_
  rintro e w' ⟨rfl, rfl⟩
  have hql := pickN_lt C.other 16 (by decide)
  generalize pickN C.other 16 = q at *
  clear y7 z7 HF hb
  generalize (W3.setCell ⟨w.heap.size + 1 + 1, 7, none⟩ (.int .u8 (b.toNat : Int))) = W4 at HF4 x1 x2 ⊢
  generalize l3.set 7 b = l4 at HF4
  go_upto_if 18 with (fail)
  go_cut [] (fun wx => ∃ l, Hid (FFAt (callA C) l w wx))
  case first =>
    by_cases hq : q = 15
    · have hq1 : ((q : Int) == 15) = true := by rw [hq]; rfl
      obtain ⟨m, hm, hm1, hm2⟩ : ∃ m : Int, C.n.tdiv 9 = m ∧ -9223372036854775808 ≤ m ∧ m ≤ 9223372036854775807 := ⟨_, rfl, tdiv9 hn1 hn2⟩
      have hw : IntKind.i64.wrap m = m := IntWalk.i64_in _ (by omega)
      have hr := pickN_lt m 9 (by decide)
      have hp : ∀ W, Calls Try.prog 40 #[.int .i64 m, .int .i64 9] W fun e w' => e = .returned (.int .i64 (pickN m 9 : Nat)) ∧ W = w' := fun W => pick7_any m 9 W (by decide) (by decide) hm1 hm2
      have Hp := Lib.hid hp; clear hp hm1 hm2
      generalize pickN m 9 = r at *
      obtain ⟨b2, hb2⟩ := u8_is (97 + (r : Int)) (by omega) (by omega)
      have HF5 := Lib.hid (HF4.out.set b2)
      have y7 := HF4.out.row.cell
      have z7 := HF4.out.row.free
      clear hq
      go_wp2_with (fail)
      refine (Hp.out _).mono ?_
      rintro e w' ⟨rfl, rfl⟩
      go_wp2
      go_meet
      exact ⟨_, HF5⟩
    · have hq1 : ((q : Int) == 15) = false := by rw [beq_eq_false_iff_ne]; omega
      clear hq
      go_wp2
      go_meet
      exact ⟨_, HF4⟩
  case rest =>
    clear HF4 x1 x2 hql
    obtain ⟨l, HF5⟩ := hcut
    obtain ⟨s, hs, hcv⟩ := HF5.out.row.conv
    obtain ⟨m, hm, hm1, hm2⟩ : ∃ m : Int, C.other.tdiv 16 = m ∧ -9223372036854775808 ≤ m ∧ m ≤ 9223372036854775807 := ⟨_, rfl, tdiv16 ho1 ho2⟩
    have hw : IntKind.i64.wrap m = m := IntWalk.i64_in _ (by omega)
    have hw1 : IntKind.i64.wrap ((p : Int) + 1) = (p : Int) + 1 := IntWalk.i64_in _ (by omega)
    have hr1 := pickN_lt C.other (p + 1) (by omega)
    have hr2 := pickN_lt m 2 (by decide)
    have hp1 : ∀ W, Calls Try.prog 40 #[.int .i64 C.other, .int .i64 ((p : Int) + 1)] W fun e w' => e = .returned (.int .i64 (pickN C.other (p + 1) : Nat)) ∧ w' = W := fun W => pick7_at C.other (p + 1) _ W (by omega) (by omega) (by omega) ho1 ho2
    have hp2 : ∀ W, Calls Try.prog 40 #[.int .i64 m, .int .i64 2] W fun e w' => e = .returned (.int .i64 (pickN m 2 : Nat)) ∧ w' = W := fun W => pick7_at m 2 _ W rfl (by decide) (by decide) hm1 hm2
    have Hp1 := Lib.hid hp1; have Hp2 := Lib.hid hp2; clear hp1 hp2 hm1 hm2
    generalize pickN C.other (p + 1) = r1 at *
    generalize pickN m 2 = r2 at *
    obtain ⟨r, hr, hrp⟩ : ∃ r : Nat, (r1 : Int) * (r2 : Int) = (r : Int) ∧ r ≤ p := by
      have h2 : r2 = 0 ∨ r2 = 1 := by omega
      rcases h2 with rfl | rfl
      · exact ⟨0, by simp, Nat.zero_le _⟩
      · exact ⟨r1, by simp, by omega⟩
    have hw2 : IntKind.i64.wrap (r : Int) = (r : Int) := IntWalk.i64_in _ (by omega)
    clear hr1 hr2
    have g0 : (convert 30 9 (.slice (some ⟨w.heap.size + 1 + 1, 0, none⟩) 8 8)).run Try.prog wc.drew = .ok (.string s) wc.drew := hcv 1
    have x2 : wc.drew.cell? ⟨w.heap.size, 2, none⟩ = some (.int .i64 C.other) := by have := cell_of_heap HF5.out.arg 2; simpa using this
    have HB : Hid (Below w.heap.size w wc.drew) := HF5.out.below.drew
    have HR : Hid (wc.drew.heap[w.heap.size + 1]? = some (.cells zeroFrame 42 (0, 0))) := HF5.out.res
    clear hcv HF5
    go_wp2
    refine wp_region_still_tail 14 (by kernel_rfl) (by kernel_rfl) ?_
    simp only [List.take_succ_cons, List.take_zero, List.drop_succ_cons, List.drop_zero]
    repeat still_step
    still_call (Hp1.out _)
    repeat still_step
    still_call (Hp2.out _)
    repeat still_step
    refine wpStill_nil ?_
    change wpList _ _ _ _ _ wc.drew
    generalize wc.drew = W9 at *
    have r0 := cell_of_heap HR.out 0
    have f0 := free_of_heap HR.out 0
    have r1 := cell_of_heap HR.out 1
    have f1 := free_of_heap HR.out 1
    have r2 := cell_of_heap HR.out 2
    have f2 := free_of_heap HR.out 2
    have r3 := cell_of_heap HR.out 3
    have f3 := free_of_heap HR.out 3
    have r4 := cell_of_heap HR.out 4
    have f4 := free_of_heap HR.out 4
    have r5 := cell_of_heap HR.out 5
    have f5 := free_of_heap HR.out 5
    have r6 := cell_of_heap HR.out 6
    have f6 := free_of_heap HR.out 6
    have r7 := cell_of_heap HR.out 7
    have f7 := free_of_heap HR.out 7
    have r8 := cell_of_heap HR.out 8
    have f8 := free_of_heap HR.out 8
    have r9 := cell_of_heap HR.out 9
    have f9 := free_of_heap HR.out 9
    have r10 := cell_of_heap HR.out 10
    have f10 := free_of_heap HR.out 10
    have r11 := cell_of_heap HR.out 11
    have f11 := free_of_heap HR.out 11
    have r12 := cell_of_heap HR.out 12
    have f12 := free_of_heap HR.out 12
    simp only [List.getElem?_toArray, List.getElem?_cons_succ, List.getElem?_cons_zero] at r0 r1 r2 r3 r4 r5 r6 r7 r8 r9 r10 r11 r12
    clear g0 x2 Hp1 Hp2
    go_wp2
    refine bodyPost_ret (v := frameV 24 (p : Int) (r : Int) s) (by simp [results, Try.results28, go_sem, r0, r1, r2, r3, r4, r5, r6, r7, r8, r9, r10, r11, r12]) rfl ⟨p, r, s, rfl, hpl, hrp, hs, ?_⟩
    repeat' (refine Below.setCell ?_ (by show w.heap.size ≤ w.heap.size + 1; omega) _)
    exact HB.out

end Go.Proofs.Ytmdfpknhfkgfoaa
