/- The contracts of varint.bigEndian, its iterator, and varint.collect. -/
import Derived.RangeFuncBox
import Derived.RangeFuncLeaves
import Derived.Shelf.Abstract
import Derived.WalkKit
import Derived.OwnWalkIn
import Derived.TacticsInMore
import Derived.LoopNIn
import Derived.LoopIn
import Derived.Maps.AppendAt
import Derived.Laws.IdiomStrings
import Derived.Test.YtmdfpknhfkgfoaaProg
import Derived.Test.YtmdfpknhfkgfoaaPlain
import Derived.Lib.Hide
namespace Go.Proofs.Ytmdfpknhfkgfoaa
open Go.RowKit Go.Shelf

attribute [local go_sem] Oper.semAt_some

theorem beByte_val' (width v j : Nat) (hw : width ≤ 8) (hj : j < width) : (v : Int) / 2 ^ (8 * (width - 1 - j)) % 256 = ((beByte width v j).toNat : Int) := by
  have := beByte_val width v j hw hj
  rw [IntKind.wrap_u8', show min (8 * (width - 1 - j)) 64 = 8 * (width - 1 - j) by omega] at this
  exact this

set_option maxRecDepth 100000 in
set_option maxHeartbeats 1000000 in
theorem be1_in (F : Fence) (n : Nat) (h6 : F.fn 81) (hro : F.round = none) (hn : 1 ≤ n) (l Bw Bn n₀ width v : Nat) (hwd : width ≤ 8) (hbn : Bn < n₀) (J Jx : List UInt8 → World → Prop)
    (hY : ∀ pre x W, J pre W → pre.length < width → YieldAt F (n - 1) Try.prog l #[.int .u8 (x.toNat : Int)] W fun e W' =>
      (e = .returned (.bool true) ∧ J (pre ++ [x]) W' ∧ Below n₀ W W') ∨ (e = .returned (.bool false) ∧ Jx (pre ++ [x]) W'))
    (W : World) (hBw : W.cell? ⟨Bw, 0, none⟩ = some (.int .i64 width)) (hBn : W.cell? ⟨Bn, 0, none⟩ = some (.int .u64 v)) (h0 : J [] W) :
    CallsIn F n Try.prog 81 #[.func (.yield l) #[] #[], .pointer (some ⟨Bw, 0, none⟩), .pointer (some ⟨Bn, 0, none⟩)] W fun e W' => (∃ v, e = .returned v) ∧
      ((∃ ys, ys = ube width v ∧ J ys W') ∨ (∃ pre, pre <+: ube width v ∧ Jx pre W')) := by
  refine callsIn_of_wp Try.func81 rfl h6 ?_ hro
  simp only [Try.ntmps81, List.size_toArray, List.length_cons, List.length_nil, Nat.reduceAdd, Nat.reduceSub, Array.replicate_succ, Array.replicate_zero, List.push_toArray, List.append_toArray, List.nil_append, List.cons_append]
  gi_wp2
  gi_loopw [4] (fun p wr => ∃ j : Nat, j ≤ width ∧ p = .int .i64 ((width : Int) - 1 - j) ∧ wr.cell? ⟨Bn, 0, none⟩ = some (.int .u64 v) ∧ J (beUpto width v j) wr)
    (fun p _ => (intOf p + 1).toNat)
  case atStart =>
    exact ⟨0, Nat.zero_le _, by simp, hBn, h0⟩
  case round =>
    obtain ⟨j, hj, rfl, hcn, hJs⟩ := hrel
    by_cases hlt : j < width
    · have hval := beByte_val' width v j hwd hlt
      obtain ⟨fn, tmps, assign, body, hy, hR⟩ := hY (beUpto width v j) (beByte width v j) wr hJs (by rw [beUpto_length]; exact hlt)
      have hi : ((width : Int) - 1 - j) = ((width - 1 - j : Nat) : Int) := by omega
      rw [hi]
      gi_wp2
      refine hR.mono ?_
      rintro e W3 (⟨rfl, hJ3, hk3⟩ | ⟨rfl, hJx3⟩)
      · have hcn3 : W3.cell? ⟨Bn, 0, none⟩ = some (.int .u64 v) := (hk3.cell (p := ⟨Bn, 0, none⟩) hbn).trans hcn
        gi_wp2
        go_roundw
        case rel => exact ⟨j + 1, by omega, by congr 1; omega, hcn3, by rw [beUpto_succ]; exact hJ3⟩
        case measure => simp [intOf]
      · gi_wp2
        refine bodyPost_ret (results_none rfl _ _ _) rfl ?_
        exact ⟨⟨_, rfl⟩, .inr ⟨_, by rw [← beUpto_succ]; exact beUpto_prefix _ _ _ (by omega), hJx3⟩⟩
    · obtain rfl : j = width := by omega
      gi_wp2
      go_end0
      exact ⟨⟨_, rfl⟩, .inl ⟨_, rfl, hJs⟩⟩

/-- The iterator as a sequence: all bytes in order. -/
theorem be_stops (F : Fence) (n : Nat) (h6 : F.fn 81) (hro : F.round = none) (hn : 1 ≤ n) (Bw Bn n₀ width v : Nat) (hwd : width ≤ 8) (w : World) (hbw : Bw < n₀) (hbn : Bn < n₀) (hn₀ : n₀ ≤ w.heap.size)
    (hcw : w.cell? ⟨Bw, 0, none⟩ = some (.int .i64 width)) (hcn : w.cell? ⟨Bn, 0, none⟩ = some (.int .u64 v)) :
    SeqStopsK F n Try.prog 81 #[.pointer (some ⟨Bw, 0, none⟩), .pointer (some ⟨Bn, 0, none⟩)] (fun x : UInt8 => #[Value.int .u8 (x.toNat : Int)]) (Below n₀) (fun ys => ys = ube width v) (fun pre => pre <+: ube width v) width w := fun l J Jx W hW _ _ hY h0 =>
  be1_in F n h6 hro hn l Bw Bn n₀ width v hwd hbn J Jx hY W ((hW.cell (p := ⟨Bw, 0, none⟩) (Nat.lt_of_lt_of_le hbw hn₀)).trans hcw) ((hW.cell (p := ⟨Bn, 0, none⟩) (Nat.lt_of_lt_of_le hbn hn₀)).trans hcn) h0

theorem info_u8 : (Try.prog.info? 5).map (fun i => (i.zero, i.size, i.bytes)) = some (some (.int .u8 0), 1, 1) := by kernel_rfl

def byteVals (l : List UInt8) : List Value := l.map fun x => Value.int .u8 (x.toNat : Int)

theorem byteVals_snoc (l : List UInt8) (x : UInt8) : byteVals (l ++ [x]) = byteVals l ++ [Value.int .u8 (x.toNat : Int)] := by simp [byteVals]

theorem byteVals_length (l : List UInt8) : (byteVals l).length = l.length := by simp [byteVals]

/-- 'string(b)' where b owns the bytes l. -/
theorem conv_own {W : World} {base : Nat} {v : Value} {l : List UInt8} (h : W.ownsRow base 5 1 v l.length (byteVals l)) :
    (convert 30 9 v).run Try.prog W = .ok (.string ⟨l.toArray⟩) W := by
  rcases h.2 with ⟨rfl, hn⟩ | ⟨g, cap, cur, rfl, _⟩
  · obtain rfl : l = [] := List.length_eq_zero_iff.1 hn
    kernel_rfl
  · refine run_convert_bytes_back W 30 9 5 _ _ l Try.underlying30 Try.underlying5 Try.underlying9 (fun j hj => ?_)
    have := h.cellAt j (by omega)
    rw [show ((⟨g, 0, none⟩ : Addr).add j) = ⟨g, j, none⟩ by simp [Addr.add]; omega, this]
    simp [byteVals, hj]

set_option maxRecDepth 100000 in
set_option maxHeartbeats 1000000 in
theorem collect_in (F : Fence) (n : Nat) (h3 : F.fn 77) (h5 : F.fn 81) (hro : F.round = none) (hn : 3 ≤ n) (Bw Bn width v : Nat) (hwd : width ≤ 8) (w : World) (hbw : Bw < w.heap.size) (hbn : Bn < w.heap.size)
    (hcw : w.cell? ⟨Bw, 0, none⟩ = some (.int .i64 width)) (hcn : w.cell? ⟨Bn, 0, none⟩ = some (.int .u64 v)) :
    CallsIn F n Try.prog 77 #[.func (.func 81) #[] #[.pointer (some ⟨Bw, 0, none⟩), .pointer (some ⟨Bn, 0, none⟩)]] w fun e W' => e = .returned (.string ⟨(ube width v).toArray⟩) ∧ Below w.heap.size w W' := by
  have h1 : 1 ≤ n := by omega
  obtain ⟨i0, hi, hz0, hz1, hz2⟩ := info_parts info_u8
  refine callsIn_of_wp_marks Try.func77 rfl h3 ?_ hro
  simp only [Try.ntmps77, List.size_toArray, List.length_cons, List.length_nil, Nat.reduceAdd, Nat.reduceSub, Array.replicate_succ, Array.replicate_zero, List.push_toArray, List.append_toArray, List.nil_append, List.cons_append]
  gi_wp2
  have bO := Boxed.new w 30 (.slice none 0 0)
  have hB0 : Below w.heap.size w (w.alloc (.cells #[.slice none 0 0] 30)) := (Below.refl _ w).alloc (Nat.le_refl _) _
  refine wpIn_rangeFunc_ownG hro h1 (gf := 81) (lb := #[.pointer (some ⟨Bw, 0, none⟩), .pointer (some ⟨Bn, 0, none⟩)]) rfl h5 (enters_of Try.func81 (by kernel_rfl) rfl)
    (be_stops F (n - 1) h5 hro (by omega) Bw Bn w.heap.size width v hwd _ hbw hbn (by simp) ((hB0.cell (p := ⟨Bw, 0, none⟩) hbw).trans hcw) ((hB0.cell (p := ⟨Bn, 0, none⟩) hbn).trans hcn)) belowK_t (belowK_b (by simp)) (Below.refl _ _) (fun _ => rfl)
    (fun pre W => (∃ v, Boxed W w.heap.size 30 v ∧ W.ownsRow w.heap.size 5 1 v pre.length (byteVals pre) ∧ True) ∧ Below w.heap.size w W)
    (fun _ _ _ => False)
    (OwnFrom.and (Own.from (holdsRow_own w.heap.size w.heap.size 30 5 1 (fun pre => pre.length) (fun pre => byteVals pre) (fun _ _ => True)) _) (ownFrom_below (Nat.le_refl _) (by simp)))
    (fun _ _ _ _ _ hs _ _ => hs)
    ⟨⟨_, bO, World.ownsRow_nil _ _ _ _, trivial⟩, hB0⟩
    (fun x => { tmps := #[.func (.func 81) #[] #[.pointer (some ⟨Bw, 0, none⟩), .pointer (some ⟨Bn, 0, none⟩)], undef, .string ⟨#[]⟩, .pointer (some ⟨w.heap.size, 0, none⟩), .int .u8 x.toNat, .func (.func 81) #[] #[.pointer (some ⟨Bw, 0, none⟩), .pointer (some ⟨Bn, 0, none⟩)], .int .u8 x.toNat, undef, undef, undef, undef, undef, undef], defers := [] }) ?assign ?body ?done ?stop
  case assign =>
    intro l x W K hK
    gi_wp2
    exact hK
  case body =>
    rintro l pre x W ⟨⟨v, hv, hrow, _⟩, hB⟩ hlt
    have hc := hv.cell
    gi_wp2_with (gi_at_builtin; refine wpListIn_append_own _ rfl _ _ 30 rfl w.heap.size 5 i0 (.int .u8 0) 1 1 Try.underlying30 hi hz0 hz1 hz2 rfl (by decide) _ _ _ rfl (hrow.alloc _) ⟨W.heap.size, 0, none⟩ 1 1 [.int .u8 x.toNat] rfl rfl (cell_one_new _ _ _) (by simp [Value.oneCell']) (by unfold maxLen; omega) (by omega) (by have := hB.size; simp; omega) ?_; intro v' w1 hown' hgrow _; obtain ⟨g', cap', rfl⟩ := ownsRow_succ hown'; obtain ⟨hv1, hv2, hr2, hk2, hb2⟩ := hv.appended (by decide) hrow hB.size (Nat.le_refl _) hown' hgrow; have hc1 := hv1.cell; have hf1 := hv1.frozen)
    exact ⟨hk2.from _, hb2, ⟨_, hv2, by rw [byteVals_snoc]; simpa using hr2, trivial⟩, hB.trans hb2⟩
  case done =>
    rintro D ys W hD rfl ⟨⟨v, hv, hrow, _⟩, hB⟩ hK
    have hc := hv.cell
    have hcv := conv_own hrow
    gi_wp2
    refine ⟨by simp, .inl ⟨_, _, rfl, run_takeDeferred hK, ?_⟩⟩
    exact ⟨_, results_tmp rfl _ _ _, rfl, hB.trans (belowK_b (w := w) (Nat.le_refl _) W D _ _ (by simp at hD; omega) hK rfl rfl)⟩
  case stop =>
    rintro D c pre W _ _ h _
    exact h.elim

theorem collect_any (Bw Bn width v : Nat) (hwd : width ≤ 8) (w : World) (hbw : Bw < w.heap.size) (hbn : Bn < w.heap.size)
    (hcw : w.cell? ⟨Bw, 0, none⟩ = some (.int .i64 width)) (hcn : w.cell? ⟨Bn, 0, none⟩ = some (.int .u64 v)) :
    Calls Try.prog 77 #[.func (.func 81) #[] #[.pointer (some ⟨Bw, 0, none⟩), .pointer (some ⟨Bn, 0, none⟩)]] w fun e W' => e = .returned (.string ⟨(ube width v).toArray⟩) ∧ Below w.heap.size w W' :=
  (callsIn_wide (n := 3)).1 (collect_in Fence.wide 3 trivial trivial rfl (by decide) Bw Bn width v hwd w hbw hbn hcw hcn)

set_option maxRecDepth 100000 in
set_option maxHeartbeats 400000 in
theorem bigEndian_any (width v : Nat) (w : World) :
    Calls Try.prog 78 #[.int .u64 v, .int .i64 width] w fun e w' => e = .returned (.func (.func 81) #[] #[.pointer (some ⟨w.heap.size + 1, 0, none⟩), .pointer (some ⟨w.heap.size, 0, none⟩)]) ∧ (w.alloc (.cells #[.int .u64 v] 103)).alloc (.cells #[.int .i64 width] 3) = w' := by
  have hmf : ∀ (fn : Fn) (first cap : Array Value) (w : World), (Instr.makeFunc fn first cap).run Try.prog w = .ok (.func fn first cap) w := fun _ _ _ _ => rfl
  go_enter Try.func78, Try.ntmps78
  go_wp2
  go_ret
  exact ⟨rfl, rfl⟩

def UintPost (width v : Nat) (w : World) (e : Ending) (w' : World) : Prop := e = .returned (.tuple #[.string ⟨(ube width v).toArray⟩, .int .i64 0]) ∧ Below w.heap.size w w'

set_option maxRecDepth 100000 in
set_option maxHeartbeats 400000 in
theorem uint_any (width v : Nat) (w : World) (h1 : 1 ≤ width) (h8 : width ≤ 8) (hv : v < 256 ^ width) (hv' : v ≤ 9223372036854775807) :
    Calls Try.prog 73 #[.int .i64 v, .int .i64 width] w (UintPost width v w) := by
  have hsh : (v : Int) / 2 ^ (8 * width) = 0 := by
    refine Int.ediv_eq_zero_of_lt (by omega) ?_
    have e : (2 : Int) ^ (8 * width) = ((256 ^ width : Nat) : Int) := by rw [show (256 : Nat) = 2 ^ 8 from rfl, ← Nat.pow_mul]; simp
    rw [e]; exact_mod_cast hv
  have Hv := Lib.hid hv; clear hv
  by_cases hw : width < 8
  all_goals
    go_enter Try.func73, Try.ntmps73
    go_wp2_with (fail)
    refine (bigEndian_any width v _).mono ?_
    rintro e w' ⟨rfl, rfl⟩
    go_wp2_with (fail)
    refine (collect_any (w.heap.size + 1) w.heap.size width v h8 _ (by simp) (by simp; omega) (by simp [go_sem]) (by simp [go_sem])).mono ?_
    rintro e w' ⟨rfl, hb⟩
    go_wp2
    go_ret2
    refine ⟨rfl, ?_⟩
    refine Below.trans ?_ (hb.mono (by simp; omega))
    exact ((Below.refl _ _).alloc (Nat.le_refl _) _).alloc (by simp) _

end Go.Proofs.Ytmdfpknhfkgfoaa
