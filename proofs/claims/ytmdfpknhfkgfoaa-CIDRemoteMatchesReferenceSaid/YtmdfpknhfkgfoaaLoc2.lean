/- Contracts of cid.Local: Active, Owns, Issue. -/
import Derived.Test.YtmdfpknhfkgfoaaLoc
namespace Go.Proofs.Ytmdfpknhfkgfoaa
open Go.RowKit

theorem info_str : (Try.prog.info? 9).map (fun i => (i.zero, i.size, i.bytes)) = some (some (.string ⟨#[]⟩), 1, 16) := by kernel_rfl

/-- The active IDs among the first k. -/
def Loc.actives (L : Loc) (k : Nat) : List ByteArray := ((List.range k).filter L.act).map (idB L.key)

def strVals (l : List ByteArray) : List Value := l.map Value.string

theorem Loc.actives_yes (L : Loc) (k : Nat) (h : L.act k = true) : L.actives (k + 1) = L.actives k ++ [idB L.key k] := by
  simp [Loc.actives, List.range_succ, List.filter_append, h]
theorem Loc.actives_no (L : Loc) (k : Nat) (h : L.act k = false) : L.actives (k + 1) = L.actives k := by
  simp [Loc.actives, List.range_succ, List.filter_append, h]
theorem Loc.actives_le (L : Loc) (k : Nat) : (L.actives k).length ≤ k := by
  unfold Loc.actives
  rw [List.length_map]
  exact Nat.le_trans (List.length_filter_le _ _) (by simp)

def StrsPost (l : List ByteArray) (w : World) (e : Ending) (w' : World) : Prop :=
  ∃ v, e = .returned v ∧ w'.ownsRow w.heap.size 9 1 v l.length (strVals l) ∧ Below w.heap.size w w'

theorem strVals_snoc (l : List ByteArray) (x : ByteArray) : strVals (l ++ [x]) = strVals l ++ [.string x] := by simp [strVals]

set_option maxRecDepth 100000 in
set_option maxHeartbeats 800000 in
theorem active_any (B : Nat) (L : Loc) (w : World) (hL : IsLoc B L w) :
    Calls Try.prog 46 #[.pointer (some ⟨B, 0, none⟩)] w (StrsPost (L.actives L.n) w) := by
  obtain ⟨i0, hi, hz0, hz1, hz2⟩ := info_parts info_str
  have hn := hL.le
  have c65 := hL.blk.cell 65 (by decide)
  rw [Loc.at_n] at c65
  have hBlt := hL.blk.lt
  have HL := Lib.hid hL; clear hL
  go_enter Try.func46, Try.ntmps46
  go_wp2
  go_loopw [2, 10] (fun out i wr => ∃ j : Nat, j ≤ L.n ∧ i = .int .i64 j ∧ wr.ownsRow w.heap.size 9 1 out (L.actives j).length (strVals (L.actives j)) ∧ Below w.heap.size w wr) (fun _ i _ => L.n - (intOf i).toNat)
  case atStart => exact ⟨0, Nat.zero_le _, rfl, World.ownsRow_nil _ _ _ _, Below.refl _ _⟩
  case round =>
    clear c65
    obtain ⟨j, hj, rfl, hown, hb⟩ := hrel
    by_cases hlt : j < L.n
    · have hblk := HL.out.blk.below hb hBlt
      have ca := hblk.cell (32 + j) (by omega)
      rw [L.at_act j (by omega)] at ca
      have ci := hblk.cell j (by omega)
      rw [L.at_id j hlt hn] at ci
      have hle := L.actives_le j
      have hbs := hb.size
      clear hblk
      cases hact : L.act j with
      | true =>
        rw [hact] at ca
        have Hy := Lib.hid (L.actives_yes j hact)
        clear hact
        go_wp2_with (at_builtin; refine wpList_append_own _ rfl _ _ 24 rfl w.heap.size 9 i0 (.string ⟨#[]⟩) 1 16 Try.underlying24 hi hz0 hz1 hz2 rfl (by decide) _ _ _ rfl (hown.alloc _) ⟨wr.heap.size, 0, none⟩ 1 1 [.string (idB L.key j)] rfl rfl (cell_one_new _ _ _) (by simp [Value.oneCell']) (by unfold maxLen; omega) (by omega) (by simp; omega) ?_; intro v' w1 hown' hgrow _)
        go_roundw
        case rel =>
          refine ⟨j + 1, by omega, by go_num, ?_, ?_⟩
          · rw [Hy.out, strVals_snoc]; simpa using hown'
          · exact (hb.alloc hbs _).grown hgrow (by simp; omega) (fun k hk => (hown.lt k hk).1)
        case measure => simp [intOf]; omega
      | false =>
        rw [hact] at ca
        have Hy := Lib.hid (L.actives_no j hact)
        clear hact
        go_wp2
        go_roundw
        case rel => exact ⟨j + 1, by omega, by go_num, by rw [Hy.out]; exact hown, hb⟩
        case measure => simp [intOf]; omega
    · obtain rfl : j = L.n := by omega
      go_wp2
      go_ret
      exact ⟨_, rfl, hown, hb⟩

/-- What Owns gives: the least hit m below n, or nothing. -/
def OwnsPost (m n : Nat) (w : World) (e : Ending) (w' : World) : Prop := e = .returned (.tuple #[.int .i64 (if m < n then (m : Int) else 0), .bool (decide (m < n))]) ∧ w = w'

/-- The ID i answers to the name c. -/
def Loc.hits (L : Loc) (c : ByteArray) (i : Nat) : Prop := L.act i = true ∧ idB L.key i = c

theorem str_eq_true {a b : ByteArray} (h : a = b) : (a.toList == b.toList) = true := by rw [h]; simp
theorem str_eq_false {a b : ByteArray} (h : a ≠ b) : (a.toList == b.toList) = false := by
  rw [ByteArray.toList_eq, ByteArray.toList_eq]
  simp only [beq_eq_false_iff_ne]
  exact fun e => h (bytes_ext e)

set_option maxRecDepth 100000 in
set_option maxHeartbeats 800000 in
theorem owns_loop (B : Nat) (L : Loc) (c : ByteArray) (m : Nat) (w : World) (hL : IsLoc B L w) (hm : m ≤ L.n) (hno : ∀ i, i < m → ¬ L.hits c i) (hyes : m = L.n ∨ (m < L.n ∧ L.hits c m)) :
    Calls Try.prog 43 #[.pointer (some ⟨B, 0, none⟩), .string c] w (OwnsPost m L.n w) := by
  have hn := hL.le
  have c65 := hL.blk.cell 65 (by decide)
  rw [Loc.at_n] at c65
  have HL := Lib.hid hL; clear hL
  have Hno := Lib.hid hno; clear hno
  have Hyes := Lib.hid hyes; clear hyes
  go_enter Try.func43, Try.ntmps43
  go_wp2
  go_loop [13] (fun i => ∃ j : Nat, j ≤ m ∧ i = .int .i64 j) (fun i => L.n - (intOf i).toNat)
  case atStart => exact ⟨0, Nat.zero_le _, rfl⟩
  case round =>
    clear c65
    obtain ⟨j, hj, rfl⟩ := hrel
    by_cases hlt : j < L.n
    · have ca := HL.out.blk.cell (32 + j) (by omega)
      rw [L.at_act j (by omega)] at ca
      have ci := HL.out.blk.cell j (by omega)
      rw [L.at_id j hlt hn] at ci
      by_cases hjm : j = m
      · have hh : L.hits c j := by rcases Hyes.out with h | h; omega; rw [hjm]; exact h.2
        have he := str_eq_true hh.2
        rw [hh.1] at ca
        have Hm := Lib.hid hjm; clear hjm hh
        go_wp2
        go_ret2
        have := Hm.out
        subst this
        unfold OwnsPost
        rw [if_pos hlt, decide_eq_true hlt]
        exact ⟨rfl, rfl⟩
      · have hh := Hno.out j (by omega)
        have hjm' : j < m := by omega
        clear hjm
        cases hact : L.act j with
        | true =>
          rw [hact] at ca
          have he : ((idB L.key j).toList == c.toList) = false := str_eq_false (fun e => hh ⟨hact, e⟩)
          clear hact hh
          go_wp2
          go_round
          case rel => exact ⟨j + 1, by omega, by go_num⟩
          case measure => simp [intOf]; omega
        | false =>
          rw [hact] at ca
          clear hact hh
          go_wp2
          go_round
          case rel => exact ⟨j + 1, by omega, by go_num⟩
          case measure => simp [intOf]; omega
    · have hmn : m = L.n := by omega
      have hf : ¬ m < L.n := by omega
      have Hm := Lib.hid hmn; clear hmn
      have Hf := Lib.hid hf; clear hf
      go_wp2
      go_ret2
      unfold OwnsPost
      rw [if_neg Hf.out, decide_eq_false Hf.out]
      exact ⟨rfl, rfl⟩

end Go.Proofs.Ytmdfpknhfkgfoaa
