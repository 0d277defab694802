/- Contracts of peregrineref07.Local. -/
import Derived.Test.YtmdfpknhfkgfoaaRef7
import Derived.Test.YtmdfpknhfkgfoaaPairW
namespace Go.Proofs.Ytmdfpknhfkgfoaa
open Go.RowKit Go.Shelf

theorem info_bool : (Try.prog.info? 4).map (fun i => (i.zero, i.size, i.bytes)) = some (some (.bool false), 1, 1) := by kernel_rfl

set_option maxRecDepth 100000 in
set_option maxHeartbeats 800000 in
theorem ractive_any (B : Nat) (L : Loc) (v : Value) (w : World) (hL : IsRLoc B L v w) :
    Calls Try.prog 47 #[.pointer (some ⟨B, 0, none⟩)] w (StrsPost (L.actives L.n) w) := by
  obtain ⟨i0, hi, hz0, hz1, hz2⟩ := info_parts info_str
  have hn := hL.le
  obtain ⟨av, cv, rfl, hav⟩ := slice_any hL.own
  have HL := Lib.hid hL; clear hL
  go_enter Try.func47, Try.ntmps47
  go_wp2
  go_loopw [3, 4] (fun out i wr => ∃ j : Nat, j ≤ L.n ∧ i = .int .i64 j ∧ wr.ownsRow w.heap.size 9 1 out (L.actives j).length (strVals (L.actives j)) ∧ Below w.heap.size w wr) (fun _ i _ => L.n - (intOf i).toNat)
  case atStart => exact ⟨0, Nat.zero_le _, rfl, World.ownsRow_nil _ _ _ _, Below.refl _ _⟩
  case round =>
    obtain ⟨j, hj, rfl, hown, hb⟩ := hrel
    have hL2 := HL.out.below hb
    have c1 := cell_of_heap hL2.blk 1
    have c0 := cell_of_heap hL2.blk 0
    by_cases hlt : j < L.n
    · obtain ⟨g, rfl⟩ := hav (by omega)
      have ca := own_src hL2.own j _ (actVals_get L L.n j hlt)
      simp only [Addr.add_mid, Nat.zero_add] at ca
      have hle := L.actives_le j
      have hbs := hb.size
      have hlt1 : (j : Int) < (L.n : Int) := by omega
      have Hown := Lib.hid hown; clear hown
      have HL2 := Lib.hid hL2; clear hL2
      cases hact : L.act j with
      | true =>
        rw [hact] at ca
        have Hy := Lib.hid (L.actives_yes j hact)
        clear hact
        go_wp2_with (fail)
        refine (rID_any L.key j _ _ rfl HL.out.key (by omega)).mono ?_
        rintro e w2 ⟨rfl, hb2⟩
        have hbb := below_then hb hb2
        have hs2 := hbb.size
        have Hown2 := Lib.hid (ownsRow_below Hown.out hb2)
        go_wp2_with (at_builtin; refine wpList_append_own _ rfl _ _ 24 rfl w.heap.size 9 i0 (.string ⟨#[]⟩) 1 16 Try.underlying24 hi hz0 hz1 hz2 rfl (by decide) _ _ _ rfl (Hown2.out.alloc _) ⟨w2.heap.size, 0, none⟩ 1 1 [.string (idB L.key j)] rfl rfl (cell_one_new _ _ _) (by simp [Value.oneCell']) (by unfold maxLen; omega) (by omega) (by simp; omega) ?_; intro v' w1 hown' hgrow _)
        go_roundw
        case rel =>
          refine ⟨j + 1, by omega, by go_num, ?_, ?_⟩
          · rw [Hy.out, strVals_snoc]; simpa using hown'
          · exact (hbb.alloc hbb.size _).grown hgrow (by simp; omega) (fun k hk => (Hown.out.lt k hk).1)
        case measure => simp [intOf]; omega
      | false =>
        rw [hact] at ca
        have Hy := Lib.hid (L.actives_no j hact)
        clear hact
        go_wp2
        go_roundw
        case rel => exact ⟨j + 1, by omega, by go_num, by rw [Hy.out]; exact Hown.out, hb⟩
        case measure => simp [intOf]; omega
    · obtain rfl : j = L.n := by omega
      have Hown := Lib.hid hown; clear hown
      clear hL2
      go_wp2
      go_ret
      exact ⟨_, rfl, Hown.out, hb⟩

def ROwnsPost (m n : Nat) (w : World) (e : Ending) (w' : World) : Prop := e = .returned (.tuple #[.int .i64 (if m < n then (m : Int) else 0), .bool (decide (m < n))]) ∧ Below w.heap.size w w'

set_option maxRecDepth 100000 in
set_option maxHeartbeats 800000 in
theorem rowns_loop (B : Nat) (L : Loc) (v : Value) (c : ByteArray) (m : Nat) (w : World) (hL : IsRLoc B L v w) (hm : m ≤ L.n) (hno : ∀ i, i < m → ¬ L.hits c i) (hyes : m = L.n ∨ (m < L.n ∧ L.hits c m)) :
    Calls Try.prog 44 #[.pointer (some ⟨B, 0, none⟩), .string c] w (ROwnsPost m L.n w) := by
  have hn := hL.le
  obtain ⟨av, cv, rfl, hav⟩ := slice_any hL.own
  have HL := Lib.hid hL; clear hL
  have Hno := Lib.hid hno; clear hno
  have Hyes := Lib.hid hyes; clear hyes
  go_enter Try.func44, Try.ntmps44
  go_wp2
  go_loopw [6] (fun i wr => ∃ j : Nat, j ≤ m ∧ i = .int .i64 j ∧ Below w.heap.size w wr) (fun i _ => L.n - (intOf i).toNat)
  case atStart => exact ⟨0, Nat.zero_le _, rfl, Below.refl _ _⟩
  case round =>
    obtain ⟨j, hj, rfl, hb⟩ := hrel
    have hL2 := HL.out.below hb
    have c1 := cell_of_heap hL2.blk 1
    have c0 := cell_of_heap hL2.blk 0
    by_cases hlt : j < L.n
    · obtain ⟨g, rfl⟩ := hav (by omega)
      have ca := own_src hL2.own j _ (actVals_get L L.n j hlt)
      simp only [Addr.add_mid, Nat.zero_add] at ca
      have hlt1 : (j : Int) < (L.n : Int) := by omega
      clear hL2
      by_cases hjm : j = m
      · have hh : L.hits c j := by rcases Hyes.out with h | h; omega; rw [hjm]; exact h.2
        have he := str_eq_true hh.2
        rw [hh.1] at ca
        have Hm := Lib.hid hjm; clear hjm hh
        go_wp2_with (fail)
        refine (rID_any L.key j _ _ rfl HL.out.key (by omega)).mono ?_
        rintro e w2 ⟨rfl, hb2⟩
        go_wp2
        go_ret2
        have := Hm.out
        subst this
        unfold ROwnsPost
        rw [if_pos hlt, decide_eq_true hlt]
        exact ⟨rfl, below_then hb hb2⟩
      · have hh := Hno.out j (by omega)
        have hjm' : j < m := by omega
        clear hjm
        cases hact : L.act j with
        | true =>
          rw [hact] at ca
          have he : ((idB L.key j).toList == c.toList) = false := str_eq_false (fun e => hh ⟨hact, e⟩)
          clear hact hh
          go_wp2_with (fail)
          refine (rID_any L.key j _ _ rfl HL.out.key (by omega)).mono ?_
          rintro e w2 ⟨rfl, hb2⟩
          go_wp2
          go_roundw
          case rel => exact ⟨j + 1, by omega, by go_num, below_then hb hb2⟩
          case measure => simp [intOf]; omega
        | false =>
          rw [hact] at ca
          clear hact hh
          go_wp2
          go_roundw
          case rel => exact ⟨j + 1, by omega, by go_num, hb⟩
          case measure => simp [intOf]; omega
    · have hmn : m = L.n := by omega
      have hf : ¬ m < L.n := by omega
      have hlt1 : ¬ ((j : Int) < (L.n : Int)) := by omega
      have Hm := Lib.hid hmn; clear hmn
      have Hf := Lib.hid hf; clear hf
      clear hL2
      go_wp2
      go_ret2
      unfold ROwnsPost
      rw [if_neg Hf.out, decide_eq_false Hf.out]
      exact ⟨rfl, hb⟩

/-- The reference's Local has turned. -/
def ChgRL (B : Nat) (L' : Loc) (v : Value) (w w' : World) : Prop := ∃ v', IsRLoc B L' v' w' ∧ OldOrNew v v' w.heap.size ∧ Keeps (fun k => k = B ∨ v.ownBlock = some k) w w'

theorem retire_vals (L : Loc) (n i : Nat) (h : i < n) : (actVals L n).set i (.bool false) = actVals (L.retire i) n := by
  apply List.ext_getElem?
  intro j
  by_cases e : j = i
  · subst e
    rw [List.getElem?_set_self (by rw [actVals_len]; exact h), actVals_get _ _ _ h]
    simp [Loc.retire]
  · rw [List.getElem?_set_ne (fun h => e h.symm)]
    by_cases hj : j < n
    · rw [actVals_get _ _ _ hj, actVals_get _ _ _ hj]; simp [Loc.retire, e]
    · rw [List.getElem?_eq_none (by rw [actVals_len]; omega), List.getElem?_eq_none (by rw [actVals_len]; omega)]

def RRetireAny (B : Nat) (L : Loc) (v : Value) (i : Int) (w : World) (e : Ending) (w' : World) : Prop :=
  ∃ (err : Int) (L' : Loc), e = .returned (.int .i64 err) ∧ ChgRL B L' v w w' ∧ ((err = 0 ∧ ∃ n : Nat, i = n ∧ n < L.n ∧ L' = L.retire n) ∨ (err = 70 ∧ L' = L ∧ (i < 0 ∨ (L.n : Int) ≤ i)))

set_option maxRecDepth 100000 in
set_option maxHeartbeats 800000 in
theorem rretire_any (B : Nat) (i : Int) (L : Loc) (v : Value) (w : World) (hL : IsRLoc B L v w) :
    Calls Try.prog 42 #[.pointer (some ⟨B, 0, none⟩), .int .i64 i] w (RRetireAny B L v i w) := by
  have hn := hL.le
  obtain ⟨av, cv, rfl, hav⟩ := slice_any hL.own
  have c1 := cell_of_heap hL.blk 1
  have HL := Lib.hid hL; clear hL
  by_cases h : i < 0
  · go_enter Try.func42, Try.ntmps42
    go_wp2
    go_ret
    exact ⟨70, L, rfl, ⟨_, HL.out, OldOrNew.refl _ _, Keeps.refl _ _⟩, .inr ⟨rfl, rfl, .inl h⟩⟩
  · by_cases h2 : (L.n : Int) ≤ i
    · go_enter Try.func42, Try.ntmps42
      go_wp2
      go_ret
      exact ⟨70, L, rfl, ⟨_, HL.out, OldOrNew.refl _ _, Keeps.refl _ _⟩, .inr ⟨rfl, rfl, .inr h2⟩⟩
    · obtain ⟨n, rfl⟩ : ∃ n : Nat, i = n := ⟨i.toNat, by omega⟩
      have hnl : n < L.n := by omega
      obtain ⟨g, rfl⟩ := hav (by omega)
      have ca := own_src HL.out.own n _ (actVals_get L L.n n hnl)
      simp only [Addr.add_mid, Nat.zero_add] at ca
      have cf := HL.out.own.frozenAt n
      go_enter Try.func42, Try.ntmps42
      go_wp2
      go_ret
      refine ⟨0, L.retire n, rfl, ⟨.slice (some ⟨g, 0, none⟩) L.n cv, ⟨?_, ?_, HL.out.le, HL.out.key⟩, OldOrNew.refl _ _, (Keeps.refl _ _).setCell (.inl (.inr rfl))⟩, .inl ⟨rfl, n, rfl, hnl, rfl⟩⟩
      · exact (Below.heap_setCell w _ _ _ (fun e => HL.out.ne (by show some g = some B; rw [e]))).trans HL.out.blk
      · show (w.setCell _ _).ownsRow 0 4 1 _ L.n (actVals (L.retire n) L.n)
        rw [← retire_vals L L.n n hnl]
        exact (HL.out.own.stored n (.bool false)).1

end Go.Proofs.Ytmdfpknhfkgfoaa
