/- The contract of peregrineref07.Local.Issue; law07's texts. -/
import Derived.Test.YtmdfpknhfkgfoaaRef7L
namespace Go.Proofs.Ytmdfpknhfkgfoaa
open Go.RowKit Go.Shelf

def RIssueAny (B : Nat) (L : Loc) (v : Value) (w : World) (e : Ending) (w' : World) : Prop :=
  ∃ (ty seq : Int) (c : ByteArray) (err : Int) (L' : Loc), e = .returned (.tuple #[frameV ty seq 0 c, .int .i64 err]) ∧ ChgRL B L' v w w' ∧
    ((err = 0 ∧ L' = L.add ∧ ty = 24 ∧ seq = L.n ∧ c = idB L.key L.n ∧ L.n < 32 ∧ (L.actives L.n).length < 4) ∨ (err = 71 ∧ L' = L ∧ ty = 0 ∧ seq = 0 ∧ c = ⟨#[]⟩ ∧ (L.n = 32 ∨ 4 ≤ (L.actives L.n).length)))

theorem add_vals (L : Loc) : actVals L.add (L.n + 1) = actVals L L.n ++ [.bool true] := by
  apply List.ext_getElem?
  intro j
  by_cases e : j < L.n
  · rw [List.getElem?_append_left (by rw [actVals_len]; exact e), actVals_get _ _ _ e, actVals_get _ _ _ (by omega)]
    have : ¬ (j = L.n) := by omega
    simp [Loc.add, this]
  · by_cases e2 : j = L.n
    · subst e2
      rw [actVals_get _ _ _ (by omega), List.getElem?_append_right (by rw [actVals_len]; exact Nat.le_refl _), actVals_len]
      simp [Loc.add]
    · rw [List.getElem?_eq_none (by rw [actVals_len]; omega), List.getElem?_eq_none (by rw [List.length_append, actVals_len]; simp; omega)]

set_option maxRecDepth 100000 in
set_option maxHeartbeats 800000 in
theorem rissue_full (B : Nat) (L : Loc) (v : Value) (w : World) (hL : IsRLoc B L v w) (h : L.n = 32) :
    Calls Try.prog 39 #[.pointer (some ⟨B, 0, none⟩)] w (RIssueAny B L v w) := by
  obtain ⟨av, cv, rfl, hav⟩ := slice_any hL.own
  have c1 := cell_of_heap (heap_alloc hL.blk (.cells zeroFrame 42)) 1
  have HL := Lib.hid hL; clear hL
  have Hh := Lib.hid h
  have hge : (32 : Int) ≤ (L.n : Int) := by omega
  clear h
  go_enter Try.func39, Try.ntmps39
  go_wp2
  refine bodyPost_ret (v := .tuple #[frameV 0 0 0 ⟨#[]⟩, .int .i64 71]) (by simp [results, Try.results39, go_sem]) rfl ⟨0, 0, _, 71, L, rfl, ⟨_, HL.out.alloc _, OldOrNew.refl _ _, (Keeps.refl _ _).alloc _⟩, .inr ⟨rfl, rfl, rfl, rfl, rfl, .inl Hh.out⟩⟩

set_option maxRecDepth 100000 in
set_option maxHeartbeats 800000 in
theorem rissue_many (B : Nat) (L : Loc) (v : Value) (w : World) (hL : IsRLoc B L v w) (h : L.n < 32) (hm : 4 ≤ (L.actives L.n).length) :
    Calls Try.prog 39 #[.pointer (some ⟨B, 0, none⟩)] w (RIssueAny B L v w) := by
  obtain ⟨av, cv, rfl, hav⟩ := slice_any hL.own
  have hI := hL.alloc (.cells zeroFrame 42)
  have c1 := cell_of_heap hI.blk 1
  have HI := Lib.hid hI; clear hI hL
  have Hm := Lib.hid hm
  have hge : ¬ ((32 : Int) ≤ (L.n : Int)) := by omega
  go_enter Try.func39, Try.ntmps39
  go_wp2_with (fail)
  refine (ractive_any B L _ _ HI.out).mono ?_
  rintro e w1 ⟨v1, rfl, hown, hb1⟩
  obtain ⟨a1, cp1, rfl, _⟩ := slice_any hown
  have HI1 := Lib.hid (HI.out.below hb1)
  have HR := Lib.hid ((hb1.block w.heap.size (by simp)).trans (heap_alloc_new w (.cells zeroFrame 42)))
  have hk1 : Hid (Keeps (fun k => k = B ∨ (Value.slice av L.n cv).ownBlock = some k) w w1) := ((Keeps.refl _ w).alloc _).trans (Keeps.of_below hb1)
  have hs1 : w.heap.size < w1.heap.size := by have := hb1.size; simp at this; omega
  have hBlt : B ≠ w.heap.size := fun e => by
    have h1 := HI1.out.blk
    rw [e, HR.out] at h1
    injection h1 with h2
    injection h2 with _ h3
    exact absurd h3 (by decide)
  have hvne : ¬ ((Value.slice av L.n cv).ownBlock = some w.heap.size) := row_type HI1.out.own _ _ HR.out (by decide)
  generalize hq : (L.actives L.n).length = m1 at *
  have Hq := Lib.hid hq
  have hge4 : (4 : Int) ≤ (m1 : Int) := by omega
  clear hown hb1 c1 hq HI
  have r0 := cell_of_heap HR.out 0
  have f0 := free_of_heap HR.out 0
  have r1 := cell_of_heap HR.out 1
  have f1 := free_of_heap HR.out 1
  have r2 := cell_of_heap HR.out 2
  have f2 := free_of_heap HR.out 2
  have r3 := cell_of_heap HR.out 3
  have f3 := free_of_heap HR.out 3
  have r4 := cell_of_heap HR.out 4
  have f4 := free_of_heap HR.out 4
  have r5 := cell_of_heap HR.out 5
  have f5 := free_of_heap HR.out 5
  have r6 := cell_of_heap HR.out 6
  have f6 := free_of_heap HR.out 6
  have r7 := cell_of_heap HR.out 7
  have f7 := free_of_heap HR.out 7
  have r8 := cell_of_heap HR.out 8
  have f8 := free_of_heap HR.out 8
  have r9 := cell_of_heap HR.out 9
  have f9 := free_of_heap HR.out 9
  have r10 := cell_of_heap HR.out 10
  have f10 := free_of_heap HR.out 10
  have r11 := cell_of_heap HR.out 11
  have f11 := free_of_heap HR.out 11
  have r12 := cell_of_heap HR.out 12
  have f12 := free_of_heap HR.out 12
  simp only [List.getElem?_toArray, List.getElem?_cons_succ, List.getElem?_cons_zero] at r0 r1 r2 r3 r4 r5 r6 r7 r8 r9 r10 r11 r12
  go_wp2
  refine bodyPost_ret (v := .tuple #[frameV 0 0 0 ⟨#[]⟩, .int .i64 71]) (by simp [results, Try.results39, go_sem, r0, r1, r2, r3, r4, r5, r6, r7, r8, r9, r10, r11, r12]) rfl ⟨0, 0, _, 71, L, rfl, ⟨_, ?_, OldOrNew.refl _ _, ?_⟩, .inr ⟨rfl, rfl, rfl, rfl, rfl, .inr (by rw [Hq.out]; exact Hm.out)⟩⟩
  · refine HI1.out.kept (S := fun k => k = w.heap.size) ?_ hBlt (fun k hk e => hvne (by rw [← e]; exact hk))
    repeat' (refine Keeps.setCell ?_ (.inl rfl))
    exact Keeps.refl _ _
  · repeat' (refine Keeps.setCell ?_ (.inr (Nat.le_refl _)))
    exact hk1.out

set_option maxRecDepth 100000 in
set_option maxHeartbeats 1600000 in
theorem rissue_yes (B : Nat) (L : Loc) (v : Value) (w : World) (hL : IsRLoc B L v w) (h : L.n < 32) (hm : (L.actives L.n).length < 4) :
    Calls Try.prog 39 #[.pointer (some ⟨B, 0, none⟩)] w (RIssueAny B L v w) := by
  obtain ⟨i0, hi, hz0, hz1, hz2⟩ := info_parts info_bool
  obtain ⟨av, cv, rfl, hav⟩ := slice_any hL.own
  have hI := hL.alloc (.cells zeroFrame 42)
  have c1 := cell_of_heap hI.blk 1
  have HI := Lib.hid hI; clear hI hL
  have Hm := Lib.hid hm
  have hge : ¬ ((32 : Int) ≤ (L.n : Int)) := by omega
  go_enter Try.func39, Try.ntmps39
  go_wp2_with (fail)
  refine (ractive_any B L _ _ HI.out).mono ?_
  rintro e w1 ⟨v1, rfl, hown, hb1⟩
  obtain ⟨a1, cp1, rfl, _⟩ := slice_any hown
  have HI1 := Lib.hid (HI.out.below hb1)
  have HR := Lib.hid ((hb1.block w.heap.size (by simp)).trans (heap_alloc_new w (.cells zeroFrame 42)))
  have hk1 : Hid (Keeps (fun k => k = B ∨ (Value.slice av L.n cv).ownBlock = some k) w w1) := ((Keeps.refl _ w).alloc _).trans (Keeps.of_below hb1)
  have hs1 : w.heap.size < w1.heap.size := by have := hb1.size; simp at this; omega
  have hBlt : B ≠ w.heap.size := fun e => by
    have h1 := HI1.out.blk
    rw [e, HR.out] at h1
    injection h1 with h2
    injection h2 with _ h3
    exact absurd h3 (by decide)
  have hvne : ¬ ((Value.slice av L.n cv).ownBlock = some w.heap.size) := row_type HI1.out.own _ _ HR.out (by decide)
  generalize hq : (L.actives L.n).length = m1 at *
  have Hq := Lib.hid hq
  have hge4 : ¬ ((4 : Int) ≤ (m1 : Int)) := by omega
  have d1 := cell_of_heap HI1.out.blk 1
  have hal := HI1.out.alloc (.cells #[.bool true] 4)
  have e1 := cell_of_heap hal.blk 1
  have g1 := free_of_heap hal.blk 1
  have Hal := Lib.hid hal
  clear hown hb1 c1 hq HI hal
  go_wp2_with (at_builtin; refine wpList_append_where _ rfl _ _ 100 rfl 4 i0 (.bool false) 1 1 Try.underlying100 hi hz0 hz1 hz2 rfl (by decide) _ _ _ rfl Hal.out.own ⟨w1.heap.size, 0, none⟩ 1 1 [.bool true] rfl rfl (cell_one_new _ _ _) (by simp [Value.oneCell']) (by unfold maxLen; omega) (by omega) ?_; intro v2 w3 hown2 hgrow hold; obtain ⟨g2, cp2, rfl⟩ := slice_at hown2 (by omega); have hb3 := heap_keeps Hal.out.blk (Keeps.of_grown (S := fun k => (Value.slice av L.n cv).ownBlock = some k) hgrow (fun _ e => e)) Hal.out.ne; have x0 := cell_of_heap hb3 0; have x1 := cell_of_heap hb3 1; have y1 := free_of_heap hb3 1; have HB3 := Lib.hid hb3; clear hb3; have Hown2 := Lib.hid hown2; clear hown2; have Hgrow := Lib.hid hgrow; clear hgrow)
  have hkg : Keeps (fun k => (Value.slice av L.n cv).ownBlock = some k) (w1.alloc (.cells #[.bool true] 4)) w3 := Keeps.of_grown Hgrow.out (fun _ e => e)
  have HR4 := Lib.hid ((Below.heap_setCell w3 ⟨B, 1, none⟩ (.slice (some ⟨g2, 0, none⟩) (L.n + 1) cp2) _ hBlt.symm).trans (heap_keeps (heap_alloc HR.out (.cells #[.bool true] 4)) hkg hvne))
  have HI4 : Hid (IsRLoc B L.add (.slice (some ⟨g2, 0, none⟩) (L.n + 1) cp2) (w3.setCell ⟨B, 1, none⟩ (.slice (some ⟨g2, 0, none⟩) (L.n + 1) cp2))) := by
    refine ⟨heap_setCell_at w3 B _ _ 1 _ HB3.out, ?_, by show L.n + 1 ≤ 32; omega, HI1.out.key⟩
    show (w3.setCell _ _).ownsRow 0 4 1 _ (L.n + 1) (actVals L.add (L.n + 1))
    rw [add_vals]
    exact ownsRow_keeps Hown2.out ((Keeps.refl (fun k => k = B) w3).setCell (.inl rfl)) (fun k hk e => row_type Hown2.out B _ HB3.out (by decide) (by rw [← e]; exact hk))
  have hk4 : Hid (Keeps (fun k => k = B ∨ (Value.slice av L.n cv).ownBlock = some k) w (w3.setCell ⟨B, 1, none⟩ (.slice (some ⟨g2, 0, none⟩) (L.n + 1) cp2))) := ((hk1.out.alloc _).trans (hkg.mono (fun _ e => .inr e))).setCell (.inl (.inl rfl))
  have hold' : Hid (OldOrNew (.slice av L.n cv) (.slice (some ⟨g2, 0, none⟩) (L.n + 1) cp2) w.heap.size) := fun k hk => by
    rcases hold k hk with e | e
    · exact .inl e
    · exact .inr (by simp at e; omega)
  have hs4 : w.heap.size < (w3.setCell ⟨B, 1, none⟩ (.slice (some ⟨g2, 0, none⟩) (L.n + 1) cp2)).heap.size := (Array.getElem?_eq_some_iff.1 HR4.out).1
  have hk16 := Lib.hid HI1.out.key
  generalize w3.setCell ⟨B, 1, none⟩ (.slice (some ⟨g2, 0, none⟩) (L.n + 1) cp2) = W4 at *
  clear hkg HB3 Hown2 Hgrow hold x0 x1 y1 d1 e1 g1 Hal HR HI1 hk1 hs1 hvne
  refine (rID_any L.key L.n _ W4 rfl hk16.out (by omega)).mono ?_
  rintro e w5 ⟨rfl, hb5⟩
  have HR5 := Lib.hid (heap_below HR4.out hb5)
  have HI5 := Lib.hid (HI4.out.below hb5)
  have hk5 := Lib.hid (hk4.out.trans (Keeps.of_below hb5))
  clear hb5 HR4 HI4 hk4 hs4
  have r0 := cell_of_heap HR5.out 0
  have f0 := free_of_heap HR5.out 0
  have r1 := cell_of_heap HR5.out 1
  have f1 := free_of_heap HR5.out 1
  have r2 := cell_of_heap HR5.out 2
  have f2 := free_of_heap HR5.out 2
  have r3 := cell_of_heap HR5.out 3
  have f3 := free_of_heap HR5.out 3
  have r4 := cell_of_heap HR5.out 4
  have f4 := free_of_heap HR5.out 4
  have r5 := cell_of_heap HR5.out 5
  have f5 := free_of_heap HR5.out 5
  have r6 := cell_of_heap HR5.out 6
  have f6 := free_of_heap HR5.out 6
  have r7 := cell_of_heap HR5.out 7
  have f7 := free_of_heap HR5.out 7
  have r8 := cell_of_heap HR5.out 8
  have f8 := free_of_heap HR5.out 8
  have r9 := cell_of_heap HR5.out 9
  have f9 := free_of_heap HR5.out 9
  have r10 := cell_of_heap HR5.out 10
  have f10 := free_of_heap HR5.out 10
  have r11 := cell_of_heap HR5.out 11
  have f11 := free_of_heap HR5.out 11
  have r12 := cell_of_heap HR5.out 12
  have f12 := free_of_heap HR5.out 12
  simp only [List.getElem?_toArray, List.getElem?_cons_succ, List.getElem?_cons_zero] at r0 r1 r2 r3 r4 r5 r6 r7 r8 r9 r10 r11 r12
  go_wp2
  refine bodyPost_ret (v := .tuple #[frameV 24 L.n 0 (idB L.key L.n), .int .i64 0]) (by simp [results, Try.results39, go_sem, r0, r1, r2, r3, r4, r5, r6, r7, r8, r9, r10, r11, r12]) rfl ⟨24, L.n, _, 0, L.add, rfl, ⟨_, ?_, hold'.out, ?_⟩, .inl ⟨rfl, rfl, rfl, rfl, rfl, h, by rw [Hq.out]; exact hm⟩⟩
  · refine HI5.out.kept (S := fun k => k = w.heap.size) ?_ hBlt (fun k hk e => row_type HI5.out.own _ _ HR5.out (by decide) (by rw [← e]; exact hk))
    repeat' (refine Keeps.setCell ?_ (.inl rfl))
    exact Keeps.refl _ _
  · repeat' (refine Keeps.setCell ?_ (.inr (Nat.le_refl _)))
    exact hk5.out

theorem rissue_any (B : Nat) (L : Loc) (v : Value) (w : World) (hL : IsRLoc B L v w) :
    Calls Try.prog 39 #[.pointer (some ⟨B, 0, none⟩)] w (RIssueAny B L v w) := by
  by_cases h : L.n = 32
  · exact rissue_full B L v w hL h
  · have hlt : L.n < 32 := by have := hL.le; omega
    by_cases h4 : 4 ≤ (L.actives L.n).length
    · exact rissue_many B L v w hL hlt h4
    · exact rissue_yes B L v w hL hlt (by omega)

/-- Two lists of the same strings. -/
theorem texts_same (b1 b2 : Nat) (l : List ByteArray) (v1 v2 : Value) (w : World) (hl : l.length < 1000) (h1 : w.ownsRow b1 9 1 v1 l.length (strVals l)) (h2 : w.ownsRow b2 9 1 v2 l.length (strVals l)) :
    Calls Try.prog 45 #[v1, v2] w fun e w' => e = .returned (.bool true) ∧ Below w.heap.size w w' := by
  obtain ⟨a1, c1, rfl, ha1⟩ := slice_any h1
  obtain ⟨a2, c2, rfl, ha2⟩ := slice_any h2
  have H1 := Lib.hid h1; clear h1
  have H2 := Lib.hid h2; clear h2
  go_enter Try.func45, Try.ntmps45
  go_wp2
  go_loopw [5] (fun i wr => ∃ j : Nat, j ≤ l.length ∧ i = .int .i64 j ∧ Below w.heap.size w wr) (fun i _ => l.length - (intOf i).toNat)
  case atStart => exact ⟨0, Nat.zero_le _, rfl, Below.refl _ _⟩
  case round =>
    obtain ⟨j, hj, rfl, hb⟩ := hrel
    by_cases hlt : j < l.length
    · obtain ⟨g1, rfl⟩ := ha1 (by omega)
      obtain ⟨g2, rfl⟩ := ha2 (by omega)
      obtain ⟨x, hx⟩ : ∃ x, l[j]? = some x := ⟨_, List.getElem?_eq_getElem hlt⟩
      have hc1 := own_src (ownsRow_below H1.out hb) j (.string x) (by simp [strVals, hx])
      have hc2 := own_src (ownsRow_below H2.out hb) j (.string x) (by simp [strVals, hx])
      simp only [Addr.add_mid, Nat.zero_add] at hc1 hc2
      clear hx
      go_wp2
      go_region
      go_wp2
      go_roundw
      case rel => exact ⟨j + 1, by omega, by go_num, hb.drew⟩
      case measure => simp [intOf]; omega
    · go_wp2
      go_ret
      exact ⟨rfl, hb⟩

end Go.Proofs.Ytmdfpknhfkgfoaa
