/- The contract of cid.Local.Issue. -/
import Derived.Test.YtmdfpknhfkgfoaaLoc2
namespace Go.Proofs.Ytmdfpknhfkgfoaa
open Go.RowKit

/-- A frame with all other fields zero. -/
abbrev frameV (ty seq ret : Int) (c : ByteArray) : Value := .agg #[.int .i64 ty, .int .i64 0, .int .i64 0, .string ⟨#[]⟩, .bool false, .int .i64 0, .int .i64 0, .bool false, .int .i64 0, .slice none 0 0, .int .i64 seq, .int .i64 ret, .string c]

def IssuePost (B : Nat) (L : Loc) (f : Value) (err : Int) (w : World) (e : Ending) (w' : World) : Prop :=
  e = .returned (.tuple #[f, .int .i64 err]) ∧ IsLoc B L w' ∧ Only B w w'

set_option maxRecDepth 100000 in
set_option maxHeartbeats 800000 in
theorem issue_full (B : Nat) (L : Loc) (w : World) (hL : IsLoc B L w) (h : L.n = 32) :
    Calls Try.prog 38 #[.pointer (some ⟨B, 0, none⟩)] w (IssuePost B L (frameV 0 0 0 ⟨#[]⟩) 71 w) := by
  have c65 := hL.blk.cell 65 (by decide)
  rw [Loc.at_n, h] at c65
  have hBlt := hL.blk.lt
  have HL := Lib.hid hL; clear hL
  have Hh := Lib.hid h; clear h
  go_enter Try.func38, Try.ntmps38
  go_wp2
  refine bodyPost_ret (v := .tuple #[frameV 0 0 0 ⟨#[]⟩, .int .i64 71]) (by simp [results, Try.results38, go_sem]) rfl ⟨rfl, ⟨HL.out.blk.alloc _, HL.out.le, HL.out.key⟩, (Only.refl _ _).alloc _⟩

/-- The result's block. -/
abbrev zeroFrame : Array Value := #[.int .i64 0, .int .i64 0, .int .i64 0, .string ⟨#[]⟩, .bool false, .int .i64 0, .int .i64 0, .bool false, .int .i64 0, .slice none 0 0, .int .i64 0, .int .i64 0, .string ⟨#[]⟩]

set_option maxRecDepth 100000 in
set_option maxHeartbeats 800000 in
theorem issue_many (B : Nat) (L : Loc) (w : World) (hL : IsLoc B L w) (h : L.n < 32) (hm : 4 ≤ (L.actives L.n).length) :
    Calls Try.prog 38 #[.pointer (some ⟨B, 0, none⟩)] w (IssuePost B L (frameV 0 0 0 ⟨#[]⟩) 71 w) := by
  have c65 := hL.blk.cell 65 (by decide)
  rw [Loc.at_n] at c65
  have hBlt := hL.blk.lt
  have hI : IsLoc B L (w.alloc (.cells zeroFrame 42)) := ⟨hL.blk.alloc _, hL.le, hL.key⟩
  have HL := Lib.hid hL; clear hL
  have HI := Lib.hid hI; clear hI
  have hne : ((L.n : Int) == 32) = false := by simp; omega
  have hal := L.actives_le L.n
  go_enter Try.func38, Try.ntmps38
  go_wp2_with (fail)
  refine (active_any B L _ HI.out).mono ?_
  rintro e w1 ⟨v, rfl, hown, hb1⟩
  obtain ⟨m, hm4, hv⟩ : ∃ m : Nat, 4 ≤ m ∧ ∃ g cap, v = .slice (some ⟨g, 0, none⟩) m cap := by
    obtain ⟨m, hm'⟩ : ∃ m, (L.actives L.n).length = m + 1 := ⟨_, (Nat.succ_pred_eq_of_pos (by omega)).symm⟩
    rw [hm'] at hown hm
    obtain ⟨g, cap, hv⟩ := ownsRow_succ hown
    exact ⟨m + 1, hm, g, cap, hv⟩
  obtain ⟨g, cap, hv⟩ := hv
  rw [hv]
  have HR := Lib.hid ((hb1.block w.heap.size (by simp)).trans (heap_alloc_new _ _))
  have HO : Hid (Only B w w1) := ((Only.refl B w).alloc _).trans (Only.of_below hb1)
  have HI1 : Hid (IsLoc B L w1) := ⟨HI.out.blk.below hb1 HI.out.blk.lt, HI.out.le, HI.out.key⟩
  clear hown hb1 hv c65 hm hal
  have r0 := cell_of_heap HR.out 0
  have f0 := free_of_heap HR.out 0
  have r1 := cell_of_heap HR.out 1
  have f1 := free_of_heap HR.out 1
  have r2 := cell_of_heap HR.out 2
  have f2 := free_of_heap HR.out 2
  have r3 := cell_of_heap HR.out 3
  have f3 := free_of_heap HR.out 3
  have r4 := cell_of_heap HR.out 4
  have f4 := free_of_heap HR.out 4
  have r5 := cell_of_heap HR.out 5
  have f5 := free_of_heap HR.out 5
  have r6 := cell_of_heap HR.out 6
  have f6 := free_of_heap HR.out 6
  have r7 := cell_of_heap HR.out 7
  have f7 := free_of_heap HR.out 7
  have r8 := cell_of_heap HR.out 8
  have f8 := free_of_heap HR.out 8
  have r9 := cell_of_heap HR.out 9
  have f9 := free_of_heap HR.out 9
  have r10 := cell_of_heap HR.out 10
  have f10 := free_of_heap HR.out 10
  have r11 := cell_of_heap HR.out 11
  have f11 := free_of_heap HR.out 11
  have r12 := cell_of_heap HR.out 12
  have f12 := free_of_heap HR.out 12
  simp only [List.getElem?_toArray, List.getElem?_cons_succ, List.getElem?_cons_zero] at r0 r1 r2 r3 r4 r5 r6 r7 r8 r9 r10 r11 r12
  go_wp2
  refine bodyPost_ret (v := .tuple #[frameV 0 0 0 ⟨#[]⟩, .int .i64 71]) (by simp [results, Try.results38, go_sem, r0, r1, r2, r3, r4, r5, r6, r7, r8, r9, r10, r11, r12]) rfl ⟨rfl, ⟨?_, HL.out.le, HL.out.key⟩, ?_⟩
  · repeat' (refine Blk.setOther ?_ (Nat.ne_of_lt hBlt))
    exact HI1.out.blk
  · repeat' (refine Only.setNew ?_ (Nat.le_refl _))
    exact HO.out

set_option maxRecDepth 100000 in
set_option maxHeartbeats 1600000 in
theorem issue_yes (B : Nat) (L : Loc) (w : World) (hL : IsLoc B L w) (h : L.n < 32) (hm : (L.actives L.n).length < 4) :
    Calls Try.prog 38 #[.pointer (some ⟨B, 0, none⟩)] w (IssuePost B L.add (frameV 24 L.n 0 (idB L.key L.n)) 0 w) := by
  have c65 := hL.blk.cell 65 (by decide)
  rw [Loc.at_n] at c65
  have hBlt := hL.blk.lt
  have hI : IsLoc B L (w.alloc (.cells zeroFrame 42)) := ⟨hL.blk.alloc _, hL.le, hL.key⟩
  have HL := Lib.hid hL; clear hL
  have HI := Lib.hid hI; clear hI
  have hne : ((L.n : Int) == 32) = false := by simp; omega
  go_enter Try.func38, Try.ntmps38
  go_wp2_with (fail)
  refine (active_any B L _ HI.out).mono ?_
  rintro e w1 ⟨v, rfl, hown, hb1⟩
  obtain ⟨m, a0, cap, hm4, hv⟩ : ∃ (m : Nat) (a0 : Option Addr) (cap : Nat), m < 4 ∧ v = .slice a0 m cap := by
    rcases hown.2 with ⟨hv, _⟩ | ⟨g, cap, cur, hv, _⟩
    · exact ⟨0, none, 0, by decide, hv⟩
    · exact ⟨_, _, cap, hm, hv⟩
  rw [hv]
  have HR1 := Lib.hid ((hb1.block w.heap.size (by simp)).trans (heap_alloc_new _ _))
  have HO1 : Hid (Only B w w1) := ((Only.refl B w).alloc _).trans (Only.of_below hb1)
  have HI1 : Hid (IsLoc B L w1) := ⟨HI.out.blk.below hb1 HI.out.blk.lt, HI.out.le, HI.out.key⟩
  have hR1 : w.heap.size < w1.heap.size := by have := hb1.size; simp at this; omega
  have hdec : decide ((4 : Int) ≤ (m : Int)) = false := by simp; omega
  clear hown hb1 hv c65 hm
  go_wp2_with (fail)
  refine (add_any B L _ HI1.out h).mono ?_
  rintro e w2 ⟨rfl, hI2, hO2⟩
  have HI2 := Lib.hid hI2; clear hI2
  have HR := Lib.hid ((hO2.block w.heap.size hR1 (fun e => by injection e with e; omega)).trans HR1.out)
  have HO : Hid (Only B w w2) := HO1.out.trans hO2
  have d65 := HI2.out.blk.cell 65 (by decide)
  rw [Loc.at_n] at d65
  have d65' : w2.cell? ⟨B, 65, none⟩ = some (.int .i64 ((L.n : Int) + 1)) := d65
  have dn := HI2.out.blk.cell L.n (by omega)
  rw [L.add.at_id L.n (by show L.n < L.n + 1; omega) HI2.out.le] at dn
  have dn' : w2.cell? ⟨B, L.n, none⟩ = some (.string (idB L.key L.n)) := dn
  clear d65 dn HO1 HR1 HI1 hO2 hR1
  have q1 : IntKind.i64.wrap ((L.n : Int) + 1) = (L.n : Int) + 1 := IntWalk.i64_in _ (by omega)
  have q2 : (L.n : Int) + 1 - 1 = (L.n : Int) := by omega
  have q3 : IntKind.i64.wrap (L.n : Int) = (L.n : Int) := IntWalk.i64_in _ (by omega)
  have j1 : (0 : Int) ≤ (L.n : Int) := by omega
  have j2 : (L.n : Int) < 32 := by omega
  have r0 := cell_of_heap HR.out 0
  have f0 := free_of_heap HR.out 0
  have r1 := cell_of_heap HR.out 1
  have f1 := free_of_heap HR.out 1
  have r2 := cell_of_heap HR.out 2
  have f2 := free_of_heap HR.out 2
  have r3 := cell_of_heap HR.out 3
  have f3 := free_of_heap HR.out 3
  have r4 := cell_of_heap HR.out 4
  have f4 := free_of_heap HR.out 4
  have r5 := cell_of_heap HR.out 5
  have f5 := free_of_heap HR.out 5
  have r6 := cell_of_heap HR.out 6
  have f6 := free_of_heap HR.out 6
  have r7 := cell_of_heap HR.out 7
  have f7 := free_of_heap HR.out 7
  have r8 := cell_of_heap HR.out 8
  have f8 := free_of_heap HR.out 8
  have r9 := cell_of_heap HR.out 9
  have f9 := free_of_heap HR.out 9
  have r10 := cell_of_heap HR.out 10
  have f10 := free_of_heap HR.out 10
  have r11 := cell_of_heap HR.out 11
  have f11 := free_of_heap HR.out 11
  have r12 := cell_of_heap HR.out 12
  have f12 := free_of_heap HR.out 12
  simp only [List.getElem?_toArray, List.getElem?_cons_succ, List.getElem?_cons_zero] at r0 r1 r2 r3 r4 r5 r6 r7 r8 r9 r10 r11 r12
  go_wp2
  go_region
  go_wp2
  refine bodyPost_ret (v := .tuple #[frameV 24 L.n 0 (idB L.key L.n), .int .i64 0]) (by simp [results, Try.results38, go_sem, r0, r1, r2, r3, r4, r5, r6, r7, r8, r9, r10, r11, r12]) rfl ⟨rfl, ⟨?_, HI2.out.le, HL.out.key⟩, ?_⟩
  · refine Blk.drew ?_
    repeat' (refine Blk.setOther ?_ (Nat.ne_of_lt hBlt))
    exact HI2.out.blk
  · refine Only.drew ?_
    repeat' (refine Only.setNew ?_ (Nat.le_refl _))
    exact HO.out

/-- On a nil Local. -/
theorem issue_nil (w : World) : Calls Try.prog 38 #[.pointer none] w fun e w' => e = .returned (.tuple #[frameV 0 0 0 ⟨#[]⟩, .int .i64 1]) ∧ Below w.heap.size w w' := by
  go_enter Try.func38, Try.ntmps38
  go_wp2
  refine bodyPost_ret (v := .tuple #[frameV 0 0 0 ⟨#[]⟩, .int .i64 1]) (by simp [results, Try.results38, go_sem]) rfl ⟨rfl, ?_⟩
  exact (Below.refl _ _).alloc (Nat.le_refl _) _

end Go.Proofs.Ytmdfpknhfkgfoaa
