/- path.Paths: Challenge, Respond, Validate, Migrate. -/
import Derived.Test.YtmdfpknhfkgfoaaDoorPApi2
import Derived.LaidEqlPtr
namespace Go.Proofs.YtmdfpknhfkgfoaaDoor
open Go.RowKit Go.Shelf

set_option maxRecDepth 100000 in
theorem sent_nil (l r n : Int) (w : World) : Calls Tryd.prog 15 #[.pointer none, .int .i64 l, .int .i64 r, .int .i64 n] w (SomeB (.int .i64 1) w) := by
  go_enter Tryd.func15, Tryd.ntmps15
  go_wp2
  go_ret
  exact ⟨rfl, Below.refl _ _⟩
theorem challenge_nil (t l r : Int) (d : ByteArray) (w : World) : Calls Tryd.prog 14 #[.pointer none, .int .i64 t, .int .i64 l, .int .i64 r, .string d] w (SomeB (.int .i64 1) w) := by
  go_enter Tryd.func14, Tryd.ntmps14
  go_wp2
  go_ret
  exact ⟨rfl, Below.refl _ _⟩
theorem validate_nil (l r : Int) (w : World) : Calls Tryd.prog 32 #[.pointer none, .int .i64 l, .int .i64 r] w (SomeB (.int .i64 1) w) := by
  go_enter Tryd.func32, Tryd.ntmps32
  go_wp2
  go_ret
  exact ⟨rfl, Below.refl _ _⟩
theorem migrate_nil (l r : Int) (w : World) : Calls Tryd.prog 20 #[.pointer none, .int .i64 l, .int .i64 r] w (SomeB (.int .i64 1) w) := by
  go_enter Tryd.func20, Tryd.ntmps20
  go_wp2
  go_ret
  exact ⟨rfl, Below.refl _ _⟩
theorem respond_nil (aA aP : Addr) (t l r : Int) (d : ByteArray) (w : World) (hE : Errs aA aP w) : Calls Tryd.prog 21 #[.pointer none, .int .i64 t, .int .i64 l, .int .i64 r, .string d] w (SomeB (.bool false) w) := by
  have HE := Lib.hid hE; clear hE
  go_enter Tryd.func21, Tryd.ntmps21
  go_wp2_with (fail)
  refine (find_nil aA aP l r w HE.out).mono ?_
  rintro e w1 ⟨rfl, hb1⟩
  go_wp2
  go_ret
  exact ⟨rfl, hb1⟩

/-! ### Validate -/
def PE.validate (e : PE) : PE := { e with ok := true }
def PS.validate (S : PS) (k : Int × Int) : Int × PS := match S.get k with | some _ => (0, S.upd k PE.validate) | none => (240, S)

set_option maxRecDepth 100000 in
set_option maxHeartbeats 800000 in
theorem validate_any (aA aP : Addr) (w0 : World) (B : Nat) (β : Int × Int → Nat) (S : PS) (v : Value) (l r : Int) (w : World) (hE : Errs aA aP w) (hS : PAt w0 B β S v w) :
    Calls Tryd.prog 32 #[.pointer (some ⟨B, 0, none⟩), .int .i64 l, .int .i64 r] w (TurnPost w0 B β S v (.int .i64 (S.validate (l, r)).1) (S.validate (l, r)).2 w) := by
  have HS := Lib.hid hS; clear hS
  have HE := Lib.hid hE; clear hE
  cases hg : S.get (l, r) with
  | none =>
    have Hv := Lib.hid (show S.validate (l, r) = (240, S) by unfold PS.validate; rw [hg])
    have Hg := Lib.hid hg; clear hg
    rw [Hv.out]
    go_enter Tryd.func32, Tryd.ntmps32
    go_wp2_with (fail)
    refine (find_no aA aP B β S v l r w HE.out HS.out.is Hg.out).mono ?_
    rintro e w1 ⟨rfl, hb1⟩
    have HB := Lib.hid hb1; clear hb1
    go_wp2_with (fail)
    refine (errno_pth aA aP w1 (HE.out.below HB.out)).mono ?_
    rintro e w' ⟨rfl, rfl⟩
    go_wp2
    go_ret
    exact ⟨rfl, β, v, HS.out.go_same HB.out⟩
  | some e0 =>
    have Hv := Lib.hid (show S.validate (l, r) = (0, S.upd (l, r) PE.validate) by unfold PS.validate; rw [hg])
    have Hg := Lib.hid hg; clear hg
    rw [Hv.out]
    have hsm := HS.out.small e0 (PS.get_mem Hg.out).1
    go_enter Tryd.func32, Tryd.ntmps32
    go_wp2_with (fail)
    refine (find_yes aA aP B β S v l r w HE.out HS.out.is e0 Hg.out).mono ?_
    rintro e w1 ⟨rfl, hb1⟩
    have hblk := (HS.out.is.below hb1).at Hg.out
    have c6 := cell_of_heap hblk 6
    have f6 := free_of_heap hblk 6
    have HBlk := Lib.hid hblk
    have HB := Lib.hid hb1
    clear hblk hb1
    go_wp2_with (fail)
    refine (errno_nil _).mono ?_
    rintro e w' ⟨rfl, rfl⟩
    go_wp2
    go_ret
    refine ⟨rfl, β, v, HS.out.upd Hg.out PE.validate (fun _ => rfl) hsm HB.out ((Keeps.refl _ _).setCell (.inl rfl)) ?_⟩
    exact heap_setCell_at w1 (β (l, r)) _ _ 6 _ HBlk.out

/-! ### Challenge -/
def PE.ask (d : ByteArray) (t : Int) (e : PE) : PE := { e with data := d, tick := t }
def PS.challenge (S : PS) (t : Int) (k : Int × Int) (d : ByteArray) : Int × PS :=
  if within 0 1000000000 t = false ∨ d.size ≠ 8 then (2, S) else match S.get k with | some _ => (0, S.upd k (PE.ask d t)) | none => (240, S)

set_option maxRecDepth 100000 in
set_option maxHeartbeats 800000 in
theorem challenge_any (aA aP : Addr) (w0 : World) (B : Nat) (β : Int × Int → Nat) (S : PS) (v : Value) (t l r : Int) (d : ByteArray) (w : World) (hE : Errs aA aP w) (hS : PAt w0 B β S v w) :
    Calls Tryd.prog 14 #[.pointer (some ⟨B, 0, none⟩), .int .i64 t, .int .i64 l, .int .i64 r, .string d] w (TurnPost w0 B β S v (.int .i64 (S.challenge t (l, r) d).1) (S.challenge t (l, r) d).2 w) := by
  have HS := Lib.hid hS; clear hS
  have HE := Lib.hid hE; clear hE
  cases hn : within 0 1000000000 t with
  | false =>
    have Hv := Lib.hid (show S.challenge t (l, r) d = (2, S) by unfold PS.challenge; rw [if_pos (.inl hn)])
    have Hn := Lib.hid hn; clear hn
    rw [Hv.out]
    go_enter Tryd.func14, Tryd.ntmps14
    go_wp2_with (fail)
    refine (areIn_one 0 1000000000 t w w.heap.size rfl).mono ?_
    rintro e w2 ⟨rfl, hb2⟩
    rw [Hn.out]
    go_wp2
    go_ret
    exact ⟨rfl, β, v, HS.out.go_same hb2⟩
  | true =>
    have Hn := Lib.hid hn; clear hn
    by_cases hd : d.size = 8
    · have hd1 : ((d.size : Int) != 8) = false := by rw [hd]; rfl
      have Hd := Lib.hid hd; clear hd
      have hin : 0 ≤ t ∧ t ≤ 1000000000 := by
        have := Hn.out
        unfold within at this
        rw [Bool.and_eq_true] at this
        exact ⟨of_decide_eq_true this.1, of_decide_eq_true this.2⟩
      have hno : ¬ (within 0 1000000000 t = false ∨ d.size ≠ 8) := fun h => by
        rcases h with h | h
        · rw [Hn.out] at h; cases h
        · exact h Hd.out
      cases hg : S.get (l, r) with
      | none =>
        have Hv := Lib.hid (show S.challenge t (l, r) d = (240, S) by unfold PS.challenge; rw [if_neg hno, hg])
        have Hg := Lib.hid hg; clear hg hno
        rw [Hv.out]
        go_enter Tryd.func14, Tryd.ntmps14
        go_wp2_with (fail)
        refine (areIn_one 0 1000000000 t w w.heap.size rfl).mono ?_
        rintro e w2 ⟨rfl, hb2⟩
        rw [Hn.out]
        go_wp2_with (fail)
        refine (find_no aA aP B β S v l r w2 (HE.out.below hb2) (HS.out.is.below hb2) Hg.out).mono ?_
        rintro e w3 ⟨rfl, hb3⟩
        have HB := Lib.hid (hb2.trans (hb3.mono hb2.size))
        clear hb2 hb3
        go_wp2_with (fail)
        refine (errno_pth aA aP w3 (HE.out.below HB.out)).mono ?_
        rintro e w' ⟨rfl, rfl⟩
        go_wp2
        go_ret
        exact ⟨rfl, β, v, HS.out.go_same HB.out⟩
      | some e0 =>
        have Hv := Lib.hid (show S.challenge t (l, r) d = (0, S.upd (l, r) (PE.ask d t)) by unfold PS.challenge; rw [if_neg hno, hg])
        have Hg := Lib.hid hg; clear hg hno
        rw [Hv.out]
        have hsm := HS.out.small e0 (PS.get_mem Hg.out).1
        go_enter Tryd.func14, Tryd.ntmps14
        go_wp2_with (fail)
        refine (areIn_one 0 1000000000 t w w.heap.size rfl).mono ?_
        rintro e w2 ⟨rfl, hb2⟩
        rw [Hn.out]
        go_wp2_with (fail)
        refine (find_yes aA aP B β S v l r w2 (HE.out.below hb2) (HS.out.is.below hb2) e0 Hg.out).mono ?_
        rintro e w3 ⟨rfl, hb3⟩
        have HB := Lib.hid (hb2.trans (hb3.mono hb2.size))
        have hblk := (HS.out.is.below HB.out).at Hg.out
        have c2 := cell_of_heap hblk 2
        have f2 := free_of_heap hblk 2
        have c3 := cell_of_heap hblk 3
        have f3 := free_of_heap hblk 3
        have HBlk := Lib.hid hblk
        clear hb2 hb3 hblk
        go_wp2
        go_ret
        refine ⟨rfl, β, v, HS.out.upd Hg.out (PE.ask d t) (fun _ => rfl) ?_ HB.out (((Keeps.refl (fun b => b = β (l, r)) w3).setCell (.inl rfl)).setCell (.inl rfl)) ?_⟩
        · obtain ⟨s1, s2, s3, s4, s5, s6⟩ := hsm
          exact ⟨s1, s2, s3, s4, hin.1, hin.2⟩
        · exact heap_setCell_at _ (β (l, r)) _ _ 3 (.int .i64 t) (heap_setCell_at w3 (β (l, r)) _ _ 2 (.string d) HBlk.out)
    · have hd1 : ((d.size : Int) != 8) = true := by rw [bne_iff_ne]; omega
      have Hv := Lib.hid (show S.challenge t (l, r) d = (2, S) by unfold PS.challenge; rw [if_pos (.inr hd)])
      clear hd
      rw [Hv.out]
      go_enter Tryd.func14, Tryd.ntmps14
      go_wp2_with (fail)
      refine (areIn_one 0 1000000000 t w w.heap.size rfl).mono ?_
      rintro e w2 ⟨rfl, hb2⟩
      rw [Hn.out]
      go_wp2
      go_ret
      exact ⟨rfl, β, v, HS.out.go_same hb2⟩

/-! ### Respond -/
/-- No challenge is outstanding. -/
def PE.idle (e : PE) : Bool := decide (e.data = ⟨#[]⟩) && decide (e.tick = 0)
theorem empty_iff (s : ByteArray) : s.toList = [] ↔ s = ⟨#[]⟩ := by
  rw [ByteArray.toList_eq]
  constructor
  · intro h
    apply ByteArray.ext
    exact Array.toList_inj.1 h
  · intro h; rw [h]
theorem chal_eq (s : ByteArray) (a : Int) (w : World) : (binOp .eql 94 (.agg #[.string s, .int .i64 a]) (.agg #[.string ⟨#[]⟩, .int .i64 0])).run Tryd.prog w = .ok (.bool (decide (s = ⟨#[]⟩) && decide (a = 0))) w := by
  simp [go_sem, empty_iff]
  by_cases h1 : s = ⟨#[]⟩ <;> by_cases h2 : a = 0 <;> simp [h1, h2]
theorem chal_ne (s : ByteArray) (a : Int) (w : World) : (binOp .neq 94 (.agg #[.string s, .int .i64 a]) (.agg #[.string ⟨#[]⟩, .int .i64 0])).run Tryd.prog w = .ok (.bool (!(decide (s = ⟨#[]⟩) && decide (a = 0)))) w := by
  simp [go_sem, empty_iff]
  by_cases h1 : s = ⟨#[]⟩ <;> by_cases h2 : a = 0 <;> simp [h1, h2]

theorem str_eq_true {a b : ByteArray} (h : a = b) : (a.toList == b.toList) = true := by rw [h]; simp
theorem str_eq_false {a b : ByteArray} (h : a ≠ b) : (a.toList == b.toList) = false := by
  rw [ByteArray.toList_eq, ByteArray.toList_eq]
  simp only [beq_eq_false_iff_ne]
  exact fun e => h (by apply ByteArray.ext; exact Array.toList_inj.1 e)
theorem str_ne_false {a b : ByteArray} (h : a = b) : (a.toList != b.toList) = false := by rw [h]; simp
theorem str_ne_true {a b : ByteArray} (h : a ≠ b) : (a.toList != b.toList) = true := by
  rw [bne_iff_ne, ByteArray.toList_eq, ByteArray.toList_eq]
  exact fun e => h (by apply ByteArray.ext; exact Array.toList_inj.1 e)

def PE.answer (e : PE) : PE := { e with data := ⟨#[]⟩, tick := 0, ok := true }
def PS.respond (S : PS) (k : Int × Int) (d : ByteArray) : Bool × PS :=
  match S.get k with | some e => if e.idle = true ∨ e.data ≠ d then (false, S) else (true, S.upd k PE.answer) | none => (false, S)

set_option maxRecDepth 100000 in
set_option maxHeartbeats 1600000 in
theorem respond_any (aA aP : Addr) (w0 : World) (B : Nat) (β : Int × Int → Nat) (S : PS) (v : Value) (t l r : Int) (d : ByteArray) (w : World) (hE : Errs aA aP w) (hS : PAt w0 B β S v w) :
    Calls Tryd.prog 21 #[.pointer (some ⟨B, 0, none⟩), .int .i64 t, .int .i64 l, .int .i64 r, .string d] w (TurnPost w0 B β S v (.bool (S.respond (l, r) d).1) (S.respond (l, r) d).2 w) := by
  have HS := Lib.hid hS; clear hS
  have HE := Lib.hid hE; clear hE
  cases hg : S.get (l, r) with
  | none =>
    have Hv := Lib.hid (show S.respond (l, r) d = (false, S) by unfold PS.respond; rw [hg])
    have Hg := Lib.hid hg; clear hg
    rw [Hv.out]
    go_enter Tryd.func21, Tryd.ntmps21
    go_wp2_with (fail)
    refine (find_no aA aP B β S v l r w HE.out HS.out.is Hg.out).mono ?_
    rintro e w1 ⟨rfl, hb1⟩
    go_wp2
    go_ret
    exact ⟨rfl, β, v, HS.out.go_same hb1⟩
  | some e0 =>
    have heq := chal_eq e0.data e0.tick
    cases hi : e0.idle with
    | true =>
      have Hv := Lib.hid (show S.respond (l, r) d = (false, S) by unfold PS.respond; rw [hg]; show (if e0.idle = true ∨ e0.data ≠ d then _ else _) = _; rw [if_pos (.inl hi)])
      rw [show (decide (e0.data = ⟨#[]⟩) && decide (e0.tick = 0)) = true from hi] at heq
      have Hg := Lib.hid hg; clear hg hi
      rw [Hv.out]
      go_enter Tryd.func21, Tryd.ntmps21
      go_wp2_with (fail)
      refine (find_yes aA aP B β S v l r w HE.out HS.out.is e0 Hg.out).mono ?_
      rintro e w1 ⟨rfl, hb1⟩
      have hblk := (HS.out.is.below hb1).at Hg.out
      have c2 := cell_of_heap hblk 2
      have c3 := cell_of_heap hblk 3
      clear hblk
      go_wp2
      go_ret
      exact ⟨rfl, β, v, HS.out.go_same hb1⟩
    | false =>
      rw [show (decide (e0.data = ⟨#[]⟩) && decide (e0.tick = 0)) = false from hi] at heq
      by_cases hd : e0.data = d
      · have Hv := Lib.hid (show S.respond (l, r) d = (true, S.upd (l, r) PE.answer) by
          unfold PS.respond; rw [hg]; show (if e0.idle = true ∨ e0.data ≠ d then _ else _) = _
          rw [if_neg (fun h => by rcases h with h | h; rw [hi] at h; cases h; exact h hd)])
        have hne := str_eq_true hd
        have Hg := Lib.hid hg; clear hg hi hd
        rw [Hv.out]
        have hsm := HS.out.small e0 (PS.get_mem Hg.out).1
        go_enter Tryd.func21, Tryd.ntmps21
        go_wp2_with (fail)
        refine (find_yes aA aP B β S v l r w HE.out HS.out.is e0 Hg.out).mono ?_
        rintro e w1 ⟨rfl, hb1⟩
        have hblk := (HS.out.is.below hb1).at Hg.out
        have c2 := cell_of_heap hblk 2
        have f2 := free_of_heap hblk 2
        have c3 := cell_of_heap hblk 3
        have f3 := free_of_heap hblk 3
        have c6 := cell_of_heap hblk 6
        have f6 := free_of_heap hblk 6
        have HBlk := Lib.hid hblk
        have HB := Lib.hid hb1
        clear hblk hb1
        go_wp2
        go_ret
        refine ⟨rfl, β, v, HS.out.upd Hg.out PE.answer (fun _ => rfl) ?_ HB.out ((((Keeps.refl (fun b => b = β (l, r)) w1).setCell (.inl rfl)).setCell (.inl rfl)).setCell (.inl rfl)) ?_⟩
        · obtain ⟨s1, s2, s3, s4, s5, s6⟩ := hsm
          exact ⟨s1, s2, s3, s4, Int.le_refl _, by show (0 : Int) ≤ 1000000000; decide⟩
        · exact heap_setCell_at _ (β (l, r)) _ _ 6 (.bool true) (heap_setCell_at _ (β (l, r)) _ _ 3 (.int .i64 0) (heap_setCell_at w1 (β (l, r)) _ _ 2 (.string ⟨#[]⟩) HBlk.out))
      · have Hv := Lib.hid (show S.respond (l, r) d = (false, S) by unfold PS.respond; rw [hg]; show (if e0.idle = true ∨ e0.data ≠ d then _ else _) = _; rw [if_pos (.inr hd)])
        have hne := str_eq_false hd
        have Hg := Lib.hid hg; clear hg hi hd
        rw [Hv.out]
        go_enter Tryd.func21, Tryd.ntmps21
        go_wp2_with (fail)
        refine (find_yes aA aP B β S v l r w HE.out HS.out.is e0 Hg.out).mono ?_
        rintro e w1 ⟨rfl, hb1⟩
        have hblk := (HS.out.is.below hb1).at Hg.out
        have c2 := cell_of_heap hblk 2
        have c3 := cell_of_heap hblk 3
        clear hblk
        go_wp2
        go_ret
        exact ⟨rfl, β, v, HS.out.go_same hb1⟩

end Go.Proofs.YtmdfpknhfkgfoaaDoor
