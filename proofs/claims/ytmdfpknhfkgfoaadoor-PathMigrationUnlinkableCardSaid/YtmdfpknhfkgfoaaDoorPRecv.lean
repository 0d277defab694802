/- path.Paths.receive: the walk where the arguments are bad, and where the path is known. -/
import Derived.Test.YtmdfpknhfkgfoaaDoorPRoom2
namespace Go.Proofs.YtmdfpknhfkgfoaaDoor
open Go.RowKit Go.Shelf

def recvOk (now l r n : Int) : Bool := within 0 1000000000 now && addrsOk l r && within 0 65536 n
def PS.grown (S : PS) (l r n : Int) : PS := { S with es := S.es ++ [⟨l, r, ⟨#[]⟩, 0, n, 0, false⟩] }
/-- What Received does. -/
def PS.received (S : PS) (now l r n : Int) : Int × PS :=
  if recvOk now l r n then
    match S.get (l, r) with
    | some _ => (0, S.upd (l, r) fun e => { e with rcv := e.rcv + n })
    | none => if S.room.1 then (0, S.room.2.grown l r n) else (240, S)
  else (2, S)
def errV (aA aP : Addr) (x : Int) : Value := if x = 0 then .nilIface else if x = 2 then eVal aA else eVal aP

section
variable (aA aP : Addr) (w0 : World) (B : Nat) (β : Int × Int → Nat) (S : PS) (v : Value) (now l r n : Int) (w : World)
abbrev RecvSays : Prop := Calls Tryd.prog 49 #[.pointer (some ⟨B, 0, none⟩), .int .i64 now, .agg #[.int .i64 l, .int .i64 r], .int .i64 n] w (TurnPost w0 B β S v (errV aA aP (S.received now l r n).1) (S.received now l r n).2 w)

set_option maxRecDepth 100000 in
set_option maxHeartbeats 1600000 in
theorem recv_bad1 (hE : Errs aA aP w) (hS : PAt w0 B β S v w) (h1 : within 0 1000000000 now = false) : RecvSays aA aP w0 B β S v now l r n w := by
  have Hv := Lib.hid (show S.received now l r n = (2, S) by unfold PS.received recvOk; rw [h1]; rfl)
  have H1 := Lib.hid h1; clear h1
  have HS := Lib.hid hS
  have HE := Lib.hid hE
  clear hE hS
  unfold RecvSays
  rw [Hv.out]
  have hB0 : Hid (Below w.heap.size w (w.alloc (.cells #[.int .i64 l, .int .i64 r] 92))) := (Below.refl _ w).alloc (Nat.le_refl _) _
  have hX0 := Lib.hid (heap_alloc_new w (.cells #[.int .i64 l, .int .i64 r] 92))
  go_enter Tryd.func49, Tryd.ntmps49
  go_wp2_with (fail)
  refine (areIn_one 0 1000000000 now _ _ (by simp)).mono ?_
  rintro e w2 ⟨rfl, hb2⟩
  have hX2 := Lib.hid ((hb2.block _ (heap_lt hX0.out)).trans hX0.out)
  have hB2 : Hid (Below w.heap.size w w2) := hB0.out.trans (hb2.mono hB0.out.size)
  clear hb2
  rw [H1.out]
  have a2 := (HE.out.below hB2.out).arg
  go_wp2
  go_ret
  exact ⟨rfl, β, v, HS.out.go_same hB2.out⟩

set_option maxRecDepth 100000 in
set_option maxHeartbeats 1600000 in
theorem recv_bad2 (hE : Errs aA aP w) (hS : PAt w0 B β S v w) (h1 : within 0 1000000000 now = true) (h2 : addrsOk l r = false) : RecvSays aA aP w0 B β S v now l r n w := by
  have Hv := Lib.hid (show S.received now l r n = (2, S) by unfold PS.received recvOk; rw [h1, h2]; rfl)
  have H1 := Lib.hid h1; clear h1
  have H2 := Lib.hid h2; clear h2
  have HS := Lib.hid hS
  have HE := Lib.hid hE
  clear hE hS
  unfold RecvSays
  rw [Hv.out]
  have hB0 : Hid (Below w.heap.size w (w.alloc (.cells #[.int .i64 l, .int .i64 r] 92))) := (Below.refl _ w).alloc (Nat.le_refl _) _
  have hX0 := Lib.hid (heap_alloc_new w (.cells #[.int .i64 l, .int .i64 r] 92))
  go_enter Tryd.func49, Tryd.ntmps49
  go_wp2_with (fail)
  refine (areIn_one 0 1000000000 now _ _ (by simp)).mono ?_
  rintro e w2 ⟨rfl, hb2⟩
  have hX2 := Lib.hid ((hb2.block _ (heap_lt hX0.out)).trans hX0.out)
  have hB2 : Hid (Below w.heap.size w w2) := hB0.out.trans (hb2.mono hB0.out.size)
  clear hb2
  rw [H1.out]
  have c20 := cell_of_heap hX2.out 0
  have c21 := cell_of_heap hX2.out 1
  go_wp2_with (fail)
  refine (isValid_any l r _).mono ?_
  rintro e w3 ⟨rfl, hb3⟩
  have hX3 := Lib.hid ((hb3.block _ (heap_lt hX2.out)).trans hX2.out)
  have hB3 : Hid (Below w.heap.size w w3) := hB2.out.trans (hb3.mono hB2.out.size)
  clear hb3 c20 c21
  rw [H2.out]
  have a3 := (HE.out.below hB3.out).arg
  go_wp2
  go_ret
  exact ⟨rfl, β, v, HS.out.go_same hB3.out⟩

set_option maxRecDepth 100000 in
set_option maxHeartbeats 1600000 in
theorem recv_bad3 (hE : Errs aA aP w) (hS : PAt w0 B β S v w) (h1 : within 0 1000000000 now = true) (h2 : addrsOk l r = true) (h3 : within 0 65536 n = false) : RecvSays aA aP w0 B β S v now l r n w := by
  have Hv := Lib.hid (show S.received now l r n = (2, S) by unfold PS.received recvOk; rw [h1, h2, h3]; rfl)
  have H1 := Lib.hid h1; clear h1
  have H2 := Lib.hid h2; clear h2
  have H3 := Lib.hid h3; clear h3
  have HS := Lib.hid hS
  have HE := Lib.hid hE
  clear hE hS
  unfold RecvSays
  rw [Hv.out]
  have hB0 : Hid (Below w.heap.size w (w.alloc (.cells #[.int .i64 l, .int .i64 r] 92))) := (Below.refl _ w).alloc (Nat.le_refl _) _
  have hX0 := Lib.hid (heap_alloc_new w (.cells #[.int .i64 l, .int .i64 r] 92))
  go_enter Tryd.func49, Tryd.ntmps49
  go_wp2_with (fail)
  refine (areIn_one 0 1000000000 now _ _ (by simp)).mono ?_
  rintro e w2 ⟨rfl, hb2⟩
  have hX2 := Lib.hid ((hb2.block _ (heap_lt hX0.out)).trans hX0.out)
  have hB2 : Hid (Below w.heap.size w w2) := hB0.out.trans (hb2.mono hB0.out.size)
  clear hb2
  rw [H1.out]
  have c20 := cell_of_heap hX2.out 0
  have c21 := cell_of_heap hX2.out 1
  go_wp2_with (fail)
  refine (isValid_any l r _).mono ?_
  rintro e w3 ⟨rfl, hb3⟩
  have hX3 := Lib.hid ((hb3.block _ (heap_lt hX2.out)).trans hX2.out)
  have hB3 : Hid (Below w.heap.size w w3) := hB2.out.trans (hb3.mono hB2.out.size)
  clear hb3 c20 c21
  rw [H2.out]
  go_wp2_with (fail)
  refine (areIn_one 0 65536 n _ _ (by simp)).mono ?_
  rintro e w4 ⟨rfl, hb4⟩
  have hX4 := Lib.hid ((hb4.block _ (heap_lt hX3.out)).trans hX3.out)
  have hB4 : Hid (Below w.heap.size w w4) := hB3.out.trans (hb4.mono hB3.out.size)
  clear hb4
  rw [H3.out]
  have a4 := (HE.out.below hB4.out).arg
  go_wp2
  go_ret
  exact ⟨rfl, β, v, HS.out.go_same hB4.out⟩

set_option maxRecDepth 100000 in
set_option maxHeartbeats 1600000 in
theorem recv_known (hE : Errs aA aP w) (hS : PAt w0 B β S v w) (h1 : within 0 1000000000 now = true) (h2 : addrsOk l r = true) (h3 : within 0 65536 n = true) (e0 : PE) (hg : S.get (l, r) = some e0) (hsm2 : e0.rcv + n ≤ 1000000000000) : RecvSays aA aP w0 B β S v now l r n w := by
  have Hv := Lib.hid (show S.received now l r n = (0, S.upd (l, r) fun e => { e with rcv := e.rcv + n }) by unfold PS.received recvOk; rw [h1, h2, h3, hg]; rfl)
  have hin : 0 ≤ n ∧ n ≤ 65536 := by
    have := h3
    unfold within at this
    rw [Bool.and_eq_true] at this
    exact ⟨of_decide_eq_true this.1, of_decide_eq_true this.2⟩
  have H1 := Lib.hid h1; clear h1
  have H2 := Lib.hid h2; clear h2
  have H3 := Lib.hid h3; clear h3
  have Hg := Lib.hid hg; clear hg
  have hsm := hS.small e0 (PS.get_mem Hg.out).1
  have HS := Lib.hid hS
  have HE := Lib.hid hE
  clear hE hS
  unfold RecvSays
  rw [Hv.out]
  have hB0 : Hid (Below w.heap.size w (w.alloc (.cells #[.int .i64 l, .int .i64 r] 92))) := (Below.refl _ w).alloc (Nat.le_refl _) _
  have hX0 := Lib.hid (heap_alloc_new w (.cells #[.int .i64 l, .int .i64 r] 92))
  go_enter Tryd.func49, Tryd.ntmps49
  go_wp2_with (fail)
  refine (areIn_one 0 1000000000 now _ _ (by simp)).mono ?_
  rintro e w2 ⟨rfl, hb2⟩
  have hX2 := Lib.hid ((hb2.block _ (heap_lt hX0.out)).trans hX0.out)
  have hB2 : Hid (Below w.heap.size w w2) := hB0.out.trans (hb2.mono hB0.out.size)
  clear hb2
  rw [H1.out]
  have c20 := cell_of_heap hX2.out 0
  have c21 := cell_of_heap hX2.out 1
  go_wp2_with (fail)
  refine (isValid_any l r _).mono ?_
  rintro e w3 ⟨rfl, hb3⟩
  have hX3 := Lib.hid ((hb3.block _ (heap_lt hX2.out)).trans hX2.out)
  have hB3 : Hid (Below w.heap.size w w3) := hB2.out.trans (hb3.mono hB2.out.size)
  clear hb3 c20 c21
  rw [H2.out]
  go_wp2_with (fail)
  refine (areIn_one 0 65536 n _ _ (by simp)).mono ?_
  rintro e w4 ⟨rfl, hb4⟩
  have hX4 := Lib.hid ((hb4.block _ (heap_lt hX3.out)).trans hX3.out)
  have hB4 : Hid (Below w.heap.size w w4) := hB3.out.trans (hb4.mono hB3.out.size)
  clear hb4
  rw [H3.out]
  have c40 := cell_of_heap hX4.out 0
  have c41 := cell_of_heap hX4.out 1
  go_wp2_with (fail)
  refine (find_yes aA aP B β S v l r _ (HE.out.below hB4.out) (HS.out.is.below hB4.out) e0 Hg.out).mono ?_
  rintro e w5 ⟨rfl, hb5⟩
  have hB5 : Hid (Below w.heap.size w w5) := hB4.out.trans (hb5.mono hB4.out.size)
  have hblk := (HS.out.is.below hB5.out).at Hg.out
  have c5 := cell_of_heap hblk 4
  have f5 := free_of_heap hblk 4
  have HBlk := Lib.hid hblk
  have w1 : IntKind.i64.wrap (e0.rcv + n) = e0.rcv + n := IntWalk.i64_in _ (by obtain ⟨s1, s2, _, _, _, _⟩ := hsm; omega)
  clear hblk hb5 c40 c41
  go_wp2
  go_ret
  refine ⟨rfl, β, v, HS.out.upd Hg.out _ (fun _ => rfl) ?_ hB5.out ((Keeps.refl _ _).setCell (.inl rfl)) ?_⟩
  · obtain ⟨s1, s2, s3, s4, s5, s6⟩ := hsm
    exact ⟨by show 0 ≤ e0.rcv + n; omega, hsm2, s3, s4, s5, s6⟩
  · exact heap_setCell_at w5 (β (l, r)) _ _ 4 _ HBlk.out
end
end Go.Proofs.YtmdfpknhfkgfoaaDoor
