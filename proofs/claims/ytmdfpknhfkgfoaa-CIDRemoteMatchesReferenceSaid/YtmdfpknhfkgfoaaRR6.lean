/- peregrineref07.Remote.Rotate; law07's ints. -/
import Derived.Test.YtmdfpknhfkgfoaaRR5
namespace Go.Proofs.Ytmdfpknhfkgfoaa
open Go.RowKit Go.Shelf

def RRotPost (B : Nat) (X' : RR) (v vl : Value) (w : World) (e : Ending) (w' : World) : Prop := e = .returned (.int .i64 0) ∧ ChgRR B X' v vl w w'

set_option maxRecDepth 100000 in
set_option maxHeartbeats 1600000 in
theorem rrotate_yes (B : Nat) (X : RR) (v vl : Value) (i : Nat) (e0 : EE) (w : World) (hX : IsRR B X v vl w) (he : X.es[i]? = some e0) (hs : e0.seq = X.now) (hno : ∀ k e', k < i → X.es[k]? = some e' → e'.seq ≠ X.now) (hl : X.es.length ≤ 64) (hll : X.left.length + 1 ≤ 1000000) (hu : X.live ≠ 1) :
    Calls Try.prog 24 #[.pointer (some ⟨B, 0, none⟩)] w (RRotPost B (X.turn i e0) v vl w) := by
  have hil : i < X.es.length := (List.getElem?_eq_some_iff.1 he).1
  have h0 : (((X.live : Int) - 1) == 0) = false := by rw [beq_eq_false_iff_ne]; omega
  obtain ⟨g, cap, rfl⟩ := slice_at hX.own (by omega)
  have HX := Lib.hid hX; clear hX hu
  have He := Lib.hid he; clear he
  have Hs := Lib.hid hs; clear hs
  have Hno := Lib.hid hno; clear hno
  obtain ⟨n, Hn⟩ : ∃ n, Hid (X.es.length = n) := ⟨_, rfl⟩
  rw [Hn.out] at hil hl
  have Ht := Lib.hid (X.turn_off i e0)
  go_enter Try.func24, Try.ntmps24
  go_wp2_with (fail)
  refine (runused_any B X _ vl w HX.out (by rw [Hn.out]; exact hl)).mono ?_
  rintro e w' ⟨rfl, rfl⟩
  go_wp2_with (fail)
  go_loopg [3] (n + 1) (fun g0 j wx => ∃ t : Nat, g0 + t = n + 1 ∧ t ≤ i ∧ j = .int .i64 t ∧ Hid (IsRR B X (.slice (some ⟨g, 0, none⟩) X.es.length cap) vl wx) ∧ Hid (Below w.heap.size w wx))
  case atStart => exact ⟨0, rfl, Nat.zero_le _, rfl, HX, Below.refl _ _⟩
  case round =>
    clear HX
    obtain ⟨t, hg, hti, rfl, HX, HB⟩ := hrel
    have c0 := cell_of_heap HX.out.blk 0
    have k1 := cell_of_heap HX.out.blk 1
    simp at c0 k1
    rw [Hn.out] at c0
    have htn : t < n := by omega
    obtain ⟨e, he⟩ : ∃ e, X.es[t]? = some e := ⟨_, List.getElem?_eq_getElem (by rw [Hn.out]; exact htn)⟩
    obtain ⟨c1, c2, c3⟩ := HX.out.ent rfl he
    have Het := Lib.hid he; clear he
    obtain ⟨s, id, gn⟩ := e
    simp only [Nat.add_zero] at c1 c2 c3
    clear c2 c3
    obtain ⟨m, Hm⟩ : ∃ m, Hid (X.now = m) := ⟨_, rfl⟩
    rw [Hm.out] at k1
    by_cases h : t = i
    · subst h
      have hE : e0 = ⟨s, id, gn⟩ := by have := Het.out; rw [He.out] at this; injection this
      have hsm : s = m := by have := Hs.out; rw [hE, Hm.out] at this; exact this
      have hs1 : ((s : Int) == (m : Int)) = true := by rw [hsm]; simp
      clear hsm hE Het
      go_wp2
      go_quiet (fail)
      have HX2 := Lib.hid (HX.out.drewN nq)
      have HB2 := Lib.hid (below_drewN HB.out nq)
      clear HX HB c0 k1 c1
      go_wp2_with (fail)
      refine (rretire_one B t _ X _ vl e0 _ rfl HX2.out He.out (by rw [Hn.out]; exact hl) hll).mono ?_
      rintro e w2 ⟨rfl, v2, vl2, hX3, ho1, ho2, hk⟩
      have HX3 := Lib.hid hX3; clear hX3
      have Ho1 := Lib.hid ho1; clear ho1
      have Ho2 := Lib.hid ho2; clear ho2
      have Hk := Lib.hid hk; clear hk
      go_wp2_with (fail)
      refine (rnext_any B (X.off t e0) v2 vl2 _ HX3.out (by show (X.es.set t _).length ≤ 64; rw [List.length_set, Hn.out]; exact hl)).mono ?_
      rintro e w3 ⟨rfl, hX4, hO4⟩
      have HX4 := Lib.hid hX4; clear hX4
      have HO4 := Lib.hid hO4; clear hO4
      go_wp2
      go_ret
      rw [Ht.out]
      have hsz := HB2.out.size
      refine ⟨rfl, v2, vl2, HX4.out, fun q hq => (Ho1.out q hq).elim .inl (fun h => .inr (by omega)), fun q hq => (Ho2.out q hq).elim .inl (fun h => .inr (by omega)), ?_⟩
      exact ((Keeps.of_below HB2.out).trans Hk.out).trans (HO4.out.keeps.mono (fun _ e => .inl e))
    · have hsm : s ≠ m := by have := Hno.out t _ (by omega) Het.out; rw [Hm.out] at this; exact this
      have hs1 : ((s : Int) == (m : Int)) = false := by rw [beq_eq_false_iff_ne]; omega
      clear hsm Het
      go_wp2
      go_quiet (fail)
      go_wp2
      go_roundg (gk - 1)
      case measure => omega
      case rel => exact ⟨t + 1, by omega, by omega, by go_num, HX.out.drewN _, below_drewN HB.out _⟩

set_option maxRecDepth 100000 in
set_option maxHeartbeats 400000 in
theorem rrotate_no (B : Nat) (X : RR) (v vl : Value) (w : World) (hX : IsRR B X v vl w) (hl : X.es.length ≤ 64) (hu : X.live = 1) :
    Calls Try.prog 24 #[.pointer (some ⟨B, 0, none⟩)] w fun e w' => e = .returned (.int .i64 70) ∧ w = w' := by
  have h0 : (((X.live : Int) - 1) == 0) = true := by rw [hu]; rfl
  have HX := Lib.hid hX; clear hX hu
  go_enter Try.func24, Try.ntmps24
  go_wp2_with (fail)
  refine (runused_any B X _ vl w HX.out hl).mono ?_
  rintro e w' ⟨rfl, rfl⟩
  go_wp2
  go_ret
  exact ⟨rfl, rfl⟩

/-- Two lists of the same numbers. -/
theorem ints_same (b1 b2 : Nat) (l : List Nat) (v1 v2 : Value) (w : World) (hl : l.length < 1000000) (h1 : w.ownsRow b1 3 1 v1 l.length (natVals l)) (h2 : w.ownsRow b2 3 1 v2 l.length (natVals l)) :
    Calls Try.prog 25 #[v1, v2] w fun e w' => e = .returned (.bool true) ∧ Below w.heap.size w w' := by
  obtain ⟨a1, c1, rfl, ha1⟩ := slice_any h1
  obtain ⟨a2, c2, rfl, ha2⟩ := slice_any h2
  have H1 := Lib.hid h1; clear h1
  have H2 := Lib.hid h2; clear h2
  go_enter Try.func25, Try.ntmps25
  go_wp2
  go_loopw [5] (fun i wr => ∃ j : Nat, j ≤ l.length ∧ i = .int .i64 j ∧ Below w.heap.size w wr) (fun i _ => l.length - (intOf i).toNat)
  case atStart => exact ⟨0, Nat.zero_le _, rfl, Below.refl _ _⟩
  case round =>
    obtain ⟨j, hj, rfl, hb⟩ := hrel
    by_cases hlt : j < l.length
    · obtain ⟨g1, rfl⟩ := ha1 (by omega)
      obtain ⟨g2, rfl⟩ := ha2 (by omega)
      obtain ⟨x, hx⟩ : ∃ x, l[j]? = some x := ⟨_, List.getElem?_eq_getElem hlt⟩
      have hc1 := own_src (ownsRow_below H1.out hb) j (.int .i64 (x : Int)) (by simp [natVals, hx])
      have hc2 := own_src (ownsRow_below H2.out hb) j (.int .i64 (x : Int)) (by simp [natVals, hx])
      simp only [Addr.add_mid, Nat.zero_add] at hc1 hc2
      clear hx
      go_wp2
      go_region
      go_wp2
      go_roundw
      case rel => exact ⟨j + 1, by omega, by go_num, hb.drew⟩
      case measure => simp [intOf]; omega
    · go_wp2
      go_ret
      exact ⟨rfl, hb⟩

end Go.Proofs.Ytmdfpknhfkgfoaa
