/- path.Paths.Received. -/
import Derived.Test.YtmdfpknhfkgfoaaDoorPRecv2
namespace Go.Proofs.YtmdfpknhfkgfoaaDoor
open Go.RowKit Go.Shelf

section
variable (aA aP : Addr) (w0 : World) (B : Nat) (β : Int × Int → Nat) (S : PS) (v : Value) (now l r n : Int) (w : World)

theorem within_le {lo hi n : Int} (h : within lo hi n = true) : n ≤ hi := by
  unfold within at h
  rw [Bool.and_eq_true] at h
  exact of_decide_eq_true h.2

theorem receive_any (hE : Errs aA aP w) (hS : PAt w0 B β S v w) (hprev : ∀ k, S.prev = some k → S.valid k = true) (hsm : ∀ e ∈ S.es, n ≤ 65536 → e.rcv + n ≤ 1000000000000) : RecvSays aA aP w0 B β S v now l r n w := by
  cases h1 : within 0 1000000000 now with
  | false => exact recv_bad1 aA aP w0 B β S v now l r n w hE hS h1
  | true =>
    cases h2 : addrsOk l r with
    | false => exact recv_bad2 aA aP w0 B β S v now l r n w hE hS h1 h2
    | true =>
      cases h3 : within 0 65536 n with
      | false => exact recv_bad3 aA aP w0 B β S v now l r n w hE hS h1 h2 h3
      | true =>
        cases hg : S.get (l, r) with
        | some e0 => exact recv_known aA aP w0 B β S v now l r n w hE hS h1 h2 h3 e0 hg (hsm e0 (PS.get_mem hg).1 (within_le h3))
        | none =>
          cases hr : S.room.1 with
          | false => exact recv_full aA aP w0 B β S v now l r n w hE hS hprev h1 h2 h3 hg hr
          | true => exact recv_new aA aP w0 B β S v now l r n w hE hS hprev h1 h2 h3 hg hr

theorem received_code : (S.received now l r n).1 = 0 ∨ (S.received now l r n).1 = 2 ∨ (S.received now l r n).1 = 240 := by
  unfold PS.received
  split
  · split
    · exact .inl rfl
    · split
      · exact .inl rfl
      · exact .inr (.inr rfl)
  · exact .inr (.inl rfl)

theorem Errs.go {aA aP : Addr} {w0 : World} {B : Nat} {β β' : Int × Int → Nat} {S S' : PS} {v v' : Value} {W W' : World} (h : Errs aA aP w0) (hA : PGo w0 B β S v β' S' v' W W') : Errs aA aP W' := h.below hA.now.below
end

set_option maxRecDepth 100000 in
set_option maxHeartbeats 800000 in
theorem received_any (aA aP : Addr) (w0 : World) (B : Nat) (β : Int × Int → Nat) (S : PS) (v : Value) (now l r n : Int) (w : World) (hE : Errs aA aP w0) (hS : PAt w0 B β S v w) (hprev : ∀ k, S.prev = some k → S.valid k = true) (hsm : ∀ e ∈ S.es, n ≤ 65536 → e.rcv + n ≤ 1000000000000) :
    Calls Tryd.prog 17 #[.pointer (some ⟨B, 0, none⟩), .int .i64 now, .int .i64 l, .int .i64 r, .int .i64 n] w (TurnPost w0 B β S v (.int .i64 (S.received now l r n).1) (S.received now l r n).2 w) := by
  have hr := receive_any aA aP w0 B β S v now l r n w (hE.below hS.below) hS hprev hsm
  unfold RecvSays at hr
  have hc := received_code S now l r n
  generalize S.received now l r n = X at hr hc ⊢
  obtain ⟨x, S'⟩ := X
  have HR := Lib.hid hr
  have HE := Lib.hid hE
  clear hr hE hS hprev hsm
  go_enter Tryd.func17, Tryd.ntmps17
  go_wp2_with (fail)
  refine HR.out.mono ?_
  rintro e w2 ⟨rfl, β', v', hG⟩
  have HG := Lib.hid hG
  have hE2 := HE.out.go hG
  have HE2 := Lib.hid hE2
  clear hG hE2
  rcases hc with hx | hx | hx
  · subst hx
    rw [show errV aA aP 0 = .nilIface from rfl]
    go_wp2_with (fail)
    refine (errno_nil _).mono ?_
    rintro e w3 ⟨rfl, rfl⟩
    go_wp2
    go_ret
    exact ⟨rfl, β', v', HG.out⟩
  · subst hx
    rw [show errV aA aP 2 = eVal aA from rfl]
    go_wp2_with (fail)
    refine (errno_arg aA aP _ HE2.out).mono ?_
    rintro e w3 ⟨rfl, rfl⟩
    go_wp2
    go_ret
    exact ⟨rfl, β', v', HG.out⟩
  · subst hx
    rw [show errV aA aP 240 = eVal aP from rfl]
    go_wp2_with (fail)
    refine (errno_pth aA aP _ HE2.out).mono ?_
    rintro e w3 ⟨rfl, rfl⟩
    go_wp2
    go_ret
    exact ⟨rfl, β', v', HG.out⟩

set_option maxRecDepth 100000 in
theorem received_nil (now l r n : Int) (w : World) : Calls Tryd.prog 17 #[.pointer none, .int .i64 now, .int .i64 l, .int .i64 r, .int .i64 n] w (SomeB (.int .i64 1) w) := by
  go_enter Tryd.func17, Tryd.ntmps17
  go_wp2
  go_ret
  exact ⟨rfl, Below.refl _ _⟩

end Go.Proofs.YtmdfpknhfkgfoaaDoor
