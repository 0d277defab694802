/- path.areIn and what it calls; addresses.isValid. -/
import Derived.Test.YtmdfpknhfkgfoaaDoorPIs
import Derived.Test.YtmdfpknhfkgfoaaDoorApp
namespace Go.Proofs.YtmdfpknhfkgfoaaDoor
open Go.RowKit

/-- Out of low..high? -/
def outOf (low high n : Int) : Bool := decide (n < low) || decide (high < n)

theorem areIn1_any (Bl Bh : Nat) (low high n : Int) (w : World) (hl : w.cell? ⟨Bl, 0, none⟩ = some (.int .i64 low)) (hh : w.cell? ⟨Bh, 0, none⟩ = some (.int .i64 high)) :
    Calls Tryd.prog 68 #[.int .i64 n, .pointer (some ⟨Bl, 0, none⟩), .pointer (some ⟨Bh, 0, none⟩)] w fun e w' => e = .returned (.bool (outOf low high n)) ∧ w = w' := by
  by_cases h1 : n < low
  · have hv : outOf low high n = true := by unfold outOf; rw [decide_eq_true h1]; rfl
    have Hv := Lib.hid hv; clear hv
    go_enter Tryd.func68, Tryd.ntmps68
    go_wp2
    go_ret
    rw [Hv.out]
    exact ⟨rfl, rfl⟩
  · by_cases h2 : high < n
    · have hv : outOf low high n = true := by unfold outOf; rw [decide_eq_true h2]; simp
      have Hv := Lib.hid hv; clear hv
      go_enter Tryd.func68, Tryd.ntmps68
      go_wp2
      go_ret
      rw [Hv.out]
      exact ⟨rfl, rfl⟩
    · have hv : outOf low high n = false := by unfold outOf; rw [decide_eq_false h1, decide_eq_false h2]; rfl
      have Hv := Lib.hid hv; clear hv
      go_enter Tryd.func68, Tryd.ntmps68
      go_wp2
      go_ret
      rw [Hv.out]
      exact ⟨rfl, rfl⟩

def inAll (low high : Int) (l : List Int) : Bool := l.all fun n => !outOf low high n

def AreAt (g : Nat) (l : List Int) (w : World) : Prop := ∀ j x, l[j]? = some x → w.cell? ⟨g, j, none⟩ = some (.int .i64 x)

def IdxPost (low high : Int) (l : List Int) (w : World) (e : Ending) (w' : World) : Prop := (∃ z : Int, e = .returned (.int .i64 z) ∧ (decide (0 ≤ z)) = !inAll low high l) ∧ w = w'

set_option maxRecDepth 100000 in
set_option maxHeartbeats 400000 in
theorem indexInts (g Bl Bh : Nat) (low high : Int) (l : List Int) (w : World) (hl : w.cell? ⟨Bl, 0, none⟩ = some (.int .i64 low)) (hh : w.cell? ⟨Bh, 0, none⟩ = some (.int .i64 high)) (ha : AreAt g l w) (hn : l.length ≤ 100) :
    Calls Tryd.prog 77 #[.slice (some ⟨g, 0, none⟩) l.length l.length, .func (.func 68) #[] #[.pointer (some ⟨Bl, 0, none⟩), .pointer (some ⟨Bh, 0, none⟩)]] w (IdxPost low high l w) := by
  have HA := Lib.hid ha; clear ha
  go_enter Tryd.func77, Tryd.ntmps77
  go_wp2
  go_loop [8] (fun i => ∃ j : Nat, j ≤ l.length ∧ i = .int .i64 j ∧ Hid (∀ k x, k < j → l[k]? = some x → outOf low high x = false)) (fun i => l.length - (intOf i).toNat)
  case atStart => exact ⟨0, Nat.zero_le _, rfl, fun k x hk => absurd hk (Nat.not_lt_zero _)⟩
  case round =>
    obtain ⟨j, hj, rfl, HN⟩ := hrel
    by_cases hlt : j < l.length
    · obtain ⟨x, hx⟩ : ∃ x, l[j]? = some x := ⟨_, List.getElem?_eq_getElem hlt⟩
      have hc := HA.out j x hx
      have Hx := Lib.hid hx; clear hx
      have hlt1 : (j : Int) < (l.length : Int) := by omega
      go_wp2_with (fail)
      refine (areIn1_any Bl Bh low high x _ hl hh).mono ?_
      rintro e w' ⟨rfl, rfl⟩
      cases ho : outOf low high x with
      | true =>
        have Ho := Lib.hid ho; clear ho
        go_wp2
        go_ret
        refine ⟨⟨_, rfl, ?_⟩, rfl⟩
        have h1 : inAll low high l = false := by
          unfold inAll
          rw [List.all_eq_false]
          exact ⟨x, List.mem_of_getElem? Hx.out, by rw [Ho.out]; decide⟩
        rw [h1]
        simp
      | false =>
        have Ho := Lib.hid ho; clear ho
        go_wp2
        go_round
        case rel => exact ⟨j + 1, by omega, by go_num, fun k y hk hy => by
          by_cases e : k = j
          · subst e; rw [Hx.out] at hy; injection hy with hy; rw [← hy]; exact Ho.out
          · exact HN.out k y (by omega) hy⟩
        case measure => simp [intOf]; omega
    · obtain rfl : j = l.length := by omega
      go_wp2
      go_ret
      refine ⟨⟨-1, rfl, ?_⟩, rfl⟩
      have h1 : inAll low high l = true := by
        unfold inAll
        rw [List.all_eq_true]
        intro x hx
        obtain ⟨k, hk, rfl⟩ := List.getElem_of_mem hx
        rw [HN.out k _ hk (List.getElem?_eq_getElem hk)]
        rfl
      rw [h1]
      rfl

set_option maxRecDepth 100000 in
set_option maxHeartbeats 400000 in
theorem containsInts (g Bl Bh : Nat) (low high : Int) (l : List Int) (w : World) (hl : w.cell? ⟨Bl, 0, none⟩ = some (.int .i64 low)) (hh : w.cell? ⟨Bh, 0, none⟩ = some (.int .i64 high)) (ha : AreAt g l w) (hn : l.length ≤ 100) :
    Calls Tryd.prog 67 #[.slice (some ⟨g, 0, none⟩) l.length l.length, .func (.func 68) #[] #[.pointer (some ⟨Bl, 0, none⟩), .pointer (some ⟨Bh, 0, none⟩)]] w fun e w' => e = .returned (.bool (!inAll low high l)) ∧ w = w' := by
  have HA := Lib.hid ha; clear ha
  go_enter Tryd.func67, Tryd.ntmps67
  go_wp2_with (fail)
  refine (indexInts g Bl Bh low high l w hl hh HA.out hn).mono ?_
  rintro e w' ⟨⟨z, rfl, hz⟩, rfl⟩
  have Hz := Lib.hid hz; clear hz
  go_wp2
  go_ret
  rw [← Hz.out]
  exact ⟨rfl, rfl⟩

set_option maxRecDepth 100000 in
set_option maxHeartbeats 400000 in
theorem areIn_any (g : Nat) (low high : Int) (l : List Int) (w : World) (ha : AreAt g l w) (hn : l.length ≤ 100) (hg : g < w.heap.size) :
    Calls Tryd.prog 45 #[.int .i64 low, .int .i64 high, .slice (some ⟨g, 0, none⟩) l.length l.length] w fun e w' => e = .returned (.bool (inAll low high l)) ∧ Below w.heap.size w w' := by
  have hmf : ∀ (fn : Fn) (first cap : Array Value) (w : World), (Instr.makeFunc fn first cap).run Tryd.prog w = .ok (.func fn first cap) w := fun _ _ _ _ => rfl
  have hB : Below w.heap.size w ((w.alloc (.cells #[.int .i64 low] 3)).alloc (.cells #[.int .i64 high] 3)) := ((Below.refl _ w).alloc (Nat.le_refl _) _).alloc (by simp) _
  have HB := Lib.hid hB
  have HA : Hid (AreAt g l ((w.alloc (.cells #[.int .i64 low] 3)).alloc (.cells #[.int .i64 high] 3))) := fun j x hx => (hB.cell (p := ⟨g, j, none⟩) hg).trans (ha j x hx)
  clear hB ha
  go_enter Tryd.func45, Tryd.ntmps45
  go_wp2_with (fail)
  refine (containsInts g w.heap.size (w.heap.size + 1) low high l _ (by simp [go_sem]) (by simp [go_sem]) HA.out hn).mono ?_
  rintro e w' ⟨rfl, rfl⟩
  obtain ⟨bb, Hb⟩ : ∃ bb, Hid (inAll low high l = bb) := ⟨_, rfl⟩
  rw [Hb.out]
  go_wp2
  go_ret
  rw [Hb.out]
  exact ⟨rfl, HB.out⟩

/-- In low..high? -/
def within (low high n : Int) : Bool := decide (low ≤ n) && decide (n ≤ high)
theorem within_yes {low high n : Int} (h1 : low ≤ n) (h2 : n ≤ high) : within low high n = true := by unfold within; rw [decide_eq_true h1, decide_eq_true h2]; rfl
theorem within_no {low high n : Int} (h : n < low ∨ high < n) : within low high n = false := by
  unfold within
  rcases h with h | h
  · rw [decide_eq_false (by omega)]; rfl
  · rw [decide_eq_false (show ¬ (n ≤ high) by omega)]; simp
theorem not_out (low high n : Int) : (!outOf low high n) = within low high n := by
  unfold outOf within
  by_cases h1 : n < low
  · rw [decide_eq_true h1, decide_eq_false (show ¬ (low ≤ n) by omega)]; rfl
  · rw [decide_eq_false h1, decide_eq_true (show low ≤ n by omega)]
    by_cases h2 : high < n
    · rw [decide_eq_true h2, decide_eq_false (show ¬ (n ≤ high) by omega)]; rfl
    · rw [decide_eq_false h2, decide_eq_true (show n ≤ high by omega)]; rfl

theorem inAll_one (low high n : Int) : inAll low high [n] = within low high n := by simp [inAll, not_out]
theorem inAll_two (low high n m : Int) : inAll low high [n, m] = (within low high n && within low high m) := by simp [inAll, not_out]

theorem areIn_one (low high n : Int) (w : World) (b : Nat) (hb : w.heap.size = b) :
    Calls Tryd.prog 45 #[.int .i64 low, .int .i64 high, .slice (some ⟨b, 0, none⟩) 1 1] (w.alloc (.cells #[.int .i64 n] 3)) fun e w' => e = .returned (.bool (within low high n)) ∧ Below w.heap.size w w' := by
  subst hb
  have h := areIn_any w.heap.size low high [n] (w.alloc (.cells #[.int .i64 n] 3)) (fun j x hx => by
    match j, hx with
    | 0, hx => simp at hx; subst hx; simp [go_sem]) (by simp) (by simp)
  refine h.mono fun e w' ⟨he, hb⟩ => ⟨by rw [he, inAll_one], ((Below.refl _ w).alloc (Nat.le_refl _) _).trans (hb.mono (by simp))⟩

theorem areIn_two (low high n m : Int) (w : World) (b : Nat) (hb : w.heap.size = b) :
    Calls Tryd.prog 45 #[.int .i64 low, .int .i64 high, .slice (some ⟨b, 0, none⟩) 2 2] (w.alloc (.cells #[.int .i64 n, .int .i64 m] 3)) fun e w' => e = .returned (.bool (within low high n && within low high m)) ∧ Below w.heap.size w w' := by
  subst hb
  have h := areIn_any w.heap.size low high [n, m] (w.alloc (.cells #[.int .i64 n, .int .i64 m] 3)) (fun j x hx => by
    match j, hx with
    | 0, hx => simp at hx; subst hx; simp [go_sem]
    | 1, hx => simp at hx; subst hx; simp [go_sem]) (by simp) (by simp)
  refine h.mono fun e w' ⟨he, hb⟩ => ⟨by rw [he, inAll_two], ((Below.refl _ w).alloc (Nat.le_refl _) _).trans (hb.mono (by simp))⟩

/-- Are both addresses valid? -/
def addrsOk (l r : Int) : Bool := within 1 65535 l && within 1 65535 r

set_option maxRecDepth 100000 in
set_option maxHeartbeats 400000 in
theorem isValid_any (l r : Int) (w : World) :
    Calls Tryd.prog 44 #[.agg #[.int .i64 l, .int .i64 r]] w fun e w' => e = .returned (.bool (addrsOk l r)) ∧ Below w.heap.size w w' := by
  go_enter Tryd.func44, Tryd.ntmps44
  go_wp2_with (fail)
  refine (areIn_two 1 65535 l r (w.alloc (.cells #[.int .i64 l, .int .i64 r] 92)) (w.heap.size + 1) (by simp)).mono ?_
  rintro e w' ⟨rfl, hb⟩
  obtain ⟨bb, Hb⟩ : ∃ bb, Hid ((within 1 65535 l && within 1 65535 r) = bb) := ⟨_, rfl⟩
  rw [Hb.out]
  go_wp2
  go_ret
  unfold addrsOk
  rw [Hb.out]
  exact ⟨rfl, ((Below.refl _ w).alloc (Nat.le_refl _) _).trans (hb.mono (by simp))⟩

end Go.Proofs.YtmdfpknhfkgfoaaDoor
