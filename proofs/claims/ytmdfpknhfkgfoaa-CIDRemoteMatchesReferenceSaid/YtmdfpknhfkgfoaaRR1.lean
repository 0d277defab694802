/- peregrineref07.Remote: the model (a list), its memory; NewRemote, live, Unused, Retired, Current, next. -/
import Derived.Test.YtmdfpknhfkgfoaaRMod
import Derived.Test.YtmdfpknhfkgfoaaPairW
import Derived.Deep.DeepCutAuto
import Derived.Deep.LoopGhost
namespace Go.Proofs.Ytmdfpknhfkgfoaa
open Go.RowKit Go.Shelf

theorem heap_lt {w : World} {b : Nat} {o : Obj} (h : w.heap[b]? = some o) : b < w.heap.size := (Array.getElem?_eq_some_iff.1 h).1
theorem Only.drewN {B : Nat} {a b : World} (h : Only B a b) (n : Nat) : Only B a (b.drewN n) := ⟨h.os, h.tape, h.output, h.size, h.block⟩

theorem slice_anyR {w : World} {base size : Nat} {e : TypeId} {v : Value} {n : Nat} {xs : List Value} (h : w.ownsRow base e size v n xs) : ∃ (a : Option Addr) (cap : Nat), v = .slice a n cap ∧ (1 ≤ n → ∃ g, a = some ⟨g, 0, none⟩) := by
  rcases h.2 with ⟨h1, h2⟩ | ⟨g, cap, cur, hv, _⟩
  · subst h2; exact ⟨none, 0, h1, fun h => by omega⟩
  · exact ⟨_, cap, hv, fun _ => ⟨g, rfl⟩⟩

abbrev EE.cells (e : EE) : List Value := [.int .i64 (e.seq : Int), .string e.id, .bool e.gone]
def eVals (es : List EE) : List Value := es.flatMap EE.cells
theorem eVals_nil : eVals [] = [] := rfl
theorem eVals_cons (e : EE) (es : List EE) : eVals (e :: es) = e.cells ++ eVals es := rfl
theorem eVals_append (a b : List EE) : eVals (a ++ b) = eVals a ++ eVals b := by unfold eVals; rw [List.flatMap_append]
theorem eVals_len : ∀ es : List EE, (eVals es).length = es.length * 3
  | [] => rfl
  | e :: es => by rw [eVals_cons, List.length_append, eVals_len es]; simp; omega
theorem eVals_get : ∀ (es : List EE) (t : Nat) (e : EE) (i : Nat), es[t]? = some e → i < 3 → (eVals es)[t * 3 + i]? = e.cells[i]?
  | [], t, e, i, h, _ => by cases h
  | x :: es, 0, e, i, h, hi => by
    obtain rfl : x = e := by simpa using h
    rw [eVals_cons, Nat.zero_mul, Nat.zero_add, List.getElem?_append_left (by simpa using hi)]
  | x :: es, t + 1, e, i, h, hi => by
    rw [eVals_cons, List.getElem?_append_right (by simp; omega)]
    have := eVals_get es t e i (by simpa using h) hi
    rw [← this]
    congr 1
    simp
    omega

structure IsRR (B : Nat) (X : RR) (v vl : Value) (w : World) : Prop where
  blk : w.heap[B]? = some (.cells #[v, .int .i64 (X.now : Int), .int .i64 (X.bound : Int), vl] 89 (0, 0))
  own : w.ownsRow 0 86 3 v X.es.length (eVals X.es)
  lft : w.ownsRow 0 3 1 vl X.left.length (natVals X.left)

section
variable {B : Nat} {X : RR} {v vl : Value} {w w' : World}
theorem IsRR.keeps {S : Nat → Prop} (h : IsRR B X v vl w) (hk : Keeps S w w') (hB : ¬ S B) (hv : ∀ g, v.ownBlock = some g → ¬ S g) (hl : ∀ g, vl.ownBlock = some g → ¬ S g) : IsRR B X v vl w' :=
  ⟨(hk.block _ (heap_lt h.blk) hB).trans h.blk, ownsRow_keeps h.own hk hv, ownsRow_keeps h.lft hk hl⟩
theorem IsRR.below (h : IsRR B X v vl w) (hb : Below w.heap.size w w') : IsRR B X v vl w' := h.keeps (S := fun _ => False) (Keeps.of_below hb) (fun h => h) (fun _ _ h => h) (fun _ _ h => h)
theorem IsRR.alloc (h : IsRR B X v vl w) (o : Obj) : IsRR B X v vl (w.alloc o) := h.below ((Below.refl _ _).alloc (Nat.le_refl _) _)
theorem IsRR.drew (h : IsRR B X v vl w) : IsRR B X v vl w.drew := h.below (Below.refl _ _).drew
theorem IsRR.drewN (h : IsRR B X v vl w) (n : Nat) : IsRR B X v vl (w.drewN n) := h.below (below_drewN (Below.refl _ _) n)
theorem IsRR.ent (h : IsRR B X v vl w) {g t : Nat} (hv : v.ownBlock = some g) {e : EE} (he : X.es[t]? = some e) :
    w.cell? ⟨g, t * 3 + 0, none⟩ = some (.int .i64 (e.seq : Int)) ∧ w.cell? ⟨g, t * 3 + 1, none⟩ = some (.string e.id) ∧ w.cell? ⟨g, t * 3 + 2, none⟩ = some (.bool e.gone) := by
  have hs : ∀ i, i < 3 → ∀ u, e.cells[i]? = some u → w.cell? ⟨g, t * 3 + i, none⟩ = some u := fun i hi u hu => by
    have h1 := h.own.cells (g := g) hv (t * 3 + i) u ((eVals_get X.es t e i he hi).trans hu)
    simpa only [Addr.add_mid, Nat.zero_add] using h1
  exact ⟨hs 0 (by decide) _ rfl, hs 1 (by decide) _ rfl, hs 2 (by decide) _ rfl⟩
end

/-! ### live, Unused -/
def lives (es : List EE) (t : Nat) : Nat := (es.take t).countP fun e => !e.gone
theorem lives_step (es : List EE) (t : Nat) (e : EE) (h : es[t]? = some e) : lives es (t + 1) = lives es t + (if e.gone then 0 else 1) := by
  unfold lives
  rw [List.take_add_one, h]
  cases hg : e.gone <;> simp [List.countP_append, hg]
theorem lives_all (X : RR) : lives X.es X.es.length = X.live := by unfold lives RR.live; rw [List.take_length]
theorem lives_le (es : List EE) (t : Nat) : lives es t ≤ t := by
  unfold lives
  exact Nat.le_trans List.countP_le_length (by rw [List.length_take]; omega)

set_option maxRecDepth 100000 in
set_option maxHeartbeats 800000 in
theorem rlive_any (B : Nat) (X : RR) (v vl : Value) (w : World) (hX : IsRR B X v vl w) (hl : X.es.length ≤ 64) :
    Calls Try.prog 63 #[.pointer (some ⟨B, 0, none⟩)] w fun e w' => e = .returned (.int .i64 (X.live : Int)) ∧ w = w' := by
  have c0 := cell_of_heap hX.blk 0
  simp at c0
  obtain ⟨a, cap, rfl, ha⟩ := slice_anyR hX.own
  have HX := Lib.hid hX; clear hX
  have Hall := Lib.hid (lives_all X)
  obtain ⟨n, Hn⟩ : ∃ n, Hid (X.es.length = n) := ⟨_, rfl⟩
  rw [Hn.out] at c0 hl ha
  go_enter Try.func63, Try.ntmps63
  go_wp2_with (fail)
  go_loopg [3, 4] (n + 1) (fun g c i wx => ∃ t : Nat, g + t = n + 1 ∧ t ≤ n ∧ i = .int .i64 t ∧ c = .int .i64 (lives X.es t : Nat) ∧ w = wx)
  case atStart => exact ⟨0, rfl, Nat.zero_le _, rfl, rfl, rfl⟩
  case round =>
    obtain ⟨t, hg, ht, rfl, rfl, rfl⟩ := hrel
    by_cases htn : t < n
    · obtain ⟨g, rfl⟩ := ha (by omega)
      obtain ⟨e, he⟩ : ∃ e, X.es[t]? = some e := ⟨_, List.getElem?_eq_getElem (by rw [Hn.out]; exact htn)⟩
      obtain ⟨c1, c2, c3⟩ := HX.out.ent rfl he
      have hst := lives_step X.es t e he
      have hle := lives_le X.es t
      cases hgo : e.gone with
      | true =>
        rw [hgo] at c3 hst
        simp only [if_true, Nat.add_zero] at hst
        have Hst := Lib.hid hst
        clear he hst hgo
        go_wp2
        go_roundg (gk - 1)
        case measure => omega
        case rel => exact ⟨t + 1, by omega, by omega, by go_num, by rw [Hst.out], rfl⟩
      | false =>
        rw [hgo] at c3 hst
        simp only [Bool.false_eq_true, if_false] at hst
        have Hst := Lib.hid hst
        clear he hst hgo
        go_wp2
        go_roundg (gk - 1)
        case measure => omega
        case rel => exact ⟨t + 1, by omega, by omega, by go_num, by rw [Hst.out]; go_num, rfl⟩
    · obtain rfl : t = n := by omega
      go_wp2
      go_ret
      have := Hall.out
      rw [Hn.out] at this
      rw [this]
      exact ⟨rfl, rfl⟩

theorem live_le (X : RR) : X.live ≤ X.es.length := List.countP_le_length

set_option maxRecDepth 100000 in
set_option maxHeartbeats 400000 in
theorem runused_any (B : Nat) (X : RR) (v vl : Value) (w : World) (hX : IsRR B X v vl w) (hl : X.es.length ≤ 64) :
    Calls Try.prog 34 #[.pointer (some ⟨B, 0, none⟩)] w fun e w' => e = .returned (.int .i64 ((X.live : Int) - 1)) ∧ w = w' := by
  have h1 := live_le X
  have HX := Lib.hid hX; clear hX
  go_enter Try.func34, Try.ntmps34
  go_wp2_with (fail)
  refine (rlive_any B X v vl w HX.out hl).mono ?_
  rintro e w' ⟨rfl, rfl⟩
  go_wp2
  go_ret
  exact ⟨rfl, rfl⟩

/-! ### Retired -/
theorem IsRR.setBlk {B : Nat} {X X' : RR} {v vl : Value} {w : World} (h : IsRR B X v vl w) {j : Nat} {u : Value} (hb : #[v, .int .i64 (X.now : Int), .int .i64 (X.bound : Int), vl].setIfInBounds j u = #[v, .int .i64 (X'.now : Int), .int .i64 (X'.bound : Int), vl]) (he : X'.es = X.es) (hl : X'.left = X.left) : IsRR B X' v vl (w.setCell ⟨B, j, none⟩ u) := by
  have hk : Keeps (fun k => k = B) w (w.setCell ⟨B, j, none⟩ u) := (Keeps.refl _ w).setCell (.inl rfl)
  refine ⟨?_, ?_, ?_⟩
  · rw [heap_setCell_at _ _ _ _ _ _ h.blk, hb]
  · rw [he]; exact ownsRow_keeps h.own hk (fun g hg e => row_type h.own B _ h.blk (by decide) (by rw [hg, e]))
  · rw [hl]; exact ownsRow_keeps h.lft hk (fun g hg e => row_type h.lft B _ h.blk (by decide) (by rw [hg, e]))

theorem IsRR.setLeft {B : Nat} {X : RR} {v vl vl' : Value} {w : World} (h : IsRR B X v vl w) {l : List Nat} (hl : w.ownsRow 0 3 1 vl' l.length (natVals l)) : IsRR B { X with left := l } v vl' (w.setCell ⟨B, 3, none⟩ vl') := by
  have hk : Keeps (fun k => k = B) w (w.setCell ⟨B, 3, none⟩ vl') := (Keeps.refl _ w).setCell (.inl rfl)
  refine ⟨?_, ?_, ?_⟩
  · rw [heap_setCell_at _ _ _ _ _ _ h.blk]; rfl
  · exact ownsRow_keeps h.own hk (fun g hg e => row_type h.own B _ h.blk (by decide) (by rw [hg, e]))
  · exact ownsRow_keeps hl hk (fun g hg e => row_type hl B _ h.blk (by decide) (by rw [hg, e]))

def RRetiredPost (B : Nat) (X : RR) (v vl : Value) (w : World) (e : Ending) (w' : World) : Prop := e = .returned vl ∧ IsRR B { X with left := [] } v (.slice none 0 0) w' ∧ Only B w w'

set_option maxRecDepth 100000 in
set_option maxHeartbeats 400000 in
theorem rretired_any (B : Nat) (X : RR) (v vl : Value) (w : World) (hX : IsRR B X v vl w) :
    Calls Try.prog 27 #[.pointer (some ⟨B, 0, none⟩)] w (RRetiredPost B X v vl w) := by
  have c3 := cell_of_heap hX.blk 3
  have f3 := free_of_heap hX.blk 3
  simp at c3
  have HX := Lib.hid hX; clear hX
  go_enter Try.func27, Try.ntmps27
  go_wp2
  go_ret
  exact ⟨rfl, HX.out.setLeft (l := []) (World.ownsRow_nil _ _ _ _), (Only.refl _ _).setCell _ _⟩

/-! ### find? -/
theorem find_at (p : EE → Bool) : ∀ (es : List EE) (t : Nat) (e : EE), es[t]? = some e → p e = true → (∀ k e', k < t → es[k]? = some e' → p e' = false) → es.find? p = some e
  | [], t, e, h, _, _ => by cases h
  | x :: es, 0, e, h, hp, _ => by
    obtain rfl : x = e := by simpa using h
    rw [List.find?_cons_of_pos hp]
  | x :: es, t + 1, e, h, hp, hn => by
    rw [List.find?_cons_of_neg (by rw [hn 0 x (Nat.succ_pos _) rfl]; decide)]
    exact find_at p es t e (by simpa using h) hp (fun k e' hk he => hn (k + 1) e' (by omega) (by simpa using he))
theorem find_no (p : EE → Bool) (es : List EE) (n : Nat) (hn : es.length = n) (h : ∀ k e', k < n → es[k]? = some e' → p e' = false) : es.find? p = none := by
  rw [List.find?_eq_none]
  intro x hx
  obtain ⟨i, hi⟩ := List.getElem?_of_mem hx
  have : i < es.length := (List.getElem?_eq_some_iff.1 hi).1
  rw [h i x (by omega) hi]
  decide
/-- One more entry does not pass. -/
theorem none_step {p : EE → Bool} {es : List EE} {t : Nat} {e : EE} (he : es[t]? = some e) (hp : p e = false) (h : ∀ k e', k < t → es[k]? = some e' → p e' = false) : ∀ k e', k < t + 1 → es[k]? = some e' → p e' = false := by
  intro k e' hk hke
  by_cases hkt : k = t
  · rw [hkt, he] at hke; cases hke; exact hp
  · exact h k e' (by omega) hke

theorem RR.cur_some {X : RR} {e : EE} (h : X.es.find? (fun e => e.seq == X.now) = some e) : X.cur = e.id := by unfold RR.cur; rw [h]
theorem RR.cur_none {X : RR} (h : X.es.find? (fun e => e.seq == X.now) = none) : X.cur = ⟨#[]⟩ := by unfold RR.cur; rw [h]

def RCurPost (c : ByteArray) (w : World) (e : Ending) (w' : World) : Prop := e = .returned (.string c) ∧ Below w.heap.size w w'

set_option maxRecDepth 100000 in
set_option maxHeartbeats 800000 in
theorem rcurrent_any (B : Nat) (X : RR) (v vl : Value) (w : World) (hX : IsRR B X v vl w) (hl : X.es.length ≤ 64) :
    Calls Try.prog 32 #[.pointer (some ⟨B, 0, none⟩)] w (RCurPost X.cur w) := by
  obtain ⟨a, cap, rfl, ha⟩ := slice_anyR hX.own
  have HX := Lib.hid hX; clear hX
  obtain ⟨n, Hn⟩ : ∃ n, Hid (X.es.length = n) := ⟨_, rfl⟩
  rw [Hn.out] at hl ha
  go_enter Try.func32, Try.ntmps32
  go_wp2_with (fail)
  go_loopg [3] (n + 1) (fun g i wx => ∃ t : Nat, g + t = n + 1 ∧ t ≤ n ∧ i = .int .i64 t ∧ Hid (IsRR B X (.slice a X.es.length cap) vl wx) ∧ Below w.heap.size w wx ∧ Hid (∀ k e', k < t → X.es[k]? = some e' → (e'.seq == X.now) = false))
  case atStart => exact ⟨0, rfl, Nat.zero_le _, rfl, HX, Below.refl _ _, fun k e' hk => absurd hk (Nat.not_lt_zero _)⟩
  case round =>
    clear HX
    obtain ⟨t, hg, ht, rfl, HX, hb, Hno⟩ := hrel
    have c0 := cell_of_heap HX.out.blk 0
    have k1 := cell_of_heap HX.out.blk 1
    simp at c0 k1
    rw [Hn.out] at c0
    by_cases htn : t < n
    · obtain ⟨g, rfl⟩ := ha (by omega)
      obtain ⟨e, he⟩ : ∃ e, X.es[t]? = some e := ⟨_, List.getElem?_eq_getElem (by rw [Hn.out]; exact htn)⟩
      obtain ⟨c1, c2, c3⟩ := HX.out.ent rfl he
      have He := Lib.hid he; clear he
      obtain ⟨s, id, gn⟩ := e
      simp only [Nat.add_zero] at c1 c2 c3
      obtain ⟨m, Hm⟩ : ∃ m, Hid (X.now = m) := ⟨_, rfl⟩
      rw [Hm.out] at k1
      by_cases hs : s = m
      · have hs1 : ((s : Int) == (m : Int)) = true := by rw [hs]; simp
        have Hc := Lib.hid (RR.cur_some (X := X) (find_at _ _ t _ He.out (by simp only; rw [Hm.out, hs]; simp) Hno.out))
        clear hs
        go_wp2
        go_quiet (fail)
        go_wp2
        go_ret
        rw [Hc.out]
        exact ⟨rfl, below_drewN hb _⟩
      · have hs1 : ((s : Int) == (m : Int)) = false := by rw [beq_eq_false_iff_ne]; omega
        have Hn2 := Lib.hid (none_step He.out (p := fun e => e.seq == X.now) (by simp only; rw [Hm.out, beq_eq_false_iff_ne]; exact hs) Hno.out)
        clear hs
        go_wp2
        go_quiet (fail)
        go_wp2
        go_roundg (gk - 1)
        case measure => omega
        case rel => exact ⟨t + 1, by omega, by omega, by go_num, HX.out.drewN _, below_drewN hb _, Hn2⟩
    · obtain rfl : t = n := by omega
      have Hc := Lib.hid (RR.cur_none (X := X) (find_no _ _ t Hn.out Hno.out))
      go_wp2
      go_ret
      rw [Hc.out]
      exact ⟨rfl, hb⟩

end Go.Proofs.Ytmdfpknhfkgfoaa
