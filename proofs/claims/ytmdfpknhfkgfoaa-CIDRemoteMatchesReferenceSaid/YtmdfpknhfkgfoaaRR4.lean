/- peregrineref07.Remote.Add. -/
import Derived.Test.YtmdfpknhfkgfoaaRR3
namespace Go.Proofs.Ytmdfpknhfkgfoaa
open Go.RowKit Go.Shelf

/-! ### plain: what the loops compute -/
def knownTo (es : List EE) (seq t : Nat) : Bool := (es.take t).any fun e => e.seq == seq
theorem knownTo_step {es : List EE} {seq t : Nat} {e : EE} (h : es[t]? = some e) : knownTo es seq (t + 1) = (knownTo es seq t || e.seq == seq) := by
  unfold knownTo
  rw [List.take_add_one, h, List.any_append]
  simp
theorem knownTo_all (X : RR) (seq : Nat) : knownTo X.es seq X.es.length = X.known seq := by unfold knownTo RR.known; rw [List.take_length]
theorem all_of {p : EE → Bool} {es : List EE} {n : Nat} (hn : es.length = n) (h : ∀ k e', k < n → es[k]? = some e' → p e' = true) : es.all p = true := by
  rw [List.all_eq_true]
  intro x hx
  obtain ⟨i, hi⟩ := List.getElem?_of_mem hx
  have : i < es.length := (List.getElem?_eq_some_iff.1 hi).1
  exact h i x (by omega) hi
theorem all_no {p : EE → Bool} {es : List EE} {t : Nat} {e : EE} (he : es[t]? = some e) (h : p e = false) : es.all p = false := by
  rw [List.all_eq_false]
  exact ⟨e, List.mem_of_getElem? he, by rw [h]; decide⟩
theorem some_step {p : EE → Bool} {es : List EE} {t : Nat} {e : EE} (he : es[t]? = some e) (hp : p e = true) (h : ∀ k e', k < t → es[k]? = some e' → p e' = true) : ∀ k e', k < t + 1 → es[k]? = some e' → p e' = true := by
  intro k e' hk hke
  by_cases hkt : k = t
  · rw [hkt, he] at hke; cases hke; exact hp
  · exact h k e' (by omega) hke

def RR.prTo (Y : RR) (t : Nat) : RR := { Y with es := (Y.es.take t).map (EE.cut Y.bound) ++ Y.es.drop t, left := Y.left ++ ((Y.es.take t).filter (EE.hit Y.bound)).map EE.seq }
def RR.lostTo (Y : RR) (t : Nat) : Bool := (Y.es.take t).any fun e => e.hit Y.bound && e.seq == Y.now
theorem RR.prTo_zero (Y : RR) : Y.prTo 0 = Y := by simp [RR.prTo]
theorem RR.prTo_all (Y : RR) : Y.prTo Y.es.length = Y.prune := by unfold RR.prTo RR.prune; rw [List.take_length, List.drop_length, List.append_nil]
theorem RR.lostTo_all (Y : RR) : Y.lostTo Y.es.length = Y.lost := by unfold RR.lostTo RR.lost; rw [List.take_length]
theorem RR.prTo_len (Y : RR) (t : Nat) : (Y.prTo t).es.length = Y.es.length := by
  show ((Y.es.take t).map (EE.cut Y.bound) ++ Y.es.drop t).length = _
  rw [List.length_append, List.length_map, List.length_take, List.length_drop]; omega
theorem RR.prTo_left (Y : RR) (t : Nat) : (Y.prTo t).left.length ≤ Y.left.length + t := by
  show (Y.left ++ ((Y.es.take t).filter (EE.hit Y.bound)).map EE.seq).length ≤ _
  rw [List.length_append, List.length_map]
  have := List.length_filter_le (EE.hit Y.bound) (Y.es.take t)
  rw [List.length_take] at this
  omega
theorem RR.prTo_get {Y : RR} {t : Nat} {e : EE} (h : Y.es[t]? = some e) : (Y.prTo t).es[t]? = some e := by
  have hl : t < Y.es.length := (List.getElem?_eq_some_iff.1 h).1
  show ((Y.es.take t).map (EE.cut Y.bound) ++ Y.es.drop t)[t]? = _
  rw [List.getElem?_append_right (by rw [List.length_map, List.length_take]; omega), List.length_map, List.length_take, List.getElem?_drop, ← h]
  congr 1
  omega
theorem drop_at {es : List EE} {t : Nat} {e : EE} (h : es[t]? = some e) : es.drop t = e :: es.drop (t + 1) := by
  have hl : t < es.length := (List.getElem?_eq_some_iff.1 h).1
  rw [List.drop_eq_getElem_cons hl]
  congr 1
  exact (List.getElem?_eq_some_iff.1 h).2
theorem RR.prTo_hit {Y : RR} {t : Nat} {e : EE} (h : Y.es[t]? = some e) (hh : e.hit Y.bound = true) : (Y.prTo t).off t e = Y.prTo (t + 1) := by
  have hl : t < Y.es.length := (List.getElem?_eq_some_iff.1 h).1
  have hlen : ((Y.es.take t).map (EE.cut Y.bound)).length = t := by rw [List.length_map, List.length_take]; omega
  have h1 : ((Y.es.take t).map (EE.cut Y.bound) ++ Y.es.drop t).set t { e with gone := true } = (Y.es.take (t + 1)).map (EE.cut Y.bound) ++ Y.es.drop (t + 1) := by
    rw [drop_at h, List.set_append_right _ _ (by omega), hlen, Nat.sub_self, List.take_add_one, h, List.map_append]
    have hc : EE.cut Y.bound e = { e with gone := true } := by unfold EE.cut; rw [if_pos hh]
    simp [hc]
  have h2 : (Y.left ++ ((Y.es.take t).filter (EE.hit Y.bound)).map EE.seq) ++ [e.seq] = Y.left ++ ((Y.es.take (t + 1)).filter (EE.hit Y.bound)).map EE.seq := by
    rw [List.take_add_one, h, List.filter_append]
    simp [hh]
  unfold RR.off RR.prTo
  rw [h1, h2]
theorem RR.prTo_no {Y : RR} {t : Nat} {e : EE} (h : Y.es[t]? = some e) (hh : e.hit Y.bound = false) : Y.prTo (t + 1) = Y.prTo t := by
  have h1 : (Y.es.take (t + 1)).map (EE.cut Y.bound) ++ Y.es.drop (t + 1) = (Y.es.take t).map (EE.cut Y.bound) ++ Y.es.drop t := by
    rw [drop_at h, List.take_add_one, h, List.map_append]
    have hc : EE.cut Y.bound e = e := by unfold EE.cut; rw [if_neg (by rw [hh]; decide)]
    simp [hc]
  have h2 : (Y.es.take (t + 1)).filter (EE.hit Y.bound) = (Y.es.take t).filter (EE.hit Y.bound) := by
    rw [List.take_add_one, h, List.filter_append]
    simp [hh]
  unfold RR.prTo
  rw [h1, h2]
theorem RR.lostTo_step {Y : RR} {t : Nat} {e : EE} (h : Y.es[t]? = some e) : Y.lostTo (t + 1) = (Y.lostTo t || (e.hit Y.bound && e.seq == Y.now)) := by
  unfold RR.lostTo
  rw [List.take_add_one, h, List.any_append]
  simp

/-! ### the frame's form -/
set_option maxRecDepth 100000 in
set_option maxHeartbeats 1600000 in
theorem radd_arg (B : Nat) (w : World) (ty : Int) (v1 v2 v3 v4 v5 v6 v7 v8 v9 : Value) (seq ret : Int) (c : ByteArray) (hb : badFrame ty seq ret c) :
    Calls Try.prog 30 #[.pointer (some ⟨B, 0, none⟩), frameA ty v1 v2 v3 v4 v5 v6 v7 v8 v9 seq ret c] w (SamePost 2 w) := by
  have Hb := Lib.hid hb; clear hb
  go_enter Try.func30, Try.ntmps30
  by_cases h1 : ty = 24
  · subst h1
    by_cases h2 : c.size = 8
    · have h2' : ((c.size : Int) != 8) = false := by rw [h2]; rfl
      by_cases h3 : ret < 0
      · clear h2
        go_wp2
        go_ret
        exact ⟨rfl, (Below.refl _ w).alloc (Nat.le_refl _) _⟩
      · have h4 : seq < ret := by rcases Hb.out with h | h | h | h; exact absurd rfl h; exact absurd h2 h; exact absurd h h3; exact h
        clear h2
        go_wp2
        go_ret
        exact ⟨rfl, (Below.refl _ w).alloc (Nat.le_refl _) _⟩
    · have h2' : ((c.size : Int) != 8) = true := by rw [bne_iff_ne]; omega
      clear h2
      go_wp2
      go_ret
      exact ⟨rfl, (Below.refl _ w).alloc (Nat.le_refl _) _⟩
  · have h1' : (ty != 24) = true := by rw [bne_iff_ne]; exact h1
    go_wp2
    go_ret
    exact ⟨rfl, (Below.refl _ w).alloc (Nat.le_refl _) _⟩

set_option maxRecDepth 100000 in
set_option maxHeartbeats 1600000 in
theorem radd_limit (B : Nat) (w : World) (v1 v2 v3 v4 v5 v6 v7 v8 v9 : Value) (seq ret : Int) (c : ByteArray) (h2 : c.size = 8) (h3 : 0 ≤ ret) (h4 : ret ≤ seq) (h5 : 32 ≤ seq) :
    Calls Try.prog 30 #[.pointer (some ⟨B, 0, none⟩), frameA 24 v1 v2 v3 v4 v5 v6 v7 v8 v9 seq ret c] w (SamePost 71 w) := by
  have h2' : ((c.size : Int) != 8) = false := by rw [h2]; rfl
  have h3' : ¬ (ret < 0) := by omega
  have h4' : ¬ (seq < ret) := by omega
  clear h2
  go_enter Try.func30, Try.ntmps30
  go_wp2
  go_ret
  exact ⟨rfl, (Below.refl _ w).alloc (Nat.le_refl _) _⟩

end Go.Proofs.Ytmdfpknhfkgfoaa
