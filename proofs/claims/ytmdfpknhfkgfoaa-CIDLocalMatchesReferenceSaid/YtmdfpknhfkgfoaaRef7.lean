/- Contracts of peregrineref01.Uint and peregrineref07.ID. -/
import Derived.Test.YtmdfpknhfkgfoaaRef2b
import Derived.Test.YtmdfpknhfkgfoaaDis
namespace Go.Proofs.Ytmdfpknhfkgfoaa
open Go.RowKit Go.Shelf

/-- The value that is left after t bytes. -/
def sh8 (x t : Nat) : Nat := x / 256 ^ t
theorem sh8_zero (x : Nat) : sh8 x 0 = x := by simp [sh8]
theorem sh8_succ (x t : Nat) : sh8 x (t + 1) = sh8 x t / 256 := by unfold sh8; rw [Nat.pow_succ, Nat.div_div_eq_div_mul]
theorem sh8_le (x t : Nat) : sh8 x t ≤ x := Nat.div_le_self _ _
theorem ube8_get (x k : Nat) (h : k < 8) : (ube 8 x)[k]? = some (UInt8.ofNat (sh8 x (7 - k))) := by
  unfold ube beUpto sh8
  rw [List.getElem?_map, List.getElem?_range h]
  rfl

theorem and255 (a : Nat) (h : a < 4611686018427387904) : bits .and .i64 (a : Int) 255 = ((a % 256 : Nat) : Int) := by
  have := i64_and_nat a 255 h (by decide)
  rw [show ((255 : Nat) : Int) = 255 from rfl] at this
  rw [this]
  congr 1
  exact Nat.and_two_pow_sub_one_eq_mod a 8

theorem ube_step (x p : Nat) (l : List UInt8) (b : UInt8) (hl : l.length = 8) (hp : p < 8) (hb : b = UInt8.ofNat (sh8 x (7 - p))) (h : ∀ k : Nat, k < 8 → (p : Int) < (k : Int) → l[k]? = (ube 8 x)[k]?) : ∀ k : Nat, k < 8 → (p : Int) - 1 < (k : Int) → (l.set p b)[k]? = (ube 8 x)[k]? := by
  intro k hk hk2
  by_cases e : k = p
  · subst e
    rw [List.getElem?_set_self (by omega), ube8_get x k hk, hb]
  · rw [List.getElem?_set_ne (fun h => e h.symm)]; exact h k hk (by omega)

theorem ube_all (x : Nat) (l : List UInt8) (hl : l.length = 8) (h : ∀ k : Nat, k < 8 → (-1 : Int) < (k : Int) → l[k]? = (ube 8 x)[k]?) : l = ube 8 x := by
  apply List.ext_getElem?
  intro k
  by_cases hk : k < 8
  · exact h k hk (by omega)
  · rw [List.getElem?_eq_none (by omega), List.getElem?_eq_none (by rw [ube_length]; omega)]

set_option maxRecDepth 100000 in
set_option maxHeartbeats 800000 in
theorem rbytes_any (x : Nat) (w : World) (hx : x < 1000000) :
    Calls Try.prog 79 #[.int .i64 x, .int .i64 8] w fun e w' => e = .returned (.string ⟨(ube 8 x).toArray⟩) ∧ Below w.heap.size w w' := by
  obtain ⟨i0, hi, hz0, hz1, hz2⟩ := info_parts info_u8
  have b2 : i0.bytes * 8 ≤ 281474976710656 := by rw [hz2]; omega
  have b3 : 8 ≤ maxLen := by unfold maxLen; omega
  go_enter Try.func79, Try.ntmps79
  go_wp2_with (at_make; refine wpList_make_full _ rfl _ _ 30 rfl w.heap.size 5 i0 (.int .u8 0) 1 Try.underlying30 hi hz0 hz1 .i64 .i64 8 8 8 rfl rfl rfl rfl b2 b3 (Nat.le_refl _) ?_; intro w1 hown hgrow)
  rw [made_bytes] at hown
  have H0 : Hid (RowInv 8 w.heap.size (List.replicate 8 0) w w1) := ⟨by simp, hown, (Below.refl _ _).grown hgrow (Nat.le_refl _) (by simp)⟩
  clear hown hgrow b2 b3 hi hz0 hz1 hz2
  go_loopg [0, 6] 9 (fun g n i wr => ∃ (z : Int) (l : List UInt8), -1 ≤ z ∧ z ≤ 7 ∧ (g : Int) = z + 2 ∧ n = .int .i64 (sh8 x (7 - z).toNat : Nat) ∧ i = .int .i64 z ∧ Hid (RowInv 8 w.heap.size l w wr) ∧ Hid (∀ k : Nat, k < 8 → z < (k : Int) → l[k]? = (ube 8 x)[k]?))
  case atStart => exact ⟨7, _, by decide, by decide, rfl, by rw [show ((7 : Int) - 7).toNat = 0 from rfl, sh8_zero], rfl, H0, fun k hk h => by omega⟩
  case round =>
    clear H0
    obtain ⟨z, l, hz1, hz7, hg, rfl, rfl, HI, HA⟩ := hrel
    by_cases hlt : 0 ≤ z
    · obtain ⟨p, rfl⟩ : ∃ p : Nat, z = p := ⟨z.toNat, by omega⟩
      have hle := sh8_le x (7 - (p : Int)).toNat
      have hc := HI.out.cell p (by omega)
      have hf := HI.out.free p
      have hand := and255 (sh8 x (7 - (p : Int)).toNat) (by omega)
      obtain ⟨b, hb⟩ := u8_is ((sh8 x (7 - (p : Int)).toNat % 256 : Nat) : Int) (by omega) (by omega)
      rw [hb] at hand
      have Hb := Lib.hid (show b = UInt8.ofNat (sh8 x (7 - p)) by
        apply UInt8.toNat_inj.1
        have : (UInt8.ofNat (sh8 x (7 - p))).toNat = sh8 x (7 - p) % 256 := rfl
        rw [show (7 - (p : Int)).toNat = 7 - p by omega] at hb
        omega)
      have HI2 := Lib.hid (HI.out.set p b)
      have HA2 := Lib.hid (ube_step x p l b HI.out.len (by omega) Hb.out HA.out)
      have Hs := Lib.hid (show sh8 x (7 - ((p : Int) - 1)).toNat = sh8 x (7 - (p : Int)).toNat / 256 by
        rw [show (7 - ((p : Int) - 1)).toNat = (7 - (p : Int)).toNat + 1 by omega, sh8_succ])
      generalize sh8 x (7 - (p : Int)).toNat = m at *
      have hp8 : p < 8 := by omega
      clear HA hb Hb
      go_wp2
      go_roundg (gk - 1)
      case measure => omega
      case rel =>
        refine ⟨(p : Int) - 1, _, by omega, by omega, by omega, ?_, by go_num, by rw [show ((b.toNat : Int) % 256) = (b.toNat : Int) by have := b.toNat_lt; omega]; exact HI2, HA2⟩
        rw [Hs.out]
        go_num
    · obtain rfl : z = -1 := by omega
      have hcv := HI.out.conv
      go_wp2
      go_ret
      refine ⟨?_, HI.out.below⟩
      rw [ube_all x l HI.out.len HA.out]
      rfl

set_option maxRecDepth 100000 in
set_option maxHeartbeats 400000 in
theorem ruint_any (x : Nat) (w : World) (hx : x < 1000000) :
    Calls Try.prog 74 #[.int .i64 x, .int .i64 8] w fun e w' => e = .returned (.tuple #[.string ⟨(ube 8 x).toArray⟩, .int .i64 0]) ∧ Below w.heap.size w w' := by
  have h0 : ¬ ((x : Int) < 0) := by omega
  go_enter Try.func74, Try.ntmps74
  go_wp2_with (fail)
  refine (rbytes_any x w hx).mono ?_
  rintro e w1 ⟨rfl, hb⟩
  go_wp2
  go_ret2
  exact ⟨rfl, hb⟩

def IDPost (key : ByteArray) (i : Nat) (w : World) (e : Ending) (w' : World) : Prop := e = .returned (.string (idB key i)) ∧ Below w.heap.size w w'

set_option maxRecDepth 100000 in
set_option maxHeartbeats 400000 in
theorem rID_any (key : ByteArray) (i : Nat) (z : Int) (w : World) (hz : z = (i : Int)) (hk : key.size = 16) (hi : i < 1000000) :
    Calls Try.prog 65 #[.string key, .int .i64 z] w (IDPost key i w) := by
  subst hz
  have Hk := Lib.hid hk; clear hk
  go_enter Try.func65, Try.ntmps65
  go_wp2_with (fail)
  refine (ruint_any i w hi).mono ?_
  rintro e w1 ⟨rfl, hb1⟩
  have HU : Hid ((⟨(ube 8 i).toArray⟩ : ByteArray).data.toList = ube 8 i) := by show _ = _; simp
  generalize (⟨(ube 8 i).toArray⟩ : ByteArray) = u at *
  have h8 : Hid (u.size = 8) := by show _ = _; rw [← len_data, HU.out, ube_length]
  go_wp2_with (fail)
  refine (rE_yes key u w1 Hk.out h8.out).mono ?_
  rintro e w2 ⟨rfl, hb2⟩
  rw [HU.out]
  go_wp2
  go_ret
  exact ⟨rfl, below_then hb1 hb2⟩

/-! ### The reference's Local -/
def actVals (L : Loc) (n : Nat) : List Value := (List.range n).map fun j => .bool (L.act j)
theorem actVals_get (L : Loc) (n j : Nat) (h : j < n) : (actVals L n)[j]? = some (.bool (L.act j)) := by simp [actVals, h]
theorem actVals_len (L : Loc) (n : Nat) : (actVals L n).length = n := by simp [actVals]

structure IsRLoc (B : Nat) (L : Loc) (v : Value) (w : World) : Prop where
  blk : w.heap[B]? = some (.cells #[.string L.key, v] 102 (0, 0))
  own : w.ownsRow 0 4 1 v L.n (actVals L L.n)
  le : L.n ≤ 32
  key : L.key.size = 16

theorem IsRLoc.kept {B : Nat} {L : Loc} {v : Value} {w w' : World} {S : Nat → Prop} (h : IsRLoc B L v w) (hk : Keeps S w w') (hB : ¬ S B) (hv : ∀ k, v.ownBlock = some k → ¬ S k) : IsRLoc B L v w' :=
  ⟨heap_keeps h.blk hk hB, ownsRow_keeps h.own hk hv, h.le, h.key⟩
theorem IsRLoc.below {B : Nat} {L : Loc} {v : Value} {w w' : World} (h : IsRLoc B L v w) (hb : Below w.heap.size w w') : IsRLoc B L v w' :=
  h.kept (S := fun _ => False) (Keeps.of_below hb) (fun h => h) (fun _ _ h => h)
theorem IsRLoc.alloc {B : Nat} {L : Loc} {v : Value} {w : World} (h : IsRLoc B L v w) (o : Obj) : IsRLoc B L v (w.alloc o) := h.below ((Below.refl _ _).alloc (Nat.le_refl _) _)
theorem IsRLoc.ne {B : Nat} {L : Loc} {v : Value} {w : World} (h : IsRLoc B L v w) : ¬ (v.ownBlock = some B) := row_type h.own B _ h.blk (by decide)

def NewRLocPost (key : ByteArray) (w : World) (e : Ending) (w' : World) : Prop :=
  ∃ B v, e = .returned (.tuple #[.pointer (some ⟨B, 0, none⟩), .int .i64 0]) ∧ IsRLoc B (locN key 1) v w' ∧ w.heap.size ≤ B ∧ (∀ k, v.ownBlock = some k → w.heap.size ≤ k) ∧ Below w.heap.size w w'

set_option maxRecDepth 100000 in
set_option maxHeartbeats 400000 in
theorem rnewLocal_yes (key : ByteArray) (w : World) (hk : key.size = 16) :
    Calls Try.prog 36 #[.string key] w (NewRLocPost key w) := by
  have h1 : ((key.size : Int) != 16) = false := by simp; omega
  have Hk := Lib.hid hk; clear hk
  go_enter Try.func36, Try.ntmps36
  go_wp2
  go_ret2
  refine ⟨w.heap.size + 1, .slice (some ⟨w.heap.size, 0, none⟩) 1 1, rfl, ⟨?_, ?_, by rw [locN_n]; decide, Hk.out⟩, by omega, fun k hk => by simp [Value.ownBlock] at hk; omega, ((Below.refl _ w).alloc (Nat.le_refl _) _).alloc (by simp) _⟩
  · have := heap_alloc_new (w.alloc (.cells #[.bool true] 4)) (.cells #[.string key, .slice (some ⟨w.heap.size, 0, none⟩) 1 1] 102)
    rw [World.size_alloc] at this
    exact this
  · refine World.ownsRow.alloc ?_ _
    refine ⟨rfl, .inr ⟨w.heap.size, 1, #[.bool true], rfl, Nat.zero_le _, heap_alloc_new _ _, Nat.le_refl _, by unfold maxLen; decide, rfl, rfl⟩⟩

theorem rnewLocal_no (key : ByteArray) (w : World) (hk : key.size ≠ 16) :
    Calls Try.prog 36 #[.string key] w fun e w' => e = .returned (.tuple #[.pointer none, .int .i64 70]) ∧ w = w' := by
  have h1 : ((key.size : Int) != 16) = true := by rw [bne_iff_ne]; omega
  have Hk := Lib.hid hk; clear hk
  go_enter Try.func36, Try.ntmps36
  go_wp2
  go_ret2
  exact ⟨rfl, rfl⟩

end Go.Proofs.Ytmdfpknhfkgfoaa
