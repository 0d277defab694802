/- Contracts of the reference cipher (peregrineref02). -/
import Derived.Test.YtmdfpknhfkgfoaaCip
namespace Go.Proofs.Ytmdfpknhfkgfoaa
open Go.RowKit

def IntBelow (z : Int) (w : World) (e : Ending) (w' : World) : Prop := e = .returned (.int .i64 z) ∧ Below w.heap.size w w'

theorem word_val (a b c d : UInt8) : wrap64 (wrap64 (wrap64 (wrap64 (wrap64 (a.toNat : Int) * 16777216) + wrap64 (wrap64 (b.toNat : Int) * 65536)) + wrap64 (wrap64 (c.toNat : Int) * 256)) + wrap64 (d.toNat : Int)) = ((be [a, b, c, d] : Nat) : Int) := by
  have ha := a.toNat_lt
  have hb := b.toNat_lt
  have hc := c.toNat_lt
  have hd := d.toNat_lt
  rw [be4]
  generalize a.toNat = a at *
  generalize b.toNat = b at *
  generalize c.toNat = c at *
  generalize d.toNat = d at *
  rw [IntWalk.wrap64_in (a : Int) (by omega), IntWalk.wrap64_in (b : Int) (by omega), IntWalk.wrap64_in (c : Int) (by omega), IntWalk.wrap64_in (d : Int) (by omega),
    IntWalk.wrap64_in ((a : Int) * 16777216) (by omega), IntWalk.wrap64_in ((b : Int) * 65536) (by omega), IntWalk.wrap64_in ((c : Int) * 256) (by omega),
    IntWalk.wrap64_in ((a : Int) * 16777216 + (b : Int) * 65536) (by omega), IntWalk.wrap64_in ((a : Int) * 16777216 + (b : Int) * 65536 + (c : Int) * 256) (by omega), IntWalk.wrap64_in _ (by omega)]
  omega

theorem word_bytes (s : ByteArray) (i : Nat) (h : 4 * i + 3 < s.size) : word s.data.toList i = be [s[4 * i], s[4 * i + 1], s[4 * i + 2], s[4 * i + 3]] := by
  have hl : s.data.toList.length = s.size := len_data s
  unfold word
  congr 1
  apply List.ext_getElem
  · simp; omega
  · intro n h1 h2
    simp at h2
    match n, h2 with
    | 0, _ => simp; rfl
    | 1, _ => simp; rfl
    | 2, _ => simp; rfl
    | 3, _ => simp; rfl

set_option maxRecDepth 100000 in
set_option maxHeartbeats 400000 in
theorem rword_0 (s : ByteArray) (w : World) (h : 4 ≤ s.size) :
    Calls Try.prog 51 #[.string s, .int .i64 0] w (IntBelow (word s.data.toList 0 : Nat) w) := by
  have i0 : 0 < s.size := by omega
  have j0 : (0 : Int) < (s.size : Int) := by omega
  have i1 : 1 < s.size := by omega
  have j1 : (1 : Int) < (s.size : Int) := by omega
  have i2 : 2 < s.size := by omega
  have j2 : (2 : Int) < (s.size : Int) := by omega
  have i3 : 3 < s.size := by omega
  have j3 : (3 : Int) < (s.size : Int) := by omega
  have hv := word_bytes s 0 (by omega)
  have Hv := Lib.hid hv; clear hv
  go_enter Try.func51, Try.ntmps51
  go_wp2
  go_quiet (fail)
  go_wp2
  go_ret
  refine ⟨congrArg (fun z : Int => Ending.returned (.int .i64 z)) ?_, below_drewN (Below.refl _ _) _⟩
  rw [Hv.out]
  exact word_val _ _ _ _

set_option maxRecDepth 100000 in
set_option maxHeartbeats 400000 in
theorem rword_1 (s : ByteArray) (w : World) (h : 8 ≤ s.size) :
    Calls Try.prog 51 #[.string s, .int .i64 1] w (IntBelow (word s.data.toList 1 : Nat) w) := by
  have i0 : 4 < s.size := by omega
  have j0 : (4 : Int) < (s.size : Int) := by omega
  have i1 : 5 < s.size := by omega
  have j1 : (5 : Int) < (s.size : Int) := by omega
  have i2 : 6 < s.size := by omega
  have j2 : (6 : Int) < (s.size : Int) := by omega
  have i3 : 7 < s.size := by omega
  have j3 : (7 : Int) < (s.size : Int) := by omega
  have hv := word_bytes s 1 (by omega)
  have Hv := Lib.hid hv; clear hv
  go_enter Try.func51, Try.ntmps51
  go_wp2
  go_quiet (fail)
  go_wp2
  go_ret
  refine ⟨congrArg (fun z : Int => Ending.returned (.int .i64 z)) ?_, below_drewN (Below.refl _ _) _⟩
  rw [Hv.out]
  exact word_val _ _ _ _

set_option maxRecDepth 100000 in
set_option maxHeartbeats 400000 in
theorem rword_2 (s : ByteArray) (w : World) (h : 12 ≤ s.size) :
    Calls Try.prog 51 #[.string s, .int .i64 2] w (IntBelow (word s.data.toList 2 : Nat) w) := by
  have i0 : 8 < s.size := by omega
  have j0 : (8 : Int) < (s.size : Int) := by omega
  have i1 : 9 < s.size := by omega
  have j1 : (9 : Int) < (s.size : Int) := by omega
  have i2 : 10 < s.size := by omega
  have j2 : (10 : Int) < (s.size : Int) := by omega
  have i3 : 11 < s.size := by omega
  have j3 : (11 : Int) < (s.size : Int) := by omega
  have hv := word_bytes s 2 (by omega)
  have Hv := Lib.hid hv; clear hv
  go_enter Try.func51, Try.ntmps51
  go_wp2
  go_quiet (fail)
  go_wp2
  go_ret
  refine ⟨congrArg (fun z : Int => Ending.returned (.int .i64 z)) ?_, below_drewN (Below.refl _ _) _⟩
  rw [Hv.out]
  exact word_val _ _ _ _

set_option maxRecDepth 100000 in
set_option maxHeartbeats 400000 in
theorem rword_3 (s : ByteArray) (w : World) (h : 16 ≤ s.size) :
    Calls Try.prog 51 #[.string s, .int .i64 3] w (IntBelow (word s.data.toList 3 : Nat) w) := by
  have i0 : 12 < s.size := by omega
  have j0 : (12 : Int) < (s.size : Int) := by omega
  have i1 : 13 < s.size := by omega
  have j1 : (13 : Int) < (s.size : Int) := by omega
  have i2 : 14 < s.size := by omega
  have j2 : (14 : Int) < (s.size : Int) := by omega
  have i3 : 15 < s.size := by omega
  have j3 : (15 : Int) < (s.size : Int) := by omega
  have hv := word_bytes s 3 (by omega)
  have Hv := Lib.hid hv; clear hv
  go_enter Try.func51, Try.ntmps51
  go_wp2
  go_quiet (fail)
  go_wp2
  go_ret
  refine ⟨congrArg (fun z : Int => Ending.returned (.int .i64 z)) ?_, below_drewN (Below.refl _ _) _⟩
  rw [Hv.out]
  exact word_val _ _ _ _

theorem rword_any (s : ByteArray) (i : Nat) (z : Int) (w : World) (hz : z = (i : Int)) (hi : i < 4) (h : 4 * i + 4 ≤ s.size) :
    Calls Try.prog 51 #[.string s, .int .i64 z] w (IntBelow (word s.data.toList i : Nat) w) := by
  subst hz
  match i, hi with
  | 0, _ => exact rword_0 s w h
  | 1, _ => exact rword_1 s w h
  | 2, _ => exact rword_2 s w h
  | 3, _ => exact rword_3 s w h

theorem ofInt_i64 (a : Nat) (ha : a < 18446744073709551616) : (BitVec.ofInt 64 (a : Int)).toNat = a := ofInt_u64 a ha

theorem i64_wrap_small (a : Nat) (ha : a < 9223372036854775808) : IntKind.i64.wrap (a : Int) = (a : Int) := IntWalk.i64_in _ (by omega)

theorem i64_or_nat (a b : Nat) (ha : a < 4611686018427387904) (hb : b < 4611686018427387904) : bits .or .i64 (a : Int) (b : Int) = ((a ||| b : Nat) : Int) := by
  have h : a ||| b < 2 ^ 62 := Nat.or_lt_two_pow ha hb
  show IntKind.i64.wrap ((BitVec.ofInt 64 (a : Int) ||| BitVec.ofInt 64 (b : Int)).toNat : Int) = _
  rw [BitVec.toNat_or, ofInt_i64 a (by omega), ofInt_i64 b (by omega)]
  exact i64_wrap_small _ (by omega)

theorem i64_and_nat (a b : Nat) (ha : a < 4611686018427387904) (hb : b < 4611686018427387904) : bits .and .i64 (a : Int) (b : Int) = ((a &&& b : Nat) : Int) := by
  have h : a &&& b < 2 ^ 62 := Nat.and_lt_two_pow _ hb
  show IntKind.i64.wrap ((BitVec.ofInt 64 (a : Int) &&& BitVec.ofInt 64 (b : Int)).toNat : Int) = _
  rw [BitVec.toNat_and, ofInt_i64 a (by omega), ofInt_i64 b (by omega)]
  exact i64_wrap_small _ (by omega)

theorem i64_xor_nat (a b : Nat) (ha : a < 4611686018427387904) (hb : b < 4611686018427387904) : bits .xor .i64 (a : Int) (b : Int) = ((a ^^^ b : Nat) : Int) := by
  have h : a ^^^ b < 2 ^ 62 := Nat.xor_lt_two_pow ha hb
  show IntKind.i64.wrap ((BitVec.ofInt 64 (a : Int) ^^^ BitVec.ofInt 64 (b : Int)).toNat : Int) = _
  rw [BitVec.toNat_xor, ofInt_i64 a (by omega), ofInt_i64 b (by omega)]
  exact i64_wrap_small _ (by omega)

theorem rrot_val7 (x : Nat) (hx : x < 4294967296) : bits .and .i64 (bits .or .i64 ((x : Int) * 128) ((x : Int) / 33554432)) 4294967295 = (rotl x 7 : Nat) := by
  have e1 : (x : Int) * 128 = ((x * 2 ^ 7 : Nat) : Int) := by omega
  have e2 : (x : Int) / 33554432 = ((x / 2 ^ (32 - 7) : Nat) : Int) := by omega
  have hd : x / 2 ^ (32 - 7) < 4294967296 := Nat.lt_of_le_of_lt (Nat.div_le_self _ _) hx
  have ho : x * 2 ^ 7 ||| x / 2 ^ (32 - 7) < 2 ^ 62 := Nat.or_lt_two_pow (by omega) (by omega)
  have e3 : (4294967295 : Int) = ((4294967295 : Nat) : Int) := rfl
  rw [e1, e2, i64_or_nat _ _ (by omega) (by omega), e3, i64_and_nat _ _ (by omega) (by decide), nat_mask32]
  unfold rotl
  rw [show (4294967296 : Nat) = 2 ^ 32 from rfl, Nat.or_mod_two_pow, Nat.mod_eq_of_lt (a := x / 2 ^ (32 - 7)) (by omega)]

set_option maxRecDepth 100000 in
set_option maxHeartbeats 400000 in
theorem rrotl_7 (x : Nat) (w : World) (hx : x < 4294967296) :
    Calls Try.prog 71 #[.int .i64 x, .int .i64 7] w (IntBelow (rotl x 7 : Nat) w) := by
  go_enter Try.func71, Try.ntmps71
  go_wp2
  go_quiet (fail)
  go_wp2
  go_ret
  refine ⟨congrArg (fun z : Int => Ending.returned (.int .i64 z)) ?_, below_drewN (Below.refl _ _) _⟩
  exact rrot_val7 x hx

theorem rrot_val18 (x : Nat) (hx : x < 4294967296) : bits .and .i64 (bits .or .i64 ((x : Int) * 262144) ((x : Int) / 16384)) 4294967295 = (rotl x 18 : Nat) := by
  have e1 : (x : Int) * 262144 = ((x * 2 ^ 18 : Nat) : Int) := by omega
  have e2 : (x : Int) / 16384 = ((x / 2 ^ (32 - 18) : Nat) : Int) := by omega
  have hd : x / 2 ^ (32 - 18) < 4294967296 := Nat.lt_of_le_of_lt (Nat.div_le_self _ _) hx
  have ho : x * 2 ^ 18 ||| x / 2 ^ (32 - 18) < 2 ^ 62 := Nat.or_lt_two_pow (by omega) (by omega)
  have e3 : (4294967295 : Int) = ((4294967295 : Nat) : Int) := rfl
  rw [e1, e2, i64_or_nat _ _ (by omega) (by omega), e3, i64_and_nat _ _ (by omega) (by decide), nat_mask32]
  unfold rotl
  rw [show (4294967296 : Nat) = 2 ^ 32 from rfl, Nat.or_mod_two_pow, Nat.mod_eq_of_lt (a := x / 2 ^ (32 - 18)) (by omega)]

set_option maxRecDepth 100000 in
set_option maxHeartbeats 400000 in
theorem rrotl_18 (x : Nat) (w : World) (hx : x < 4294967296) :
    Calls Try.prog 71 #[.int .i64 x, .int .i64 18] w (IntBelow (rotl x 18 : Nat) w) := by
  go_enter Try.func71, Try.ntmps71
  go_wp2
  go_quiet (fail)
  go_wp2
  go_ret
  refine ⟨congrArg (fun z : Int => Ending.returned (.int .i64 z)) ?_, below_drewN (Below.refl _ _) _⟩
  exact rrot_val18 x hx

theorem rrotl_7' (x : Nat) (z : Int) (w : World) (hz : z = (x : Int)) (hx : x < 4294967296) :
    Calls Try.prog 71 #[.int .i64 z, .int .i64 7] w (IntBelow (rotl x 7 : Nat) w) := by
  subst hz; exact rrotl_7 x w hx

set_option maxRecDepth 100000 in
set_option maxHeartbeats 400000 in
theorem rmix_any (key : ByteArray) (r i : Nat) (w : World) (hk : 16 ≤ key.size) (hr : r < 4294967296) (hi : i < 8) :
    Calls Try.prog 52 #[.string key, .int .i64 r, .int .i64 i] w (IntBelow (mix (word key.data.toList) r i : Nat) w) := by
  have hw := word_lt key.data.toList (i % 4)
  have hw2 := word_lt key.data.toList ((i + 1) % 4)
  have hml := mixIn_lt (word key.data.toList) r i
  have hm : mixIn (word key.data.toList) r i = (r + word key.data.toList (i % 4) + 2654435769 * (i + 1)) % 4294967296 := rfl
  have Hx : Hid ((mix (word key.data.toList) r i : Nat) = rotl (mixIn (word key.data.toList) r i) 7 ^^^ rotl r 18 ^^^ word key.data.toList ((i + 1) % 4)) := rfl
  generalize hW : word key.data.toList (i % 4) = W at *
  generalize hV : word key.data.toList ((i + 1) % 4) = V at *
  generalize hM : mixIn (word key.data.toList) r i = M at *
  have HW := Lib.hid hW; clear hW
  have HV := Lib.hid hV; clear hV
  have HM := Lib.hid hM; clear hM
  have Hm := Lib.hid hm; clear hm
  go_enter Try.func52, Try.ntmps52
  go_wp2_with (fail)
  refine (rword_any key (i % 4) _ _ (by omega) (by omega) (by omega)).mono ?_
  rw [HW.out]
  rintro e w1 ⟨rfl, hb1⟩
  go_wp2_with (fail)
  refine (rrotl_7' M _ _ (by have := Hm.out; omega) hml).mono ?_
  rintro e w2 ⟨rfl, hb2⟩
  go_wp2_with (fail)
  refine (rrotl_18 r _ hr).mono ?_
  rintro e w3 ⟨rfl, hb3⟩
  go_wp2_with (fail)
  refine (rword_any key ((i + 1) % 4) _ _ (by omega) (by omega) (by omega)).mono ?_
  rw [HV.out]
  rintro e w4 ⟨rfl, hb4⟩
  go_wp2
  go_ret
  have hA := rotl_lt M 7 hml
  have hB := rotl_lt r 18 hr
  have hAB : rotl M 7 ^^^ rotl r 18 < 2 ^ 32 := Nat.xor_lt_two_pow hA hB
  refine ⟨congrArg (fun z : Int => Ending.returned (.int .i64 z)) ?_, below_then (below_then (below_then hb1 hb2) hb3) hb4⟩
  rw [Hx.out]
  rw [i64_xor_nat _ _ (by omega) (by omega), i64_xor_nat _ _ (by omega) (by omega)]

end Go.Proofs.Ytmdfpknhfkgfoaa
