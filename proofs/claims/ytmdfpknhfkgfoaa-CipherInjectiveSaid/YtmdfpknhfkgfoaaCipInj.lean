/- The walk of CipherInjective. -/
import Derived.Test.YtmdfpknhfkgfoaaCip
import Derived.Deep.DeepCutAuto
import Derived.Lib.Strings
import Derived.Lib.SmallJoins
import Derived.Lib.RabinKarpLaws
namespace Go.Proofs.Ytmdfpknhfkgfoaa
open Go.RowKit

/-- 'string([]byte{x})'. -/
theorem conv_one (W : World) (x : UInt8) : (convert 30 9 (.slice (some ⟨W.heap.size, 0, none⟩) 1 1)).run Try.prog (W.alloc (.cells #[.int .u8 (x.toNat : Int)] 5)).drew = .ok (.string ⟨#[x]⟩) (W.alloc (.cells #[.int .u8 (x.toNat : Int)] 5)).drew := by
  refine run_convert_bytes_back _ 30 9 5 _ 1 [x] Try.underlying30 Try.underlying5 Try.underlying9 (fun j hj => ?_)
  have : j = 0 := by simpa using hj
  subst this
  exact cell_one_new W (.int .u8 (x.toNat : Int)) 5 0 _ rfl

/-- A bit flipped. -/
theorem flip_val (v : UInt8) (m : Nat) (hm : m < 8) : ∃ x : UInt8, bits .xor .u8 (v.toNat : Int) (2 ^ m % 256) = (x.toNat : Int) ∧ x ≠ v := by
  have hv : v.toNat < 256 := v.toNat_lt
  have hp : 2 ^ m < 256 := Nat.pow_lt_pow_right (a := 2) (by decide) hm
  have hp0 : 0 < 2 ^ m := Nat.pow_pos (by decide)
  have h2 : (2 : Int) ^ m = ((2 ^ m : Nat) : Int) := by simp
  rw [h2]
  generalize 2 ^ m = p at hp hp0
  have e : (p : Int) % 256 = (p : Int) := by omega
  rw [e, u8_xor_nat _ _ hv hp]
  have hlt : v.toNat ^^^ p < 256 := Nat.xor_lt_two_pow (n := 8) hv hp
  have hx : (UInt8.ofNat (v.toNat ^^^ p)).toNat = v.toNat ^^^ p := UInt8.toNat_ofNat_of_lt hlt
  refine ⟨UInt8.ofNat (v.toNat ^^^ p), by rw [hx], fun h => ?_⟩
  rw [h] at hx
  have h3 : v.toNat ^^^ (v.toNat ^^^ p) = 0 := by rw [← hx, Nat.xor_self]
  rw [← Nat.xor_assoc, Nat.xor_self, Nat.zero_xor] at h3
  omega

theorem changed_size (a : ByteArray) (q : Nat) (x : UInt8) (hq : q < a.size) : (a.extract 0 q ++ ⟨#[x]⟩ ++ a.extract (q + 1) a.size).size = a.size := by
  have e1 : (⟨#[x]⟩ : ByteArray).size = 1 := rfl
  rw [ByteArray.size_append, ByteArray.size_append, ByteArray.size_extract, ByteArray.size_extract, e1]
  omega

theorem changed_ne (a : ByteArray) (q : Nat) (x : UInt8) (hq : q < a.size) (hx : x ≠ a[q]) : a.extract 0 q ++ ⟨#[x]⟩ ++ a.extract (q + 1) a.size ≠ a := by
  intro h
  have hl : q < a.data.toList.length := by rw [len_data]; exact hq
  have h1 := congrArg (fun y : ByteArray => y.data.toList[q]?) h
  simp only [Joins.data_append, Lib.extract_data, List.drop_zero] at h1
  rw [List.append_assoc, List.getElem?_append_right (by simp; omega)] at h1
  have hm : q - ((a.data.toList.take (q - 0)).length) = 0 := by simp; omega
  rw [hm, List.getElem?_eq_getElem hl] at h1
  simp at h1
  exact hx h1

theorem eq_false {a b : ByteArray} (h : a ≠ b) : (a.toList == b.toList) = false := by
  rw [ByteArray.toList_eq, ByteArray.toList_eq]
  simp only [beq_eq_false_iff_ne]
  exact fun e => h (bytes_ext e)

set_option maxRecDepth 100000 in
set_option maxHeartbeats 800000 in
theorem cipherInjective_walk (s t u : ByteArray) (z : Int) (hs : s.size ≤ maxLen) (ht : t.size ≤ maxLen) (hu : u.size ≤ maxLen) (hlo : -9223372036854775808 ≤ z) (hhi : z ≤ 9223372036854775807) (w : World) :
    Calls Try.prog 5 #[.string s, .string t, .string u, .int .i64 z] w (TrueBelow w) := by
  have hpl := pickN_lt z 64 (by decide)
  go_enter Try.func5, Try.ntmps5
  go_wp2_with (fail)
  refine (sane2_any _).mono ?_
  rintro e w1 ⟨rfl, hb1⟩
  go_wp2_with (fail)
  refine (bytes_str s 16 _ hs (by decide) (by decide)).mono ?_
  rintro e w2 ⟨k, hk, rfl, hb2⟩
  go_wp2_with (fail)
  refine (bytes_str t 8 _ ht (by decide) (by decide)).mono ?_
  rintro e w3 ⟨a, ha, rfl, hb3⟩
  go_wp2_with (fail)
  refine (bytes_str u 8 _ hu (by decide) (by decide)).mono ?_
  rintro e w4 ⟨b, hb, rfl, hb4⟩
  have B4 := below_then (below_then (below_then hb1 hb2) hb3) hb4
  clear hb1 hb2 hb3 hb4
  go_wp2_with (fail)
  refine (pick2_any z 64 _ (by decide) (by decide) hlo hhi).mono ?_
  rintro e w5 ⟨rfl, rfl⟩
  generalize pickN z 64 = at_ at *
  obtain ⟨q, hq, hq8⟩ : ∃ q : Nat, (at_ : Int).tdiv 8 = (q : Int) ∧ q < 8 := ⟨at_ / 8, by rw [Int.tdiv_eq_ediv_of_nonneg (by omega)]; simp, by omega⟩
  obtain ⟨m, hm, hm8⟩ : ∃ m : Nat, (at_ : Int).tmod 8 = (m : Int) ∧ m < 8 := ⟨at_ % 8, by rw [Int.tmod_eq_emod_of_nonneg (by omega)]; simp, by omega⟩
  have hqa : q < a.size := by rw [ha.out]; exact hq8
  have hqa' : q ≤ a.size := by omega
  have hqa1 : q + 1 ≤ a.size := by omega
  have hw1 : IntKind.i64.wrap (q : Int) = (q : Int) := IntWalk.i64_in _ (by omega)
  have hw2 : IntKind.i64.wrap ((q : Int) + 1) = (q : Int) + 1 := IntWalk.i64_in _ (by omega)
  have hw3 : ((q : Int) + 1).toNat = q + 1 := by omega
  have hw4 : (0 : Int) ≤ (q : Int) + 1 := by omega
  have hw5 : IntKind.i64.wrap (m : Int) = (m : Int) := IntWalk.i64_in _ (by omega)
  obtain ⟨x, hx, hxa⟩ := flip_val a[q] m hm8
  have Hxa := Lib.hid hxa; clear hxa
  have hcv := conv_one w4 x
  have hadd : ∀ W : World, (Op.stringOp .add (a.extract 0 q ++ ⟨#[x]⟩) (a.extract (q + 1) a.size)).run Try.prog W = .ok (.string (a.extract 0 q ++ ⟨#[x]⟩ ++ a.extract (q + 1) a.size)) W := fun W =>
    run_string_add_sum _ _ _ (by have h := ha.out; have e1 : (⟨#[x]⟩ : ByteArray).size = 1 := rfl; rw [ByteArray.size_append, ByteArray.size_extract, ByteArray.size_extract, e1]; omega)
  go_upto_region 6 with (fail)
  go_cut [14] (fun v wx => ∃ c : ByteArray, v = .string c ∧ Hid (c.size = 8) ∧ Hid (c ≠ a) ∧ Below w.heap.size w wx)
  case first =>
    go_region
    go_wp2_with (fail)
    go_meet
    exact ⟨_, rfl, by rw [changed_size a q x hqa]; exact ha, changed_ne a q x hqa Hxa.out, (B4.alloc B4.size _).drew⟩
  case rest =>
    clear Hxa hcv hadd hx hw1 hw2 hw3 hw4 hw5 hqa hqa' hqa1 hq hm
    obtain ⟨c, rfl, hc, hca, B5⟩ := hcut
    go_wp2_with (fail)
    refine (enc_some k a _ hk ha).mono ?_
    rintro e w6 ⟨x1, hx1, ex1, rfl, hb6⟩
    go_wp2_with (fail)
    refine (enc_some k b _ hk hb).mono ?_
    rintro e w7 ⟨y1, hy1, ey1, rfl, hb7⟩
    go_wp2_with (fail)
    refine (enc_some k c _ hk hc).mono ?_
    rintro e w8 ⟨z1, hz1, ez1, rfl, hb8⟩
    have B8 := below_then (below_then (below_then B5 hb6) hb7) hb8
    clear hb6 hb7 hb8
    go_wp2_with (fail)
    refine (dec_some k a _ hk ha).mono ?_
    rintro e w9 ⟨u1, hu1, eu1, rfl, hb9⟩
    go_wp2_with (fail)
    refine (dec_some k b _ hk hb).mono ?_
    rintro e w10 ⟨v1, hv1, ev1, rfl, hb10⟩
    have B10 := below_then (below_then B8 hb9) hb10
    clear hb9 hb10 B8 B5 B4
    have hxz : (x1.toList == z1.toList) = false := eq_false (fun h => hca.out (bytes_ext ((enc_inj k.data.toList _ _ ((len_data c).trans hc.out) ((len_data a).trans ha.out)).1 (by rw [← ex1.out, ← ez1.out, h]))))
    by_cases hab : a = b
    · obtain rfl := hab
      obtain rfl : y1 = x1 := bytes_ext (by rw [ex1.out, ey1.out])
      obtain rfl : v1 = u1 := bytes_ext (by rw [eu1.out, ev1.out])
      go_wp2
      go_ret
      exact ⟨rfl, B10⟩
    · have h1 : (a.toList == b.toList) = false := eq_false hab
      have h2 : (x1.toList == y1.toList) = false := eq_false (fun h => hab (bytes_ext ((enc_inj k.data.toList _ _ ((len_data a).trans ha.out) ((len_data b).trans hb.out)).1 (by rw [← ex1.out, ← ey1.out, h]))))
      have h3 : (u1.toList == v1.toList) = false := eq_false (fun h => hab (bytes_ext ((dec_inj k.data.toList _ _ ((len_data a).trans ha.out) ((len_data b).trans hb.out)).1 (by rw [← eu1.out, ← ev1.out, h]))))
      clear hab
      go_wp2
      go_ret
      exact ⟨rfl, B10⟩

end Go.Proofs.Ytmdfpknhfkgfoaa
