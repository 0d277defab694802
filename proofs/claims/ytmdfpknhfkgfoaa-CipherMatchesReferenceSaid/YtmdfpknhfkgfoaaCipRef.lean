/- The walk of CipherMatchesReference. -/
import Derived.Test.YtmdfpknhfkgfoaaRef2b
import Derived.Deep.DeepCutAuto
import Derived.Deep.RegionWith
import Derived.Deep.RegionHeld3
namespace Go.Proofs.Ytmdfpknhfkgfoaa
open Go.RowKit

/-- What Encrypt or Decrypt gives at strings of whatever sizes. -/
def cryptB (ord : Nat → Nat) (k b : ByteArray) : ByteArray := if k.size = 16 ∧ b.size = 8 then ⟨(crypt ord k.data.toList b.data.toList).toArray⟩ else ⟨#[]⟩
def cryptN (k b : ByteArray) : Int := if k.size = 16 ∧ b.size = 8 then 0 else 20

def AnyPost (ord : Nat → Nat) (k b : ByteArray) (w : World) (e : Ending) (w' : World) : Prop :=
  e = .returned (.tuple #[.string (cryptB ord k b), .int .i64 (cryptN k b)]) ∧ Below w.heap.size w w'

theorem any_of (ord : Nat → Nat) (k b : ByteArray) (f : FuncId) (w : World)
    (yes : k.size = 16 → b.size = 8 → Calls Try.prog f #[.string k, .string b] w (CryptPost ord k b w))
    (no : k.size ≠ 16 ∨ b.size ≠ 8 → Calls Try.prog f #[.string k, .string b] w (CryptNo w)) :
    Calls Try.prog f #[.string k, .string b] w (AnyPost ord k b w) := by
  by_cases h : k.size = 16 ∧ b.size = 8
  · refine (yes h.1 h.2).mono fun e w' ⟨he, hb⟩ => ⟨?_, hb⟩
    rw [cryptB, cryptN, if_pos h, if_pos h]; exact he
  · refine (no (by omega)).mono fun e w' ⟨he, hb⟩ => ⟨?_, hb⟩
    rw [cryptB, cryptN, if_neg h, if_neg h]; exact he

theorem enc_any (k b : ByteArray) (w : World) : Calls Try.prog 15 #[.string k, .string b] w (AnyPost ordE k b w) :=
  any_of ordE k b _ w (encrypt_yes k b w) (encrypt_no k b w)
theorem dec_any (k b : ByteArray) (w : World) : Calls Try.prog 17 #[.string k, .string b] w (AnyPost ordD k b w) :=
  any_of ordD k b _ w (decrypt_yes k b w) (decrypt_no k b w)
theorem renc_any (k b : ByteArray) (w : World) : Calls Try.prog 16 #[.string k, .string b] w (AnyPost ordE k b w) :=
  any_of ordE k b _ w (rE_yes k b w) (rE_no k b w)
theorem rdec_any (k b : ByteArray) (w : World) : Calls Try.prog 18 #[.string k, .string b] w (AnyPost ordD k b w) :=
  any_of ordD k b _ w (rD_yes k b w) (rD_no k b w)

theorem below_drew {w w1 w2 : World} (h : Below w.heap.size w w1) (k : Below w1.drew.heap.size w1.drew w2) : Below w.heap.size w w2 := h.drew.trans (k.mono h.size)

/-- A slice of two strings. -/
structure Two (v : Value) (g : Nat) (s0 s1 : ByteArray) (wx : World) : Prop where
  val : v = .slice (some ⟨g, 0, none⟩) 2 2
  lt : g < wx.heap.size
  c0 : wx.cell? ⟨g, 0, none⟩ = some (.string s0)
  c1 : wx.cell? ⟨g, 1, none⟩ = some (.string s1)

theorem Two.at {v : Value} {g : Nat} {s0 s1 : ByteArray} {wx wr : World} (h : Two v g s0 s1 wx) (hb : Below wx.heap.size wx wr) (j : Nat) (hj : j < 2) : ∃ k : ByteArray, wr.cell? ⟨g, j, none⟩ = some (.string k) := by
  match j, hj with
  | 0, _ => exact ⟨s0, (hb.cell (p := ⟨g, 0, none⟩) h.lt).trans h.c0⟩
  | 1, _ => exact ⟨s1, (hb.cell (p := ⟨g, 1, none⟩) h.lt).trans h.c1⟩

set_option maxRecDepth 100000 in
set_option maxHeartbeats 4000000 in
theorem cipherMatches_walk (s t : ByteArray) (hs : s.size ≤ maxLen) (ht : t.size ≤ maxLen) (w : World) :
    Calls Try.prog 3 #[.string s, .string t] w (TrueBelow w) := by
  have hs' := hs
  have ht' := ht
  unfold maxLen at hs ht
  go_enter Try.func3, Try.ntmps3
  go_wp2_with (fail)
  refine (sane2_any _).mono ?_
  rintro e w1 ⟨rfl, hb1⟩
  go_upto_region 2 with (fail)
  go_cut [26, 27, 28] (fun v n i wx => ∃ (g : Nat) (s0 s1 : ByteArray), Two v g s0 s1 wx ∧ n = .int .i64 2 ∧ i = .int .i64 0 ∧ Below w.heap.size w wx)
  case first =>
    by_cases h40 : 40 < s.size
    · have f1 : (40 : Int) < (s.size : Int) := by omega
      have f2 : (40 : Int) ≤ (s.size : Int) := by omega
      have f3 : 40 ≤ s.size := by omega
      go_region_held3 (fun _ => True) (trivial) (first | (go_at_call 14; refine (bytes_str s 16 _ hs' (by decide) (by decide)).mono ?_; rintro e w2 ⟨k2, hk2, rfl, hb2⟩))
      go_wp2_with (fail)
      all_goals
        go_meet
        refine ⟨w2.heap.size, s.extract 0 40, k2, ⟨rfl, by simp, by simp [go_sem], by simp [go_sem]⟩, rfl, rfl, ?_⟩
        have hb3 := below_drew hb1 hb2
        exact hb3.alloc hb3.size _
    · have f1 : ((40 : Int) < (s.size : Int)) = False := by simp; omega
      have f2 : (s.size : Int) ≤ 40 := by omega
      have f3 : (40 < s.size) = False := by simp; omega
      go_region_held3 (fun _ => True) (trivial) (first | (go_at_call 14; refine (bytes_str s 16 _ hs' (by decide) (by decide)).mono ?_; rintro e w2 ⟨k2, hk2, rfl, hb2⟩))
      go_wp2_with (fail)
      all_goals
        go_meet
        refine ⟨w2.heap.size, s, k2, ⟨rfl, by simp, by simp [go_sem], by simp [go_sem]⟩, rfl, rfl, ?_⟩
        have hb3 := below_drew hb1 hb2
        exact hb3.alloc hb3.size _
  case rest =>
    clear hb1
    obtain ⟨g, s0, s1, hT, rfl, rfl, B⟩ := hcut
    obtain rfl := hT.val
    have HT := Lib.hid hT; clear hT
    obtain ⟨wg, hwg⟩ : ∃ wg : World, wg = wc := ⟨_, rfl⟩
    subst hwg
    have HB := Lib.hid B; clear B
    go_wp2
    go_loopw [28] (fun i wr => ∃ j : Nat, j ≤ 2 ∧ i = .int .i64 j ∧ Below wg.heap.size wg wr) (fun i _ => 2 - (intOf i).toNat)
    case atStart => exact ⟨0, by omega, rfl, Below.refl _ _⟩
    case round =>
      obtain ⟨j, hj, rfl, B1⟩ := hrel
      by_cases hj2 : j < 2
      · obtain ⟨k, hk⟩ := HT.out.at B1 j hj2
        obtain ⟨wo, hwo⟩ : ∃ wo : World, wo = wr := ⟨_, rfl⟩
        subst hwo
        go_upto_region 5 with (fail)
        go_cut [39, 40, 41] (fun v n i wx => ∃ (g : Nat) (s0 s1 : ByteArray), Two v g s0 s1 wx ∧ n = .int .i64 2 ∧ i = .int .i64 0 ∧ Below wg.heap.size wg wx)
        case first =>
          by_cases h40 : 40 < t.size
          · have f1 : (40 : Int) < (t.size : Int) := by omega
            have f2 : (40 : Int) ≤ (t.size : Int) := by omega
            have f3 : 40 ≤ t.size := by omega
            go_region_held3 (fun _ => True) (trivial) (first | (go_at_call 14; refine (bytes_str t 8 _ ht' (by decide) (by decide)).mono ?_; rintro e w2 ⟨k2, hk2, rfl, hb2⟩))
            go_wp2_with (fail)
            all_goals
              go_meet
              refine ⟨w2.heap.size, t.extract 0 40, k2, ⟨rfl, by simp, by simp [go_sem], by simp [go_sem]⟩, rfl, rfl, ?_⟩
              have hb3 := below_drew B1 hb2
              exact hb3.alloc hb3.size _
          · have f1 : ((40 : Int) < (t.size : Int)) = False := by simp; omega
            have f2 : (t.size : Int) ≤ 40 := by omega
            have f3 : (40 < t.size) = False := by simp; omega
            go_region_held3 (fun _ => True) (trivial) (first | (go_at_call 14; refine (bytes_str t 8 _ ht' (by decide) (by decide)).mono ?_; rintro e w2 ⟨k2, hk2, rfl, hb2⟩))
            go_wp2_with (fail)
            all_goals
              go_meet
              refine ⟨w2.heap.size, t, k2, ⟨rfl, by simp, by simp [go_sem], by simp [go_sem]⟩, rfl, rfl, ?_⟩
              have hb3 := below_drew B1 hb2
              exact hb3.alloc hb3.size _
        case rest =>
          clear B1 hk
          obtain ⟨g2, t0, t1, hT2, rfl, rfl, B2⟩ := hcut
          obtain rfl := hT2.val
          have HT2 := Lib.hid hT2; clear hT2
          obtain ⟨wh, hwh⟩ : ∃ wh : World, wh = wc := ⟨_, rfl⟩
          subst hwh
          go_wp2
          go_loopw [41] (fun i wr => ∃ j : Nat, j ≤ 2 ∧ i = .int .i64 j ∧ Below wh.heap.size wh wr) (fun i _ => 2 - (intOf i).toNat)
          case atStart => exact ⟨0, by omega, rfl, Below.refl _ _⟩
          case round =>
            obtain ⟨i, hi, rfl, B3⟩ := hrel
            by_cases hi2 : i < 2
            · obtain ⟨b, hbc⟩ := HT2.out.at B3 i hi2
              go_wp2_with (fail)
              refine (enc_any k b _).mono ?_
              rintro e x1 ⟨rfl, hb1⟩
              go_wp2_with (fail)
              refine (renc_any k b _).mono ?_
              rintro e x2 ⟨rfl, hb2⟩
              go_wp2_with (fail)
              refine (dec_any k b _).mono ?_
              rintro e x3 ⟨rfl, hb3⟩
              go_wp2_with (fail)
              refine (rdec_any k b _).mono ?_
              rintro e x4 ⟨rfl, hb4⟩
              have B4 := below_then (below_then (below_then (below_then B3 hb1) hb2) hb3) hb4
              clear B3 hb1 hb2 hb3 hb4
              go_wp2
              go_roundw
              case rel => exact ⟨i + 1, by omega, by go_num, B4⟩
              case measure => simp [intOf]; omega
            · obtain rfl : i = 2 := by omega
              go_wp2
              go_roundw
              case rel => exact ⟨j + 1, by omega, by go_num, below_then B2 B3⟩
              case measure => simp [intOf]; omega
      · obtain rfl : j = 2 := by omega
        go_wp2
        go_ret
        exact ⟨rfl, below_then HB.out B1⟩

end Go.Proofs.Ytmdfpknhfkgfoaa
