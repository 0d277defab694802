/- Contracts of the reference cipher's text, Encrypt and Decrypt. -/
import Derived.Test.YtmdfpknhfkgfoaaRef2
namespace Go.Proofs.Ytmdfpknhfkgfoaa
open Go.RowKit

theorem rmix_any' (key : ByteArray) (r i : Nat) (z : Int) (w : World) (hz : z = (i : Int)) (hk : 16 ≤ key.size) (hr : r < 4294967296) (hi : i < 8) :
    Calls Try.prog 52 #[.string key, .int .i64 r, .int .i64 z] w (IntBelow (mix (word key.data.toList) r i : Nat) w) := by
  subst hz; exact rmix_any key r i w hk hr hi

theorem byte_of (v : Int) (x : Nat) (h : v = (x : Int) % 256) : ∃ b : UInt8, v = (b.toNat : Int) ∧ Hid (b = UInt8.ofNat x) := by
  refine ⟨UInt8.ofNat x, ?_, rfl⟩
  rw [h]; simp

/-- 'string([]byte{..})' of eight bytes. -/
theorem conv_eight (W : World) (a b c d e f g h : UInt8) :
    (convert 30 9 (.slice (some ⟨W.heap.size, 0, none⟩) 8 8)).run Try.prog (W.alloc (.cells #[.int .u8 (a.toNat : Int), .int .u8 (b.toNat : Int), .int .u8 (c.toNat : Int), .int .u8 (d.toNat : Int), .int .u8 (e.toNat : Int), .int .u8 (f.toNat : Int), .int .u8 (g.toNat : Int), .int .u8 (h.toNat : Int)] 5))
      = .ok (.string ⟨#[a, b, c, d, e, f, g, h]⟩) (W.alloc (.cells #[.int .u8 (a.toNat : Int), .int .u8 (b.toNat : Int), .int .u8 (c.toNat : Int), .int .u8 (d.toNat : Int), .int .u8 (e.toNat : Int), .int .u8 (f.toNat : Int), .int .u8 (g.toNat : Int), .int .u8 (h.toNat : Int)] 5)) := by
  refine run_convert_bytes_back _ 30 9 5 _ 8 [a, b, c, d, e, f, g, h] Try.underlying30 Try.underlying5 Try.underlying9 (fun j hj => ?_)
  rw [show ((⟨W.heap.size, 0, none⟩ : Addr).add j) = ⟨W.heap.size, j, none⟩ by simp [Addr.add]; omega, World.cell?_alloc_mark]
  simp at hj
  match j, hj with
  | 0, _ => rfl
  | 1, _ => rfl
  | 2, _ => rfl
  | 3, _ => rfl
  | 4, _ => rfl
  | 5, _ => rfl
  | 6, _ => rfl
  | 7, _ => rfl

set_option maxRecDepth 100000 in
set_option maxHeartbeats 400000 in
theorem rtext_any (l r : Nat) (w : World) (hl : l < 4294967296) (hr : r < 4294967296) :
    Calls Try.prog 53 #[.int .i64 l, .int .i64 r] w (StrPost (ube 4 l ++ ube 4 r) w) := by
  obtain ⟨b0, e0, E0⟩ := byte_of ((l : Int) / 16777216) (l / 16777216) (by omega)
  obtain ⟨b1, e1, E1⟩ := byte_of ((l : Int) / 65536 % 256) (l / 65536) (by omega)
  obtain ⟨b2, e2, E2⟩ := byte_of ((l : Int) / 256 % 256) (l / 256) (by omega)
  obtain ⟨b3, e3, E3⟩ := byte_of ((l : Int) % 256) l (by omega)
  obtain ⟨b4, e4, E4⟩ := byte_of ((r : Int) / 16777216) (r / 16777216) (by omega)
  obtain ⟨b5, e5, E5⟩ := byte_of ((r : Int) / 65536 % 256) (r / 65536) (by omega)
  obtain ⟨b6, e6, E6⟩ := byte_of ((r : Int) / 256 % 256) (r / 256) (by omega)
  obtain ⟨b7, e7, E7⟩ := byte_of ((r : Int) % 256) r (by omega)
  have hcv := conv_eight w b0 b1 b2 b3 b4 b5 b6 b7
  go_enter Try.func53, Try.ntmps53
  go_wp2
  go_ret
  refine ⟨?_, (Below.refl _ _).alloc (Nat.le_refl _) _⟩
  rw [ube4, ube4, ← E0.out, ← E1.out, ← E2.out, ← E3.out, ← E4.out, ← E5.out, ← E6.out, ← E7.out]
  rfl

set_option maxRecDepth 100000 in
set_option maxHeartbeats 400000 in
theorem rE_no (key block : ByteArray) (w : World) (h : key.size ≠ 16 ∨ block.size ≠ 8) :
    Calls Try.prog 16 #[.string key, .string block] w (CryptNo w) := by
  by_cases h1 : key.size = 16
  · have h2 : ((block.size : Int) != 8) = true := by rw [bne_iff_ne]; omega
    have h1' : ((key.size : Int) != 16) = false := by simp; omega
    have H := Lib.hid h1; clear h1 h
    go_enter Try.func16, Try.ntmps16
    go_wp2
    go_ret2
    exact ⟨rfl, Below.refl _ _⟩
  · have h2 : ((key.size : Int) != 16) = true := by rw [bne_iff_ne]; omega
    have H := Lib.hid h1; clear h1 h
    go_enter Try.func16, Try.ntmps16
    go_wp2
    go_ret2
    exact ⟨rfl, Below.refl _ _⟩

set_option maxRecDepth 100000 in
set_option maxHeartbeats 800000 in
theorem rE_yes (key block : ByteArray) (w : World) (hk : key.size = 16) (hb : block.size = 8) :
    Calls Try.prog 16 #[.string key, .string block] w (CryptPost ordE key block w) := by
  have h1 : ((key.size : Int) != 16) = false := by simp; omega
  have h2 : ((block.size : Int) != 8) = false := by simp; omega
  have hk16 : 16 ≤ key.size := by omega
  have hb8 : 8 ≤ block.size := by omega
  clear hk hb
  have hsl : Hid (∀ j, (steps (word key.data.toList) ordE (word block.data.toList 0, word block.data.toList 1) j).1 < 4294967296 ∧ (steps (word key.data.toList) ordE (word block.data.toList 0, word block.data.toList 1) j).2 < 4294967296) := steps_lt _ _ _ (word_lt _) (word_lt _ _) (word_lt _ _)
  go_enter Try.func16, Try.ntmps16
  go_wp2_with (fail)
  refine (rword_any block 0 _ _ rfl (by omega) (by omega)).mono ?_
  rintro e w1 ⟨rfl, hb1⟩
  go_wp2_with (fail)
  refine (rword_any block 1 _ _ rfl (by omega) (by omega)).mono ?_
  rintro e w2 ⟨rfl, hb2⟩
  have B2 := below_then hb1 hb2
  clear hb1 hb2
  go_wp2
  go_loopw [6, 7, 8] (fun l r i wr => ∃ j : Nat, j ≤ 8 ∧ i = .int .i64 ((j : Nat) : Int) ∧ l = .int .i64 (steps (word key.data.toList) ordE (word block.data.toList 0, word block.data.toList 1) j).1 ∧ r = .int .i64 (steps (word key.data.toList) ordE (word block.data.toList 0, word block.data.toList 1) j).2 ∧ Below w.heap.size w wr) (fun _ _ i _ => 8 - (intOf i).toNat)
  case atStart => exact ⟨0, by omega, rfl, rfl, rfl, B2⟩
  case round =>
    clear B2
    obtain ⟨j, hj, rfl, rfl, rfl, B⟩ := hrel
    have hst := steps_succ (word key.data.toList) ordE (word block.data.toList 0, word block.data.toList 1) j
    have hlt := hsl.out j
    generalize hS : steps (word key.data.toList) ordE (word block.data.toList 0, word block.data.toList 1) j = s at *
    obtain ⟨l, r⟩ := s
    have Hst := Lib.hid hst; clear hst
    have HS := Lib.hid hS; clear hS
    by_cases hj8 : j < 8
    · have hml := mix_lt (word key.data.toList) r (ordE j) (word_lt _) hlt.2
      go_wp2_with (fail)
      refine (rmix_any key r (ordE j) _ hk16 hlt.2 (by unfold ordE; omega)).mono ?_
      rintro e w3 ⟨rfl, hb3⟩
      have B3 := below_then B hb3
      clear B hb3
      have hx := i64_xor_nat l (mix (word key.data.toList) r (ordE j)) (by omega) (by omega)
      go_wp2
      go_roundw
      case rel => exact ⟨j + 1, by omega, by go_num, by rw [Hst.out], by rw [Hst.out], B3⟩
      case measure => simp [intOf]; omega
    · obtain rfl : j = 8 := by omega
      go_wp2_with (fail)
      refine (rtext_any _ _ _ hlt.2 hlt.1).mono ?_
      rintro e w4 ⟨rfl, hb4⟩
      go_wp2
      go_ret2
      refine ⟨?_, below_then B hb4⟩
      unfold crypt; rw [HS.out]; rfl

set_option maxRecDepth 100000 in
set_option maxHeartbeats 400000 in
theorem rD_no (key block : ByteArray) (w : World) (h : key.size ≠ 16 ∨ block.size ≠ 8) :
    Calls Try.prog 18 #[.string key, .string block] w (CryptNo w) := by
  by_cases h1 : key.size = 16
  · have h2 : ((block.size : Int) != 8) = true := by rw [bne_iff_ne]; omega
    have h1' : ((key.size : Int) != 16) = false := by simp; omega
    have H := Lib.hid h1; clear h1 h
    go_enter Try.func18, Try.ntmps18
    go_wp2
    go_ret2
    exact ⟨rfl, Below.refl _ _⟩
  · have h2 : ((key.size : Int) != 16) = true := by rw [bne_iff_ne]; omega
    have H := Lib.hid h1; clear h1 h
    go_enter Try.func18, Try.ntmps18
    go_wp2
    go_ret2
    exact ⟨rfl, Below.refl _ _⟩

set_option maxRecDepth 100000 in
set_option maxHeartbeats 800000 in
theorem rD_yes (key block : ByteArray) (w : World) (hk : key.size = 16) (hb : block.size = 8) :
    Calls Try.prog 18 #[.string key, .string block] w (CryptPost ordD key block w) := by
  have h1 : ((key.size : Int) != 16) = false := by simp; omega
  have h2 : ((block.size : Int) != 8) = false := by simp; omega
  have hk16 : 16 ≤ key.size := by omega
  have hb8 : 8 ≤ block.size := by omega
  clear hk hb
  have hsl : Hid (∀ j, (steps (word key.data.toList) ordD (word block.data.toList 0, word block.data.toList 1) j).1 < 4294967296 ∧ (steps (word key.data.toList) ordD (word block.data.toList 0, word block.data.toList 1) j).2 < 4294967296) := steps_lt _ _ _ (word_lt _) (word_lt _ _) (word_lt _ _)
  go_enter Try.func18, Try.ntmps18
  go_wp2_with (fail)
  refine (rword_any block 0 _ _ rfl (by omega) (by omega)).mono ?_
  rintro e w1 ⟨rfl, hb1⟩
  go_wp2_with (fail)
  refine (rword_any block 1 _ _ rfl (by omega) (by omega)).mono ?_
  rintro e w2 ⟨rfl, hb2⟩
  have B2 := below_then hb1 hb2
  clear hb1 hb2
  go_wp2
  go_loopw [6, 7, 8] (fun l r i wr => ∃ j : Nat, j ≤ 8 ∧ i = .int .i64 ((7 : Int) - (j : Nat)) ∧ l = .int .i64 (steps (word key.data.toList) ordD (word block.data.toList 0, word block.data.toList 1) j).1 ∧ r = .int .i64 (steps (word key.data.toList) ordD (word block.data.toList 0, word block.data.toList 1) j).2 ∧ Below w.heap.size w wr) (fun _ _ i _ => (intOf i + 1).toNat)
  case atStart => exact ⟨0, by omega, rfl, rfl, rfl, B2⟩
  case round =>
    clear B2
    obtain ⟨j, hj, rfl, rfl, rfl, B⟩ := hrel
    have hst := steps_succ (word key.data.toList) ordD (word block.data.toList 0, word block.data.toList 1) j
    have hlt := hsl.out j
    generalize hS : steps (word key.data.toList) ordD (word block.data.toList 0, word block.data.toList 1) j = s at *
    obtain ⟨l, r⟩ := s
    have Hst := Lib.hid hst; clear hst
    have HS := Lib.hid hS; clear hS
    by_cases hj8 : j < 8
    · have hml := mix_lt (word key.data.toList) r (ordD j) (word_lt _) hlt.2
      go_wp2_with (fail)
      refine (rmix_any' key r (ordD j) _ _ (by unfold ordD; omega) hk16 hlt.2 (by unfold ordD; omega)).mono ?_
      rintro e w3 ⟨rfl, hb3⟩
      have B3 := below_then B hb3
      clear B hb3
      have hx := i64_xor_nat l (mix (word key.data.toList) r (ordD j)) (by omega) (by omega)
      go_wp2
      go_roundw
      case rel => exact ⟨j + 1, by omega, by congr 1; omega, by rw [Hst.out], by rw [Hst.out], B3⟩
      case measure => simp [intOf]; omega
    · obtain rfl : j = 8 := by omega
      go_wp2_with (fail)
      refine (rtext_any _ _ _ hlt.2 hlt.1).mono ?_
      rintro e w4 ⟨rfl, hb4⟩
      go_wp2
      go_ret2
      refine ⟨?_, below_then B hb4⟩
      unfold crypt; rw [HS.out]; rfl

end Go.Proofs.Ytmdfpknhfkgfoaa
