/- The walk of CipherSizes. -/
import Derived.Test.YtmdfpknhfkgfoaaCip
import Derived.Deep.DeepCutAuto
import Derived.Deep.OwnRows
import Derived.Deep.RegionWith
namespace Go.Proofs.Ytmdfpknhfkgfoaa
open Go.RowKit

/-- 'string(make([]byte, n))': the block that make lays, and the string that the conversion gives wherever that block lies. -/
theorem made_any (n : Nat) (hn : n ≤ 140737488355328) : ∃ (Z : Obj) (z : ByteArray), Hid (z.size = n) ∧
    (∀ W : World, (Instr.makeSlice 30 (.int .i64 (n : Int)) (.int .i64 (n : Int))).run Try.prog W = .ok (.slice (some ⟨W.heap.size, 0, none⟩) n n) (W.alloc Z)) ∧
    Hid (∀ (W : World) (B : Nat), W.heap[B]? = some Z → (convert 30 9 (.slice (some ⟨B, 0, none⟩) n n)).run Try.prog W = .ok (.string z) W) := by
  refine ⟨.cells (madeCells #[.int .u8 0] n) 5, ⟨(List.replicate n 0).toArray⟩, ?_, ?_, ?_⟩
  · show _ = _
    simp [ByteArray.size]
  · intro W
    exact run_make_row' 30 5 (.int .u8 0) 1 Try.underlying30 info_u8 rfl .i64 .i64 n (by omega) (by omega) W
  · intro W B hB
    have h := run_convert_bytes_back W 30 9 5 ⟨B, 0, none⟩ n (List.replicate n 0) Try.underlying30 Try.underlying5 Try.underlying9 (fun j hj => ?_)
    · simpa using h
    · have hj' : j < n := by simpa using hj
      rw [show ((⟨B, 0, none⟩ : Addr).add j) = ⟨B, j, none⟩ by simp [Addr.add]; omega]
      simp [World.cell?, hB, madeCells, hj', Nat.mod_one]

theorem alloc1_first (w : World) (A : Obj) : (w.alloc A).drew.heap[w.heap.size]? = some A := by
  show (w.heap.push A)[w.heap.size]? = some A
  simp

def errOf (f : Bool) : Int := if f then 0 else 20

/-- What Encrypt or Decrypt gives at strings of whatever sizes. -/
def SizesPost (fits : Bool) (w : World) (e : Ending) (w' : World) : Prop :=
  ∃ r : ByteArray, Hid (fits = false → r = ⟨#[]⟩) ∧ e = .returned (.tuple #[.string r, .int .i64 (errOf fits)]) ∧ Below w.heap.size w w'

def fitsB (k b : Nat) : Bool := decide (k = 16 ∧ b = 8)


theorem enc_sizes (k b : ByteArray) (K B : Nat) (hK : Hid (k.size = K)) (hB : Hid (b.size = B)) (w : World) : Calls Try.prog 15 #[.string k, .string b] w (SizesPost (fitsB K B) w) := by
  rw [← hK.out, ← hB.out]
  by_cases h : k.size = 16 ∧ b.size = 8
  · have e : fitsB k.size b.size = true := decide_eq_true h
    rw [e]
    exact (enc_some k b w h.1 h.2).mono fun e w' ⟨a, _, _, he, hb⟩ => ⟨a, fun h => (by cases h), he, hb⟩
  · have e : fitsB k.size b.size = false := decide_eq_false h
    rw [e]
    exact (encrypt_no k b w (by omega)).mono fun e w' ⟨he, hb⟩ => ⟨_, fun _ => rfl, he, hb⟩

theorem dec_sizes (k b : ByteArray) (K B : Nat) (hK : Hid (k.size = K)) (hB : Hid (b.size = B)) (w : World) : Calls Try.prog 17 #[.string k, .string b] w (SizesPost (fitsB K B) w) := by
  rw [← hK.out, ← hB.out]
  by_cases h : k.size = 16 ∧ b.size = 8
  · have e : fitsB k.size b.size = true := decide_eq_true h
    rw [e]
    exact (dec_some k b w h.1 h.2).mono fun e w' ⟨a, _, _, he, hb⟩ => ⟨a, fun h => (by cases h), he, hb⟩
  · have e : fitsB k.size b.size = false := decide_eq_false h
    rw [e]
    exact (decrypt_no k b w (by omega)).mono fun e w' ⟨he, hb⟩ => ⟨_, fun _ => rfl, he, hb⟩

set_option maxRecDepth 100000 in
set_option maxHeartbeats 4000000 in
theorem cipherSizes_walk (z y : Int) (hlo : -9223372036854775808 ≤ z) (hhi : z ≤ 9223372036854775807) (hlo' : -9223372036854775808 ≤ y) (hhi' : y ≤ 9223372036854775807) (w : World) :
    Calls Try.prog 6 #[.int .i64 z, .int .i64 y] w (TrueBelow w) := by
  have hk40 := pickN_lt z 40 (by decide)
  have hb24 := pickN_lt y 24 (by decide)
  go_enter Try.func6, Try.ntmps6
  go_wp2_with (fail)
  refine (sane2_any _).mono ?_
  rintro e w1 ⟨rfl, hb1⟩
  go_wp2_with (fail)
  refine (pick2_any z 40 _ (by decide) (by decide) hlo hhi).mono ?_
  rintro e w5 ⟨rfl, rfl⟩
  go_wp2_with (fail)
  refine (pick2_any y 24 _ (by decide) (by decide) hlo' hhi').mono ?_
  rintro e w5 ⟨rfl, rfl⟩
  generalize pickN z 40 = k at *
  generalize pickN y 24 = b at *
  obtain ⟨Zk, zk, hzk, hmk, Hck⟩ := made_any k (by omega)
  obtain ⟨Zb, zb, hzb, hmb, Hcb⟩ := made_any b (by omega)
  have v1 := Hck.out (w1.alloc Zk).drew w1.heap.size (alloc1_first _ _)
  have v2 := Hck.out ((w1.alloc Zk).alloc Zb).drew w1.heap.size (alloc2_first _ _ _)
  have v3 := Hck.out ((w1.alloc Zb).alloc Zk).drew (w1.heap.size + 1) (alloc2_second _ _ _)
  have v4 := Hcb.out (w1.alloc Zb).drew w1.heap.size (alloc1_first _ _)
  have v5 := Hcb.out ((w1.alloc Zb).alloc Zk).drew w1.heap.size (alloc2_first _ _ _)
  have v6 := Hcb.out ((w1.alloc Zk).alloc Zb).drew (w1.heap.size + 1) (alloc2_second _ _ _)
  go_upto_region 4 with (fail)
  go_cut [8, 9] (fun v u wx => ∃ r : ByteArray, v = .string r ∧ u = .int .i64 (errOf (fitsB k b)) ∧ Hid (fitsB k b = false → r = ⟨#[]⟩) ∧ Below w.heap.size w wx)
  case first =>
    go_region_with (go_at_call 15; refine (enc_sizes zk zb k b hzk hzb _).mono ?_; rintro e w2 ⟨r, hr, rfl, hb2⟩)
    all_goals (go_wp2_with (fail); go_meet; exact ⟨r, rfl, rfl, hr, ((hb1.alloc hb1.size _).alloc (by have := hb1.size; simp; omega) _).drew.trans (hb2.mono (by have := hb1.size; simp; omega))⟩)
  case rest =>
    clear v1 v2 v3 v4 v5 v6
    obtain ⟨r1, rfl, rfl, hr1, B1⟩ := hcut
    have v1 := Hck.out (wc.alloc Zk).drew wc.heap.size (alloc1_first _ _)
    have v2 := Hck.out ((wc.alloc Zk).alloc Zb).drew wc.heap.size (alloc2_first _ _ _)
    have v3 := Hck.out ((wc.alloc Zb).alloc Zk).drew (wc.heap.size + 1) (alloc2_second _ _ _)
    have v4 := Hcb.out (wc.alloc Zb).drew wc.heap.size (alloc1_first _ _)
    have v5 := Hcb.out ((wc.alloc Zb).alloc Zk).drew wc.heap.size (alloc2_first _ _ _)
    have v6 := Hcb.out ((wc.alloc Zk).alloc Zb).drew (wc.heap.size + 1) (alloc2_second _ _ _)
    have hb1 := B1
    clear B1
    obtain ⟨w1', hw1⟩ : ∃ w1' : World, w1' = wc := ⟨_, rfl⟩
    subst hw1
    go_upto_region 5 with (fail)
    go_cut [10, 11] (fun v u wx => ∃ r : ByteArray, v = .string r ∧ u = .int .i64 (errOf (fitsB k b)) ∧ Hid (fitsB k b = false → r = ⟨#[]⟩) ∧ Below w.heap.size w wx)
    case first =>
      go_region_with (go_at_call 17; refine (dec_sizes zk zb k b hzk hzb _).mono ?_; rintro e w2 ⟨r, hr, rfl, hb2⟩)
      all_goals (go_wp2_with (fail); go_meet; exact ⟨r, rfl, rfl, hr, ((hb1.alloc hb1.size _).alloc (by have := hb1.size; simp; omega) _).drew.trans (hb2.mono (by have := hb1.size; simp; omega))⟩)
    case rest =>
      clear v1 v2 v3 v4 v5 v6 hmk hmb Hck Hcb
      obtain ⟨r2, rfl, rfl, hr2, B2⟩ := hcut
      by_cases h : k = 16 ∧ b = 8
      · have e : fitsB k b = true := decide_eq_true h
        rw [e]
        obtain ⟨rfl, rfl⟩ := h
        have h0 : errOf true = 0 := rfl
        go_wp2
        go_ret
        exact ⟨rfl, B2⟩
      · have e : fitsB k b = false := decide_eq_false h
        rw [e, hr1.out e, hr2.out e]
        have h0 : errOf false = 20 := rfl
        clear e
        by_cases h16 : k = 16
        · have hk : ((k : Int) == 16) = true := by simp; omega
          have hb : ((b : Int) == 8) = false := by simp; omega
          clear h h16
          go_wp2
          go_ret
          exact ⟨rfl, B2⟩
        · have hk : ((k : Int) == 16) = false := by simp; omega
          clear h h16
          go_wp2
          go_ret
          exact ⟨rfl, B2⟩

end Go.Proofs.Ytmdfpknhfkgfoaa
