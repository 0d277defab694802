/- Contracts of cid.Local: add, NewLocal. -/
import Derived.Test.YtmdfpknhfkgfoaaCip
import Derived.Test.YtmdfpknhfkgfoaaBlk
namespace Go.Proofs.Ytmdfpknhfkgfoaa
open Go.RowKit

/-- The ID with a sequence number. -/
def idB (key : ByteArray) (i : Nat) : ByteArray := ⟨(crypt ordE key.data.toList (ube 8 i)).toArray⟩

structure Loc where
  key : ByteArray
  n : Nat
  act : Nat → Bool

/-- The cells of a Local. -/
def Loc.at (L : Loc) (j : Nat) : Value :=
  if j < 32 then (if j < L.n then .string (idB L.key j) else .string ⟨#[]⟩) else if j < 64 then .bool (L.act (j - 32)) else if j = 64 then .string L.key else .int .i64 L.n

structure IsLoc (B : Nat) (L : Loc) (w : World) : Prop where
  blk : Blk B 66 L.at 99 w
  le : L.n ≤ 32
  key : L.key.size = 16

theorem Loc.at_id (L : Loc) (j : Nat) (h : j < L.n) (hn : L.n ≤ 32) : L.at j = .string (idB L.key j) := by unfold Loc.at; rw [if_pos (by omega), if_pos h]
theorem Loc.at_act (L : Loc) (j : Nat) (h : j < 32) : L.at (32 + j) = .bool (L.act j) := by unfold Loc.at; rw [if_neg (by omega), if_pos (by omega)]; congr 2; omega
theorem Loc.at_key (L : Loc) : L.at 64 = .string L.key := by simp [Loc.at]
theorem Loc.at_n (L : Loc) : L.at 65 = .int .i64 L.n := by simp [Loc.at]

def Loc.add (L : Loc) : Loc := { key := L.key, n := L.n + 1, act := fun i => if i = L.n then true else L.act i }

theorem Loc.add_at (L : Loc) (h : L.n < 32) : ∀ j, j < 66 → upd (upd (upd L.at L.n (.string (idB L.key L.n))) (32 + L.n) (.bool true)) 65 (.int .i64 ((L.n : Int) + 1)) j = L.add.at j := by
  intro j hj
  rcases L with ⟨key, n, act⟩
  simp only [upd, Loc.at, Loc.add] at *
  repeat' split
  all_goals first | (exfalso; omega) | (simp; done) | (subst_vars; simp; done)

def IdPost (key : ByteArray) (n : Nat) (w : World) (e : Ending) (w' : World) : Prop := e = .returned (.tuple #[.string (idB key n), .int .i64 0]) ∧ Below w.heap.size w w'

theorem enc_id (key u : ByteArray) (n : Nat) (w : World) (hk : key.size = 16) (hu : Hid (u.data.toList = ube 8 n)) :
    Calls Try.prog 15 #[.string key, .string u] w (IdPost key n w) := by
  have h8 : u.size = 8 := by rw [← len_data, hu.out, ube_length]
  refine (encrypt_yes key u w hk h8).mono fun e w' ⟨he, hb⟩ => ⟨?_, hb⟩
  rw [he, hu.out]
  rfl

def LocPost (B : Nat) (L : Loc) (w : World) (e : Ending) (w' : World) : Prop := e = .returned (.tuple #[]) ∧ IsLoc B L w' ∧ Only B w w'

set_option maxRecDepth 100000 in
set_option maxHeartbeats 800000 in
theorem add_any (B : Nat) (L : Loc) (w : World) (hL : IsLoc B L w) (hn : L.n < 32) :
    Calls Try.prog 64 #[.pointer (some ⟨B, 0, none⟩)] w (LocPost B L.add w) := by
  have c65 := hL.blk.cell 65 (by decide)
  have c64 := hL.blk.cell 64 (by decide)
  rw [Loc.at_n] at c65
  rw [Loc.at_key] at c64
  have HL := Lib.hid hL; clear hL
  have hBlt := HL.out.blk.lt
  go_enter Try.func64, Try.ntmps64
  go_wp2_with (fail)
  refine (uint_any 8 L.n _ (by decide) (by decide) (Nat.lt_of_lt_of_le hn (by decide)) (Nat.le_trans (Nat.le_of_lt hn) (by decide))).mono ?_
  rintro e w1 ⟨rfl, hb1⟩
  have HB1 := Lib.hid (HL.out.blk.below hb1 hBlt)
  have c65' := HB1.out.cell 65 (by decide)
  have c64' := HB1.out.cell 64 (by decide)
  rw [Loc.at_n] at c65'
  rw [Loc.at_key] at c64'
  have HU : Hid ((⟨(ube 8 L.n).toArray⟩ : ByteArray).data.toList = ube 8 L.n) := by show _ = _; simp
  generalize (⟨(ube 8 L.n).toArray⟩ : ByteArray) = u at *
  have hO1 : Hid (Only B w w1) := Only.of_below hb1
  have hlt1 := HB1.out.lt
  clear c65 c64 hb1
  have n1 : ¬ (L.n = 65) := by omega
  have n2 : ¬ (65 = L.n) := by omega
  have n3 : ¬ (L.n = 64) := by omega
  have n4 : ¬ (64 = L.n) := by omega
  have j1 : (0 : Int) ≤ (L.n : Int) := by omega
  have j2 : (L.n : Int) < 32 := by omega
  go_wp2_with (fail)
  go_region_held3 (fun w' => w'.cell? ⟨B, 65, none⟩ = some (.int .i64 L.n) ∧ w'.cell? ⟨B, 64, none⟩ = some (.string L.key)) (first | exact hS | exact hS3 | go_keep)
    (first | (go_at_call 15; refine (enc_id L.key u L.n _ HL.out.key HU).mono ?_; rintro e w2 ⟨rfl, hb2⟩; have HB2 := Lib.hid (HB1.out.drew.below hb2 hlt1); have hS : w2.cell? ⟨B, 65, none⟩ = some (.int .i64 L.n) ∧ w2.cell? ⟨B, 64, none⟩ = some (.string L.key) := ⟨L.at_n ▸ HB2.out.cell 65 (by decide), L.at_key ▸ HB2.out.cell 64 (by decide)⟩; have hS3 : (w2.setCell ⟨B, L.n, none⟩ (.string (idB L.key L.n))).cell? ⟨B, 65, none⟩ = some (.int .i64 L.n) ∧ (w2.setCell ⟨B, L.n, none⟩ (.string (idB L.key L.n))).cell? ⟨B, 64, none⟩ = some (.string L.key) := ⟨cell_other hS.1 n1, cell_other hS.2 n3⟩; have cn := HB2.out.cell L.n (by omega); have fn := HB2.out.free L.n))
  have HB3 := Lib.hid (HB2.out.set L.n (.string (idB L.key L.n)))
  have HO3 : Hid (Only B w (w2.setCell ⟨B, L.n, none⟩ (.string (idB L.key L.n)))) := (hO1.out.drew.trans (Only.of_below hb2)).setCell _ _
  generalize w2.setCell ⟨B, L.n, none⟩ (.string (idB L.key L.n)) = W3 at *
  obtain ⟨d65, _⟩ := hS3
  have dn : W3.cell? ⟨B, 32 + L.n, none⟩ = some (.bool (L.act L.n)) := by
    have h := HB3.out.cell (32 + L.n) (by omega)
    rw [upd, if_neg (by omega), L.at_act _ hn] at h
    exact h
  have fn2 := HB3.out.free (32 + L.n)
  clear hS cn fn HB2 hb2 hO1 HB1 hlt1 c65' c64'
  go_wp2
  go_region
  have HB4 := Lib.hid (HB3.out.set (32 + L.n) (.bool true)).drew
  have HO4 : Hid (Only B w (W3.setCell ⟨B, 32 + L.n, none⟩ (.bool true)).drew) := (HO3.out.setCell _ _).drew
  have e65 : (W3.setCell ⟨B, 32 + L.n, none⟩ (.bool true)).drew.cell? ⟨B, 65, none⟩ = some (.int .i64 L.n) := cell_other (w := W3) d65 (by omega)
  have g65 := HB4.out.free 65
  generalize (W3.setCell ⟨B, 32 + L.n, none⟩ (.bool true)).drew = W4 at *
  clear HB3 HO3 d65 dn fn2
  go_wp2
  go_end0
  exact ⟨rfl, ⟨(HB4.out.set 65 _).congr (L.add_at hn), by show L.n + 1 ≤ 32; omega, HL.out.key⟩, HO4.out.setCell _ _⟩

theorem zero_loc : Try.zeroCells99 = rowOf 66 (Loc.mk ⟨#[]⟩ 0 (fun _ => false)).at := by kernel_rfl

theorem new_loc (key : ByteArray) : Try.zeroCells99.setIfInBounds 64 (.string key) = rowOf 66 (Loc.mk key 0 (fun _ => false)).at := by
  rw [zero_loc, rowOf_set]
  apply rowOf_congr
  intro j _
  simp only [upd, Loc.at]
  repeat' split
  all_goals first | (exfalso; omega) | (simp; done) | (subst_vars; simp; done)

def NewLocPost (key : ByteArray) (w : World) (e : Ending) (w' : World) : Prop :=
  ∃ B, e = .returned (.tuple #[.pointer (some ⟨B, 0, none⟩), .int .i64 0]) ∧ IsLoc B (Loc.mk key 0 (fun _ => false)).add w' ∧ w.heap.size ≤ B ∧ Below w.heap.size w w'

set_option maxRecDepth 100000 in
set_option maxHeartbeats 800000 in
theorem newLocal_yes (key : ByteArray) (w : World) (hk : key.size = 16) :
    Calls Try.prog 35 #[.string key] w (NewLocPost key w) := by
  have h1 : ((key.size : Int) != 16) = false := by simp; omega
  have Hk := Lib.hid hk; clear hk
  go_enter Try.func35, Try.ntmps35
  go_wp2_with (fail)
  rw [new_loc]
  have hI : IsLoc w.heap.size (Loc.mk key 0 (fun _ => false)) (w.alloc (.cells (rowOf 66 (Loc.mk key 0 (fun _ => false)).at) 99)) := ⟨Blk.new _ _ _ _, Nat.zero_le _, Hk.out⟩
  have hB0 : Below w.heap.size w (w.alloc (.cells (rowOf 66 (Loc.mk key 0 (fun _ => false)).at) 99)) := (Below.refl _ _).alloc (Nat.le_refl _) _
  refine (add_any _ _ _ hI (by show 0 < 32; decide)).mono ?_
  rintro e w1 ⟨rfl, hI1, hO1⟩
  have H1 := Lib.hid hI1; clear hI1
  clear hI
  go_wp2
  go_ret2
  exact ⟨_, rfl, H1.out, Nat.le_refl _, Only.below hB0 hO1 (Nat.le_refl _) (by simp)⟩

set_option maxRecDepth 100000 in
set_option maxHeartbeats 400000 in
theorem newLocal_no (key : ByteArray) (w : World) (hk : key.size ≠ 16) :
    Calls Try.prog 35 #[.string key] w fun e w' => e = .returned (.tuple #[.pointer none, .int .i64 70]) ∧ w = w' := by
  have h1 : ((key.size : Int) != 16) = true := by rw [bne_iff_ne]; omega
  have Hk := Lib.hid hk; clear hk
  go_enter Try.func35, Try.ntmps35
  go_wp2
  go_ret2
  exact ⟨rfl, rfl⟩

/-- Retire. -/
def Loc.retire (L : Loc) (i : Nat) : Loc := { L with act := fun j => if j = i then false else L.act j }

theorem Loc.retire_at (L : Loc) (i : Nat) (h : i < 32) : ∀ j, j < 66 → upd L.at (32 + i) (.bool false) j = (L.retire i).at j := by
  intro j hj
  rcases L with ⟨key, n, act⟩
  simp only [upd, Loc.at, Loc.retire] at *
  repeat' split
  all_goals first | (exfalso; omega) | (simp; done) | (subst_vars; simp; done)

def RetPost (B : Nat) (L : Loc) (v : Int) (w : World) (e : Ending) (w' : World) : Prop := e = .returned (.int .i64 v) ∧ IsLoc B L w' ∧ Only B w w'

set_option maxRecDepth 100000 in
set_option maxHeartbeats 400000 in
theorem retire_yes (B i : Nat) (L : Loc) (w : World) (hL : IsLoc B L w) (hi : i < L.n) :
    Calls Try.prog 41 #[.pointer (some ⟨B, 0, none⟩), .int .i64 i] w (RetPost B (L.retire i) 0 w) := by
  have hn := hL.le
  have c65 := hL.blk.cell 65 (by decide)
  rw [Loc.at_n] at c65
  have ci := hL.blk.cell (32 + i) (by omega)
  rw [L.at_act i (by omega)] at ci
  have fi := hL.blk.free (32 + i)
  have HL := Lib.hid hL; clear hL
  go_enter Try.func41, Try.ntmps41
  go_wp2
  go_ret
  exact ⟨rfl, ⟨(HL.out.blk.set (32 + i) _).congr (L.retire_at i (by omega)), hn, HL.out.key⟩, (Only.refl _ _).setCell _ _⟩

set_option maxRecDepth 100000 in
set_option maxHeartbeats 400000 in
theorem retire_no (B : Nat) (i : Int) (L : Loc) (w : World) (hL : IsLoc B L w) (hi : i < 0 ∨ (L.n : Int) ≤ i) :
    Calls Try.prog 41 #[.pointer (some ⟨B, 0, none⟩), .int .i64 i] w (RetPost B L 70 w) := by
  have c65 := hL.blk.cell 65 (by decide)
  rw [Loc.at_n] at c65
  have HL := Lib.hid hL; clear hL
  by_cases h : i < 0
  · clear hi
    go_enter Try.func41, Try.ntmps41
    go_wp2
    go_ret
    exact ⟨rfl, HL.out, Only.refl _ _⟩
  · have h2 : (L.n : Int) ≤ i := by omega
    clear hi
    go_enter Try.func41, Try.ntmps41
    go_wp2
    go_ret
    exact ⟨rfl, HL.out, Only.refl _ _⟩

end Go.Proofs.Ytmdfpknhfkgfoaa
