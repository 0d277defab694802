/- Plain facts for law07: IDs differ, the fixed calls' Remotes. -/
import Derived.Test.YtmdfpknhfkgfoaaKey
namespace Go.Proofs.Ytmdfpknhfkgfoaa
open Go.RowKit Go.Shelf

abbrev sA : ByteArray := ⟨#[97, 97, 97, 97, 97, 97, 97, 97]⟩
abbrev sB : ByteArray := ⟨#[98, 98, 98, 98, 98, 98, 98, 98]⟩
abbrev sC : ByteArray := ⟨#[99, 99, 99, 99, 99, 99, 99, 99]⟩

theorem r0_add : ((newRem sA).add 1 0 sB).1 = 0 := by decide
def rem1 : Rem := ((newRem sA).add 1 0 sB).2
theorem r1_fits : (newRem sA).ent.fits 1 sB = true := by decide
theorem r1_unused : (hits (rem1.ent.isIn 1) 32).length = 1 := by decide
theorem r2_cur : rem1.rotate.ent.cur = sB := by decide
theorem r2_left : rem1.rotate.left = [0] := by decide
theorem r2_fits : rem1.rotate.ent.fits 1 sC = false := by decide
theorem r2_unused : hits (rem1.rotate.ent.isIn 1) 32 = [] := by decide

set_option maxRecDepth 100000 in
theorem ube8_inj : ∀ i : Fin 33, ∀ j : Fin 33, ube 8 i.val = ube 8 j.val → i = j := by decide

theorem idB_list (key : ByteArray) (i : Nat) : (idB key i).data.toList = crypt ordE key.data.toList (ube 8 i) := by simp [idB]
theorem idB_size (key : ByteArray) (i : Nat) : (idB key i).size = 8 := by
  rw [← len_data, idB_list, crypt_length]

theorem idB_back (key : ByteArray) (i : Nat) : crypt ordD key.data.toList (idB key i).data.toList = ube 8 i := by
  rw [idB_list]
  exact crypt_inv ordE ordD (by decide) key.data.toList (ube 8 i) (ube_length 8 i)

theorem idB_inj (key : ByteArray) (i j : Nat) (hi : i < 33) (hj : j < 33) (h : idB key i = idB key j) : i = j := by
  have h1 : ube 8 i = ube 8 j := by rw [← idB_back key i, ← idB_back key j, h]
  have := ube8_inj ⟨i, hi⟩ ⟨j, hj⟩ h1
  exact congrArg Fin.val this

/-- All IDs are active. -/
theorem actives_all (L : Loc) (k : Nat) (h : ∀ j, j < k → L.act j = true) : (L.actives k).length = k := by
  unfold Loc.actives
  rw [List.length_map, List.filter_eq_self.2 (fun j hj => h j (List.mem_range.1 hj)), List.length_range]

/-- A Local with n IDs, all active. -/
def locN (key : ByteArray) : Nat → Loc
  | 0 => Loc.mk key 0 (fun _ => false)
  | n + 1 => (locN key n).add
theorem locN_key (key : ByteArray) : ∀ n, (locN key n).key = key
  | 0 => rfl
  | n + 1 => locN_key key n
theorem locN_n (key : ByteArray) : ∀ n, (locN key n).n = n
  | 0 => rfl
  | n + 1 => by show (locN key n).n + 1 = n + 1; rw [locN_n key n]
theorem locN_act (key : ByteArray) : ∀ n j, j < n → (locN key n).act j = true
  | 0, _, h => absurd h (Nat.not_lt_zero _)
  | n + 1, j, h => by
    show (if j = (locN key n).n then true else (locN key n).act j) = true
    rw [locN_n]
    split
    · rfl
    · exact locN_act key n j (by omega)
theorem locN_actives (key : ByteArray) (n : Nat) : ((locN key n).actives (locN key n).n).length = n := by
  rw [locN_n]; exact actives_all _ n (locN_act key n)

end Go.Proofs.Ytmdfpknhfkgfoaa
