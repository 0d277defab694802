/- Contracts in the form that the laws of layer 2 use: results as byte arrays known by their sizes and by what they hold. -/
import Derived.Test.YtmdfpknhfkgfoaaSane2
namespace Go.Proofs.Ytmdfpknhfkgfoaa
open Go.RowKit

def StrN (n : Nat) (w : World) (e : Ending) (w' : World) : Prop := ∃ z : ByteArray, Hid (z.size = n) ∧ e = .returned (.string z) ∧ Below w.heap.size w w'

theorem bytes_str (s : ByteArray) (n : Nat) (w : World) (hs : s.size ≤ maxLen) (h1 : 1 ≤ n) (hn : n ≤ 64) :
    Calls Try.prog 14 #[.string s, .int .i64 n] w (StrN n w) :=
  (bytes_any s n w hs h1 hn).mono fun e w' ⟨l, hl, he, hb⟩ => ⟨⟨l.toArray⟩, by show _ = _; simp [ByteArray.size, hl], he, hb⟩

def CryptS (ord : Nat → Nat) (k b : ByteArray) (w : World) (e : Ending) (w' : World) : Prop :=
  ∃ a : ByteArray, Hid (a.size = 8) ∧ Hid (a.data.toList = crypt ord k.data.toList b.data.toList) ∧ e = .returned (.tuple #[.string a, .int .i64 0]) ∧ Below w.heap.size w w'

theorem CryptPost.some {ord : Nat → Nat} {k b : ByteArray} {w : World} {e : Ending} {w' : World} (h : CryptPost ord k b w e w') : CryptS ord k b w e w' :=
  ⟨⟨(crypt ord k.data.toList b.data.toList).toArray⟩, by show _ = _; simp [ByteArray.size, crypt_length], by show _ = _; simp, h.1, h.2⟩

theorem enc_some (k b : ByteArray) (w : World) (hk : Hid (k.size = 16)) (hb : Hid (b.size = 8)) :
    Calls Try.prog 15 #[.string k, .string b] w (CryptS ordE k b w) :=
  (encrypt_yes k b w hk.out hb.out).mono fun _ _ h => h.some

theorem dec_some (k b : ByteArray) (w : World) (hk : Hid (k.size = 16)) (hb : Hid (b.size = 8)) :
    Calls Try.prog 17 #[.string k, .string b] w (CryptS ordD k b w) :=
  (decrypt_yes k b w hk.out hb.out).mono fun _ _ h => h.some

theorem bytes_ext {a b : ByteArray} (h : a.data.toList = b.data.toList) : a = b := by
  apply ByteArray.ext
  exact Array.toList_inj.1 h

end Go.Proofs.Ytmdfpknhfkgfoaa
