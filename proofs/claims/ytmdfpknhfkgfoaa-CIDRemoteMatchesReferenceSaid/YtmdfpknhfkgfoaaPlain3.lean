/- The plain laws of the cipher: the two directions invert each other. No program in sight. -/
import Derived.Test.YtmdfpknhfkgfoaaPlain2
namespace Go.Proofs.Ytmdfpknhfkgfoaa

theorem be_beUpto (w v : Nat) : ∀ j, j ≤ w → be (beUpto w v j) = v / 256 ^ (w - j) % 256 ^ j
  | 0, _ => by simp [beUpto, be, Nat.mod_one]
  | j + 1, h => by
    rw [beUpto_succ, be_snoc, be_beUpto w v j (by omega)]
    have e1 : w - j = (w - 1 - j) + 1 := by omega
    have e2 : w - (j + 1) = w - 1 - j := by omega
    rw [e1, e2, Nat.pow_succ, ← Nat.div_div_eq_div_mul]
    generalize hx : v / 256 ^ (w - 1 - j) = x
    have hb : (beByte w v j).toNat = x % 256 := by simp [beByte, hx]
    rw [hb, Nat.pow_succ, Nat.mul_comm (256 ^ j) 256, Nat.mod_mul]
    omega

theorem be_ube (w v : Nat) (h : v < 256 ^ w) : be (ube w v) = v := by
  unfold ube
  rw [be_beUpto w v w (Nat.le_refl _)]
  simp [Nat.mod_eq_of_lt h]

theorem be4 (a b c d : UInt8) : be [a, b, c, d] = a.toNat * 16777216 + b.toNat * 65536 + c.toNat * 256 + d.toNat := by
  simp [be]; omega

theorem ube4 (v : Nat) : ube 4 v = [UInt8.ofNat (v / 16777216), UInt8.ofNat (v / 65536), UInt8.ofNat (v / 256), UInt8.ofNat v] := by
  simp [ube, beUpto, List.range_succ, beByte]

theorem ube_be4 (a b c d : UInt8) : ube 4 (be [a, b, c, d]) = [a, b, c, d] := by
  have ha := a.toNat_lt
  have hb := b.toNat_lt
  have hc := c.toNat_lt
  have hd := d.toNat_lt
  rw [ube4, be4]
  simp only [List.cons.injEq, and_true]
  refine ⟨?_, ?_, ?_, ?_⟩ <;> (apply UInt8.toNat_inj.1; simp; try omega)

theorem word_ube0 (a b : Nat) (ha : a < 4294967296) : word (ube 4 a ++ ube 4 b) 0 = a := by
  unfold word
  rw [Nat.mul_zero, List.drop_zero, List.take_left' (ube_length 4 a)]
  exact be_ube 4 a ha

theorem word_ube1 (a b : Nat) (hb : b < 4294967296) : word (ube 4 a ++ ube 4 b) 1 = b := by
  unfold word
  rw [Nat.mul_one, List.drop_left' (ube_length 4 a), List.take_of_length_le (by rw [ube_length]; exact Nat.le_refl _)]
  exact be_ube 4 b hb

theorem eight (l : List UInt8) (h : l.length = 8) : ∃ a b c d e f g i, l = [a, b, c, d, e, f, g, i] := by
  match l, h with
  | [a, b, c, d, e, f, g, i], _ => exact ⟨a, b, c, d, e, f, g, i, rfl⟩

theorem ube_words (l : List UInt8) (h : l.length = 8) : ube 4 (word l 0) ++ ube 4 (word l 1) = l := by
  obtain ⟨a, b, c, d, e, f, g, i, rfl⟩ := eight l h
  have e0 : word [a, b, c, d, e, f, g, i] 0 = be [a, b, c, d] := rfl
  have e1 : word [a, b, c, d, e, f, g, i] 1 = be [e, f, g, i] := rfl
  rw [e0, e1, ube_be4, ube_be4]
  rfl

theorem crypt_length (ord : Nat → Nat) (key block : List UInt8) : (crypt ord key block).length = 8 := by
  unfold crypt; rw [List.length_append, ube_length, ube_length]

theorem xor_back (a b : Nat) : a ^^^ b ^^^ b = a := by rw [Nat.xor_assoc, Nat.xor_self, Nat.xor_zero]

theorem steps_back (k ord ord' : Nat → Nat) (ho : ∀ j, j < 8 → ord' j = ord (7 - j)) (s : Nat × Nat) :
    ∀ j, j ≤ 8 → steps k ord' ((steps k ord s 8).2, (steps k ord s 8).1) j = ((steps k ord s (8 - j)).2, (steps k ord s (8 - j)).1)
  | 0, _ => rfl
  | j + 1, h => by
    rw [steps_succ, steps_back k ord ord' ho s j (by omega)]
    have e : 8 - j = (8 - (j + 1)) + 1 := by omega
    rw [e, steps_succ, ho j (by omega)]
    have e2 : 7 - j = 8 - (j + 1) := by omega
    simp only [e2, xor_back]

theorem crypt_inv (ord ord' : Nat → Nat) (ho : ∀ j, j < 8 → ord' j = ord (7 - j)) (key block : List UInt8) (hb : block.length = 8) :
    crypt ord' key (crypt ord key block) = block := by
  have hl := steps_lt (word key) ord (word block 0, word block 1) (word_lt _) (word_lt _ _) (word_lt _ _) 8
  have e0 : word (crypt ord key block) 0 = (steps (word key) ord (word block 0, word block 1) 8).2 := word_ube0 _ _ hl.2
  have e1 : word (crypt ord key block) 1 = (steps (word key) ord (word block 0, word block 1) 8).1 := word_ube1 _ _ hl.1
  show ube 4 (steps (word key) ord' (word (crypt ord key block) 0, word (crypt ord key block) 1) 8).2 ++ ube 4 (steps (word key) ord' (word (crypt ord key block) 0, word (crypt ord key block) 1) 8).1 = block
  rw [e0, e1, steps_back (word key) ord ord' ho _ 8 (Nat.le_refl _)]
  exact ube_words block hb

theorem dec_enc (key block : List UInt8) (hb : block.length = 8) : crypt ordD key (crypt ordE key block) = block :=
  crypt_inv ordE ordD (fun _ _ => rfl) key block hb

theorem enc_dec (key block : List UInt8) (hb : block.length = 8) : crypt ordE key (crypt ordD key block) = block :=
  crypt_inv ordD ordE (fun j hj => by unfold ordE ordD; omega) key block hb

theorem enc_inj (key a b : List UInt8) (ha : a.length = 8) (hb : b.length = 8) : crypt ordE key a = crypt ordE key b ↔ a = b :=
  ⟨fun h => by rw [← dec_enc key a ha, h, dec_enc key b hb], fun h => by rw [h]⟩

theorem dec_inj (key a b : List UInt8) (ha : a.length = 8) (hb : b.length = 8) : crypt ordD key a = crypt ordD key b ↔ a = b :=
  ⟨fun h => by rw [← enc_dec key a ha, h, enc_dec key b hb], fun h => by rw [h]⟩

end Go.Proofs.Ytmdfpknhfkgfoaa
