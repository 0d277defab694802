/- Plain mathematics of the cipher and of big-endian numbers: no program in sight. -/
import Derived.WalkKit
namespace Go.Proofs.Ytmdfpknhfkgfoaa

/-- The number that bytes denote, the most significant byte first. -/
def be (l : List UInt8) : Nat := l.foldl (fun n b => n * 256 + b.toNat) 0

theorem be_snoc (l : List UInt8) (b : UInt8) : be (l ++ [b]) = be l * 256 + b.toNat := by simp [be]

theorem be_fold (l : List UInt8) : ∀ n : Nat, l.foldl (fun n b => n * 256 + b.toNat) n < (n + 1) * 256 ^ l.length := by
  induction l with
  | nil => intro n; simp
  | cons b l ih =>
    intro n
    have hb := b.toNat_lt
    have e : (n + 1) * 256 ^ (l.length + 1) = ((n + 1) * 256) * 256 ^ l.length := by rw [Nat.pow_succ, Nat.mul_comm (256 ^ l.length) 256, ← Nat.mul_assoc]
    rw [List.foldl_cons, List.length_cons, e]
    exact Nat.lt_of_lt_of_le (ih _) (Nat.mul_le_mul_right _ (by omega))

theorem be_lt (l : List UInt8) : be l < 256 ^ l.length := by
  have := be_fold l 0
  simpa [be] using this

theorem take_drop_snoc (l : List UInt8) (a k : Nat) (h : a + k < l.length) :
    (l.drop a).take (k + 1) = (l.drop a).take k ++ [l[a + k]] := by
  rw [List.take_succ_eq_append_getElem (by simp; omega)]
  simp

theorem shl_or (x : Nat) (b : UInt8) (h : x < 72057594037927936) : bits .or .u64 (IntKind.u64.wrap ((x : Int) * 256)) (IntKind.u64.wrap (b.toNat : Int)) = ((x * 256 + b.toNat : Nat) : Int) := by
  have hb := b.toNat_lt
  rw [IntKind.wrap_u64, IntKind.wrap_u64]
  have e1 : (x : Int) * 256 % 18446744073709551616 = ((x * 256 : Nat) : Int) := by omega
  have e2 : (b.toNat : Int) % 18446744073709551616 = ((b.toNat : Nat) : Int) := by omega
  rw [e1, e2, u64_or_nat _ _ (by omega) (by omega), nat_join 8 _ _ (by omega) (by omega)]

/-- The word number i of bytes. -/
def word (l : List UInt8) (i : Nat) : Nat := be ((l.drop (4 * i)).take 4)

theorem word_lt (l : List UInt8) (i : Nat) : word l i < 4294967296 := by
  refine Nat.lt_of_lt_of_le (be_lt _) ?_
  have hl : (List.take 4 (List.drop (4 * i) l)).length ≤ 4 := by simp; omega
  exact Nat.le_trans (Nat.pow_le_pow_right (by decide) hl) (by decide)

/-- The first c words of bytes, as values. -/
def wordVals (l : List UInt8) (c : Nat) : List Value := (List.range c).map fun i => Value.int .u32 (word l i : Nat)

theorem wordVals_succ (l : List UInt8) (c : Nat) : wordVals l (c + 1) = wordVals l c ++ [Value.int .u32 (word l c : Nat)] := by
  simp [wordVals, List.range_succ]

theorem wordVals_length (l : List UInt8) (c : Nat) : (wordVals l c).length = c := by simp [wordVals]

/-- 32 bits rotated to the left by n. -/
def rotl (x n : Nat) : Nat := (x * 2 ^ n) % 4294967296 ||| x / 2 ^ (32 - n)

theorem rotl_lt (x n : Nat) (hx : x < 4294967296) : rotl x n < 4294967296 := by
  unfold rotl
  refine Nat.or_lt_two_pow (n := 32) (Nat.mod_lt _ (by decide)) (Nat.lt_of_le_of_lt (Nat.div_le_self _ _) hx)

theorem rot_val7 (x : Nat) (hx : x < 4294967296) : bits .or .u32 ((x : Int) * 128 % 4294967296) ((x : Int) / 33554432) = (rotl x 7 : Nat) := by
  have e1 : (x : Int) * 128 % 4294967296 = ((x * 2 ^ 7 % 4294967296 : Nat) : Int) := by omega
  have e2 : (x : Int) / 33554432 = ((x / 2 ^ (32 - 7) : Nat) : Int) := by omega
  rw [e1, e2, u32_or_nat _ _ (Nat.mod_lt _ (by decide)) (Nat.lt_of_le_of_lt (Nat.div_le_self _ _) hx)]
  rfl

theorem rot_val18 (x : Nat) (hx : x < 4294967296) : bits .or .u32 ((x : Int) * 262144 % 4294967296) ((x : Int) / 16384) = (rotl x 18 : Nat) := by
  have e1 : (x : Int) * 262144 % 4294967296 = ((x * 2 ^ 18 % 4294967296 : Nat) : Int) := by omega
  have e2 : (x : Int) / 16384 = ((x / 2 ^ (32 - 18) : Nat) : Int) := by omega
  rw [e1, e2, u32_or_nat _ _ (Nat.mod_lt _ (by decide)) (Nat.lt_of_le_of_lt (Nat.div_le_self _ _) hx)]
  rfl

/-- The argument of the first rotation in a round. -/
def mixIn (k : Nat → Nat) (r i : Nat) : Nat := (r + k (i % 4) + 2654435769 * (i + 1)) % 4294967296

/-- The round function. -/
def mix (k : Nat → Nat) (r i : Nat) : Nat := rotl (mixIn k r i) 7 ^^^ rotl r 18 ^^^ k ((i + 1) % 4)

theorem mixIn_lt (k : Nat → Nat) (r i : Nat) : mixIn k r i < 4294967296 := Nat.mod_lt _ (by decide)

theorem mix_lt (k : Nat → Nat) (r i : Nat) (hk : ∀ j, k j < 4294967296) (hr : r < 4294967296) : mix k r i < 4294967296 :=
  Nat.xor_lt_two_pow (n := 32) (Nat.xor_lt_two_pow (n := 32) (rotl_lt _ _ (mixIn_lt _ _ _)) (rotl_lt _ _ hr)) (hk _)

theorem mix_val (k : Nat → Nat) (r i : Nat) (hk : ∀ j, k j < 4294967296) (hr : r < 4294967296) :
    bits .xor .u32 (bits .xor .u32 (rotl (mixIn k r i) 7 : Nat) (rotl r 18 : Nat)) (k ((i + 1) % 4) : Nat) = (mix k r i : Nat) := by
  rw [u32_xor_nat _ _ (rotl_lt _ _ (mixIn_lt _ _ _)) (rotl_lt _ _ hr), u32_xor_nat _ _ (Nat.xor_lt_two_pow (n := 32) (rotl_lt _ _ (mixIn_lt _ _ _)) (rotl_lt _ _ hr)) (hk _)]
  rfl

/-- The last c of the c-byte big-endian bytes of v: byte number j from the left of width bytes. -/
def beByte (width v j : Nat) : UInt8 := UInt8.ofNat (v / 256 ^ (width - 1 - j))

/-- The first j bytes of v in width bytes, big-endian. -/
def beUpto (width v j : Nat) : List UInt8 := (List.range j).map (beByte width v)

theorem beUpto_succ (width v j : Nat) : beUpto width v (j + 1) = beUpto width v j ++ [beByte width v j] := by simp [beUpto, List.range_succ]

theorem beUpto_length (width v j : Nat) : (beUpto width v j).length = j := by simp [beUpto]

/-- v in width bytes, big-endian. -/
def ube (width v : Nat) : List UInt8 := beUpto width v width

theorem ube_length (width v : Nat) : (ube width v).length = width := beUpto_length _ _ _

theorem beUpto_prefix (width v j : Nat) (h : j ≤ width) : beUpto width v j <+: ube width v := by
  refine ⟨(List.range' j (width - j)).map (beByte width v), ?_⟩
  unfold ube beUpto
  rw [← List.map_append]
  congr 1
  rw [List.range_eq_range', List.range_eq_range']
  have := List.range'_append_1 (s := 0) (m := j) (n := width - j)
  simpa [Nat.add_sub_cancel' h] using this

theorem beByte_val (width v j : Nat) (hw : width ≤ 8) (hj : j < width) : IntKind.u8.wrap ((v : Int) / 2 ^ min (8 * (width - 1 - j)) 64) = ((beByte width v j).toNat : Int) := by
  have hm : min (8 * (width - 1 - j)) 64 = 8 * (width - 1 - j) := by omega
  rw [hm, IntKind.wrap_u8']
  have e : (2 : Int) ^ (8 * (width - 1 - j)) = ((256 ^ (width - 1 - j) : Nat) : Int) := by
    rw [Nat.pow_mul (a := 2) (m := 8) |> fun h => (by rw [show (256 : Nat) = 2 ^ 8 from rfl, ← Nat.pow_mul]; simp : ((256 ^ (width - 1 - j) : Nat) : Int) = (2 : Int) ^ (8 * (width - 1 - j)))]
  rw [e]
  simp [beByte]

end Go.Proofs.Ytmdfpknhfkgfoaa
