/- Plain mathematics of the cipher's rounds: no program in sight. -/
import Derived.Test.YtmdfpknhfkgfoaaPlain
namespace Go.Proofs.Ytmdfpknhfkgfoaa

/-- The state after j steps; ord maps the number of a step to that of a round. -/
def steps (k ord : Nat → Nat) (s : Nat × Nat) : Nat → Nat × Nat
  | 0 => s
  | j + 1 => ((steps k ord s j).2, (steps k ord s j).1 ^^^ mix k (steps k ord s j).2 (ord j))

theorem steps_succ (k ord : Nat → Nat) (s : Nat × Nat) (j : Nat) : steps k ord s (j + 1) = ((steps k ord s j).2, (steps k ord s j).1 ^^^ mix k (steps k ord s j).2 (ord j)) := rfl

theorem steps_lt (k ord : Nat → Nat) (s : Nat × Nat) (hk : ∀ j, k j < 4294967296) (h1 : s.1 < 4294967296) (h2 : s.2 < 4294967296) : ∀ j, (steps k ord s j).1 < 4294967296 ∧ (steps k ord s j).2 < 4294967296
  | 0 => ⟨h1, h2⟩
  | j + 1 => ⟨(steps_lt k ord s hk h1 h2 j).2, Nat.xor_lt_two_pow (n := 32) (steps_lt k ord s hk h1 h2 j).1 (mix_lt k _ _ hk (steps_lt k ord s hk h1 h2 j).2)⟩

def ordE (i : Nat) : Nat := i
def ordD (i : Nat) : Nat := 7 - i

/-- What eight rounds in an order make of a block. -/
def crypt (ord : Nat → Nat) (key block : List UInt8) : List UInt8 :=
  ube 4 (steps (word key) ord (word block 0, word block 1) 8).2 ++ ube 4 (steps (word key) ord (word block 0, word block 1) 8).1

end Go.Proofs.Ytmdfpknhfkgfoaa
