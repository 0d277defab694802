/- Plain facts and uniform contracts for CIDDistinct. -/
import Derived.Test.YtmdfpknhfkgfoaaArgs7
import Derived.Deep.DeepCutAuto
import Derived.Deep.LoopGhost
namespace Go.Proofs.Ytmdfpknhfkgfoaa
open Go.RowKit Go.Shelf

theorem Loc.add_actives (L : Loc) : (L.add.actives L.add.n).length = (L.actives L.n).length + 1 := by
  have h1 : L.add.actives (L.n + 1) = L.add.actives L.n ++ [idB L.key L.n] := L.add.actives_yes L.n (by show (if L.n = L.n then true else _) = true; rw [if_pos rfl])
  have h2 : L.add.actives L.n = L.actives L.n := by
    unfold Loc.actives
    show ((List.range L.n).filter L.add.act).map (idB L.key) = _
    congr 1
    apply List.filter_congr
    intro j hj
    show (if j = L.n then true else L.act j) = L.act j
    rw [if_neg (by have := List.mem_range.1 hj; omega)]
  show (L.add.actives (L.n + 1)).length = _
  rw [h1, h2, List.length_append, List.length_singleton]

theorem Loc.retire_actives (L : Loc) (i : Nat) : ((L.retire i).actives (L.retire i).n).length ≤ (L.actives L.n).length := by
  unfold Loc.actives
  rw [List.length_map, List.length_map, ← List.countP_eq_length_filter, ← List.countP_eq_length_filter]
  refine List.countP_mono_left (fun j _ h => ?_)
  have h' : (if j = i then false else L.act j) = true := h
  split at h'
  · cases h'
  · exact h'

/-- Whatever Issue does. -/
def IssueAny (B : Nat) (L : Loc) (w : World) (e : Ending) (w' : World) : Prop :=
  ∃ (ty seq : Int) (c : ByteArray) (err : Int) (L' : Loc), e = .returned (.tuple #[frameV ty seq 0 c, .int .i64 err]) ∧ IsLoc B L' w' ∧ Only B w w' ∧
    ((err = 0 ∧ L' = L.add ∧ ty = 24 ∧ seq = L.n ∧ c = idB L.key L.n ∧ L.n < 32 ∧ (L.actives L.n).length < 4) ∨ (err = 71 ∧ L' = L ∧ ty = 0 ∧ seq = 0 ∧ c = ⟨#[]⟩ ∧ (L.n = 32 ∨ 4 ≤ (L.actives L.n).length)))

theorem issue_any (B : Nat) (L : Loc) (w : World) (hL : IsLoc B L w) :
    Calls Try.prog 38 #[.pointer (some ⟨B, 0, none⟩)] w (IssueAny B L w) := by
  by_cases h : L.n = 32
  · exact (issue_full B L w hL h).mono fun e w' ⟨he, h1, h2⟩ => ⟨0, 0, _, 71, L, he, h1, h2, .inr ⟨rfl, rfl, rfl, rfl, rfl, .inl h⟩⟩
  · have hlt : L.n < 32 := by have := hL.le; omega
    by_cases h4 : 4 ≤ (L.actives L.n).length
    · exact (issue_many B L w hL hlt h4).mono fun e w' ⟨he, h1, h2⟩ => ⟨0, 0, _, 71, L, he, h1, h2, .inr ⟨rfl, rfl, rfl, rfl, rfl, .inr h4⟩⟩
    · exact (issue_yes B L w hL hlt (by omega)).mono fun e w' ⟨he, h1, h2⟩ => ⟨24, L.n, _, 0, L.add, he, h1, h2, .inl ⟨rfl, rfl, rfl, rfl, rfl, hlt, by omega⟩⟩

/-- Whatever Retire does. -/
def RetireAny (B : Nat) (L : Loc) (i : Int) (w : World) (e : Ending) (w' : World) : Prop :=
  ∃ (err : Int) (L' : Loc), e = .returned (.int .i64 err) ∧ IsLoc B L' w' ∧ Only B w w' ∧ ((err = 0 ∧ ∃ n : Nat, i = n ∧ n < L.n ∧ L' = L.retire n) ∨ (err = 70 ∧ L' = L ∧ (i < 0 ∨ (L.n : Int) ≤ i)))

theorem retire_any (B : Nat) (i : Int) (L : Loc) (w : World) (hL : IsLoc B L w) :
    Calls Try.prog 41 #[.pointer (some ⟨B, 0, none⟩), .int .i64 i] w (RetireAny B L i w) := by
  by_cases h : i < 0 ∨ (L.n : Int) ≤ i
  · exact (retire_no B i L w hL h).mono fun e w' ⟨he, h1, h2⟩ => ⟨70, L, he, h1, h2, .inr ⟨rfl, rfl, h⟩⟩
  · obtain ⟨n, rfl⟩ : ∃ n : Nat, i = n := ⟨i.toNat, by omega⟩
    exact (retire_yes B n L w hL (by omega)).mono fun e w' ⟨he, h1, h2⟩ => ⟨0, L.retire n, he, h1, h2, .inl ⟨rfl, n, rfl, by omega, rfl⟩⟩

/-- The first n IDs. -/
def idsTo (k : ByteArray) (n : Nat) : List ByteArray := (List.range n).map (idB k)
theorem idsTo_len (k : ByteArray) (n : Nat) : (idsTo k n).length = n := by simp [idsTo]
theorem idsTo_succ (k : ByteArray) (n : Nat) : strVals (idsTo k (n + 1)) = strVals (idsTo k n) ++ [.string (idB k n)] := by simp [idsTo, strVals, List.range_succ]
theorem idsTo_get (k : ByteArray) (n m : Nat) (h : m < n) : (strVals (idsTo k n))[m]? = some (.string (idB k m)) := by simp [idsTo, strVals, h]

/-- Where the law stands between two calls. -/
structure DisAt (B : Nat) (k : ByteArray) (L : Loc) (n : Nat) (v : Value) (w W : World) : Prop where
  loc : IsLoc B L W
  key : L.key = k
  few : (L.actives L.n).length ≤ 4
  ids : W.ownsRow w.heap.size 9 1 v n (strVals (idsTo k n))
  below : Below w.heap.size w W

theorem DisAt.keeps {B : Nat} {k : ByteArray} {L L' : Loc} {n : Nat} {v : Value} {w W W' : World} (h : DisAt B k L n v w W) (hB : w.heap.size ≤ B) (hL : IsLoc B L' W') (ho : Only B W W') (hk : L'.key = k) (hf : (L'.actives L'.n).length ≤ 4) : DisAt B k L' n v w W' :=
  ⟨hL, hk, hf, ownsRow_keeps h.ids ho.keeps (h.loc.blk.ne_row (by decide) h.ids), ho.keeps.below h.below (fun i e => by rw [e]; exact hB) h.below.size⟩
theorem DisAt.of_below {B : Nat} {k : ByteArray} {L : Loc} {n : Nat} {v : Value} {w W W' : World} (h : DisAt B k L n v w W) (hb : Below W.heap.size W W') : DisAt B k L n v w W' :=
  ⟨h.loc.below hb, h.key, h.few, ownsRow_below h.ids hb, below_then h.below hb⟩
theorem DisAt.alloc {B : Nat} {k : ByteArray} {L : Loc} {n : Nat} {v : Value} {w W : World} (h : DisAt B k L n v w W) (o : Obj) : DisAt B k L n v w (W.alloc o) := h.of_below ((Below.refl _ _).alloc (Nat.le_refl _) _)
theorem DisAt.drew {B : Nat} {k : ByteArray} {L : Loc} {n : Nat} {v : Value} {w W : World} (h : DisAt B k L n v w W) : DisAt B k L n v w W.drew := h.of_below (Below.refl _ _).drew

end Go.Proofs.Ytmdfpknhfkgfoaa
