/- Merged: Sane7 Args7 Dis Pair PKeys PMu PMuM PMuW. -/
import Derived.Test.YtmdfpknhfkgfoaaDoorLaw7
import Derived.Deep.Slices
import Derived.Deep.Fields
import Derived.ChangeSame
import Derived.Carry
import Derived.OpenShut
import Derived.Deep.DeepCutAuto
import Derived.Deep.LoopGhost
import Derived.Test.YtmdfpknhfkgfoaaDoorBytes
import Derived.Laws.BytesArg
import Derived.StillTailTactics
import Derived.Deep.Draws
import Derived.Deep.MidRow
import Derived.OwnWalk
import Derived.IntWalk
import Derived.Test.YtmdfpknhfkgfoaaDoorPthAll
import Derived.Deep.CutBlock
import Derived.Deep.RegionHeld3
/- law07's sane. -/
namespace Go.Proofs.YtmdfpknhfkgfoaaDoor
open Go.RowKit Go.Shelf

theorem IsLoc.keeps {S : Nat → Prop} {B : Nat} {L : Loc} {w w' : World} (h : IsLoc B L w) (hk : Keeps S w w') (hB : ¬ S B) : IsLoc B L w' := ⟨h.blk.keeps hk hB, h.le, h.key⟩
theorem IsLoc.below {B : Nat} {L : Loc} {w w' : World} (h : IsLoc B L w) (hb : Below w.heap.size w w') : IsLoc B L w' := h.keeps (S := fun _ => False) (Keeps.of_below hb) (fun h => h)
theorem IsLoc.alloc {B : Nat} {L : Loc} {w : World} (h : IsLoc B L w) (o : Obj) : IsLoc B L (w.alloc o) := h.below ((Below.refl _ _).alloc (Nat.le_refl _) o)

/-- Issue, while all are active. -/
theorem issue_loc (B : Nat) (key : ByteArray) (n : Nat) (w : World) (hL : IsLoc B (locN key n) w) (h : n < 4) :
    Calls Tryd.prog 37 #[.pointer (some ⟨B, 0, none⟩)] w (IssuePost B (locN key (n + 1)) (frameV 24 n 0 (idB key n)) 0 w) := by
  have := issue_yes B (locN key n) w hL (by rw [locN_n]; omega) (by rw [locN_actives]; exact h)
  rw [locN_n, locN_key] at this
  exact this
theorem issue_loc4 (B : Nat) (key : ByteArray) (w : World) (hL : IsLoc B (locN key 4) w) :
    Calls Tryd.prog 37 #[.pointer (some ⟨B, 0, none⟩)] w (IssuePost B (locN key 4) (frameV 0 0 0 ⟨#[]⟩) 71 w) :=
  issue_many B (locN key 4) w hL (by rw [locN_n]; decide) (by rw [locN_actives]; decide)

theorem heap_keeps {S : Nat → Prop} {w w' : World} {b : Nat} {o : Obj} (h : w.heap[b]? = some o) (hk : Keeps S w w') (hS : ¬ S b) : w'.heap[b]? = some o := (hk.block b (Array.getElem?_eq_some_iff.1 h).1 hS).trans h
theorem heap_below {w w' : World} {b : Nat} {o : Obj} (h : w.heap[b]? = some o) (hb : Below w.heap.size w w') : w'.heap[b]? = some o := heap_keeps (S := fun _ => False) h (Keeps.of_below hb) (fun h => h)
theorem heap_alloc {w : World} {b : Nat} {o : Obj} (h : w.heap[b]? = some o) (o' : Obj) : (w.alloc o').heap[b]? = some o := heap_below h ((Below.refl _ _).alloc (Nat.le_refl _) _)
theorem below_alloc {w a : World} (h : Below w.heap.size w a) (o : Obj) : Below w.heap.size w (a.alloc o) := h.alloc h.size o

/-- A frame's cells. -/
abbrev frameC (ty seq ret : Int) (c : ByteArray) : Array Value := #[.int .i64 ty, .int .i64 0, .int .i64 0, .string ⟨#[]⟩, .bool false, .int .i64 0, .int .i64 0, .bool false, .int .i64 0, .slice none 0 0, .int .i64 seq, .int .i64 ret, .string c]

end Go.Proofs.YtmdfpknhfkgfoaaDoor


/- The argument of law07's statements: a slice of CallParams, as it lies in memory. -/
namespace Go.Proofs.YtmdfpknhfkgfoaaDoor
open Go.RowKit Go.Shelf Go.ChangeShapes Go.WideShapes

/-- The parameters of a call. -/
structure Call7 where
  kind : Nat
  n : Int
  other : Int
  ty : Int
  v : Nat → Value
  seq : Int
  ret : Int
  cid : ByteArray

def Call7.at (C : Call7) (j : Nat) : Value :=
  if j = 0 then .int .u8 C.kind else if j = 1 then .int .i64 C.n else if j = 2 then .int .i64 C.other else if j = 3 then .int .i64 C.ty
  else if j = 13 then .int .i64 C.seq else if j = 14 then .int .i64 C.ret else if j = 15 then .string C.cid else C.v (j - 3)

def in64 (z : Int) : Prop := -9223372036854775808 ≤ z ∧ z ≤ 9223372036854775807

structure Call7.ok (C : Call7) : Prop where
  kind : C.kind < 256
  n : in64 C.n
  other : in64 C.other
  ty : in64 C.ty
  seq : in64 C.seq
  ret : in64 C.ret
  cid : C.cid.size ≤ maxLen

/-- The calls lie in memory as the slice says. -/
def ArgCalls (a : Option Addr) (len : Nat) (C : Nat → Call7) (w : World) : Prop :=
  ∀ i, i < len → (C i).ok ∧ ∃ b o, a = some ⟨b, o, none⟩ ∧ b < w.heap.size ∧ ∀ j, j < 16 → w.cell? ⟨b, o + i * 16 + j, none⟩ = some ((C i).at j)

theorem ArgCalls.below {a : Option Addr} {len : Nat} {C : Nat → Call7} {w w' : World} (h : ArgCalls a len C w) (hb : Below w.heap.size w w') : ArgCalls a len C w' := fun i hi => by
  obtain ⟨h1, b, o, h2, h3, h4⟩ := h i hi
  exact ⟨h1, b, o, h2, Nat.lt_of_lt_of_le h3 hb.size, fun j hj => (hb.cell (p := ⟨b, _, none⟩) h3).trans (h4 j hj)⟩

theorem cells_frame : Tryd.prog.cellsOf 79 = 13 := by kernel_rfl
theorem cells_int : Tryd.prog.cellsOf 3 = 1 := by kernel_rfl
theorem cells_u8 : Tryd.prog.cellsOf 5 = 1 := by kernel_rfl
theorem cells_str : Tryd.prog.cellsOf 9 = 1 := by kernel_rfl

theorem wf_64 {n : Int} (h : (Lit.int .i64 n).wf = true) : in64 n := bounds_i64 h
theorem wf_u8 {n : Int} (h : (Lit.int .u8 n).wf = true) : 0 ≤ n ∧ n < 256 := by
  have := bounds_u8 h
  omega

theorem drop_take1 {cs : List Value} {k : Nat} {v : Value} (h : (cs.drop k).take 1 = [v]) : cs[k]? = some v := by
  have : ((cs.drop k).take 1)[0]? = some v := by rw [h]; rfl
  simpa [List.getElem?_take, List.getElem?_drop] using this

section
variable {H : Type} {enc : TypeId × Value → H} {w : World} {base : Nat} {spare : Nat → Bool} {held : Bool}

theorem int_field {fs : Array Field} {xs : List (DataW H × List MemPlace)} {n : Nat} {cs : List Value} (hl : xs.length = fs.size)
    (hf : ∀ (i : Nat) (f : Field), fs[i]? = some f → DataW.trod enc Tryd.prog w base spare held n f.type ((cs.drop f.offset).take (Tryd.prog.cellsOf f.type)) = xs[i]?)
    (i : Nat) (f : Field) (hi : fs[i]? = some f) (k : IntKind) (hu : Tryd.prog.underlying f.type = some (.int k)) (hc : Tryd.prog.cellsOf f.type = 1) :
    ∃ z, cs[f.offset]? = some (.int k z) ∧ (Lit.int k z).wf = true := by
  have hlt : i < xs.length := by rw [hl]; exact (Array.getElem?_eq_some_iff.1 hi).1
  have h := hf i f hi
  rw [List.getElem?_eq_getElem hlt, hc] at h
  obtain ⟨z, h1, _, h3⟩ := DataW.trod_int hu h
  exact ⟨z, drop_take1 h1, h3⟩

theorem str_field {fs : Array Field} {xs : List (DataW H × List MemPlace)} {n : Nat} {cs : List Value} (hl : xs.length = fs.size)
    (hf : ∀ (i : Nat) (f : Field), fs[i]? = some f → DataW.trod enc Tryd.prog w base spare held n f.type ((cs.drop f.offset).take (Tryd.prog.cellsOf f.type)) = xs[i]?)
    (i : Nat) (f : Field) (hi : fs[i]? = some f) (hu : Tryd.prog.underlying f.type = some .string) (hc : Tryd.prog.cellsOf f.type = 1) :
    ∃ s : ByteArray, cs[f.offset]? = some (.string s) ∧ s.size ≤ maxLen := by
  have hlt : i < xs.length := by rw [hl]; exact (Array.getElem?_eq_some_iff.1 hi).1
  have h := hf i f hi
  rw [List.getElem?_eq_getElem hlt, hc] at h
  obtain ⟨z, h1, _, h3⟩ := DataW.trod_string hu h
  exact ⟨z, drop_take1 h1, h3⟩

end

end Go.Proofs.YtmdfpknhfkgfoaaDoor


/- Plain facts and uniform contracts for CIDDistinct. -/
namespace Go.Proofs.YtmdfpknhfkgfoaaDoor
open Go.RowKit Go.Shelf

theorem Loc.add_actives (L : Loc) : (L.add.actives L.add.n).length = (L.actives L.n).length + 1 := by
  have h1 : L.add.actives (L.n + 1) = L.add.actives L.n ++ [idB L.key L.n] := L.add.actives_yes L.n (by show (if L.n = L.n then true else _) = true; rw [if_pos rfl])
  have h2 : L.add.actives L.n = L.actives L.n := by
    unfold Loc.actives
    show ((List.range L.n).filter L.add.act).map (idB L.key) = _
    congr 1
    apply List.filter_congr
    intro j hj
    show (if j = L.n then true else L.act j) = L.act j
    rw [if_neg (by have := List.mem_range.1 hj; omega)]
  show (L.add.actives (L.n + 1)).length = _
  rw [h1, h2, List.length_append, List.length_singleton]

theorem Loc.retire_actives (L : Loc) (i : Nat) : ((L.retire i).actives (L.retire i).n).length ≤ (L.actives L.n).length := by
  unfold Loc.actives
  rw [List.length_map, List.length_map, ← List.countP_eq_length_filter, ← List.countP_eq_length_filter]
  refine List.countP_mono_left (fun j _ h => ?_)
  have h' : (if j = i then false else L.act j) = true := h
  split at h'
  · cases h'
  · exact h'

/-- Whatever Issue does. -/
def IssueAny (B : Nat) (L : Loc) (w : World) (e : Ending) (w' : World) : Prop :=
  ∃ (ty seq : Int) (c : ByteArray) (err : Int) (L' : Loc), e = .returned (.tuple #[frameV ty seq 0 c, .int .i64 err]) ∧ IsLoc B L' w' ∧ Only B w w' ∧
    ((err = 0 ∧ L' = L.add ∧ ty = 24 ∧ seq = L.n ∧ c = idB L.key L.n ∧ L.n < 32 ∧ (L.actives L.n).length < 4) ∨ (err = 71 ∧ L' = L ∧ ty = 0 ∧ seq = 0 ∧ c = ⟨#[]⟩ ∧ (L.n = 32 ∨ 4 ≤ (L.actives L.n).length)))

theorem issue_any (B : Nat) (L : Loc) (w : World) (hL : IsLoc B L w) :
    Calls Tryd.prog 37 #[.pointer (some ⟨B, 0, none⟩)] w (IssueAny B L w) := by
  by_cases h : L.n = 32
  · exact (issue_full B L w hL h).mono fun e w' ⟨he, h1, h2⟩ => ⟨0, 0, _, 71, L, he, h1, h2, .inr ⟨rfl, rfl, rfl, rfl, rfl, .inl h⟩⟩
  · have hlt : L.n < 32 := by have := hL.le; omega
    by_cases h4 : 4 ≤ (L.actives L.n).length
    · exact (issue_many B L w hL hlt h4).mono fun e w' ⟨he, h1, h2⟩ => ⟨0, 0, _, 71, L, he, h1, h2, .inr ⟨rfl, rfl, rfl, rfl, rfl, .inr h4⟩⟩
    · exact (issue_yes B L w hL hlt (by omega)).mono fun e w' ⟨he, h1, h2⟩ => ⟨24, L.n, _, 0, L.add, he, h1, h2, .inl ⟨rfl, rfl, rfl, rfl, rfl, hlt, by omega⟩⟩

/-- Whatever Retire does. -/
def RetireAny (B : Nat) (L : Loc) (i : Int) (w : World) (e : Ending) (w' : World) : Prop :=
  ∃ (err : Int) (L' : Loc), e = .returned (.int .i64 err) ∧ IsLoc B L' w' ∧ Only B w w' ∧ ((err = 0 ∧ ∃ n : Nat, i = n ∧ n < L.n ∧ L' = L.retire n) ∨ (err = 70 ∧ L' = L ∧ (i < 0 ∨ (L.n : Int) ≤ i)))

theorem retire_any (B : Nat) (i : Int) (L : Loc) (w : World) (hL : IsLoc B L w) :
    Calls Tryd.prog 41 #[.pointer (some ⟨B, 0, none⟩), .int .i64 i] w (RetireAny B L i w) := by
  by_cases h : i < 0 ∨ (L.n : Int) ≤ i
  · exact (retire_no B i L w hL h).mono fun e w' ⟨he, h1, h2⟩ => ⟨70, L, he, h1, h2, .inr ⟨rfl, rfl, h⟩⟩
  · obtain ⟨n, rfl⟩ : ∃ n : Nat, i = n := ⟨i.toNat, by omega⟩
    exact (retire_yes B n L w hL (by omega)).mono fun e w' ⟨he, h1, h2⟩ => ⟨0, L.retire n, he, h1, h2, .inl ⟨rfl, n, rfl, by omega, rfl⟩⟩

/-- The first n IDs. -/
def idsTo (k : ByteArray) (n : Nat) : List ByteArray := (List.range n).map (idB k)
theorem idsTo_len (k : ByteArray) (n : Nat) : (idsTo k n).length = n := by simp [idsTo]
theorem idsTo_succ (k : ByteArray) (n : Nat) : strVals (idsTo k (n + 1)) = strVals (idsTo k n) ++ [.string (idB k n)] := by simp [idsTo, strVals, List.range_succ]
theorem idsTo_get (k : ByteArray) (n m : Nat) (h : m < n) : (strVals (idsTo k n))[m]? = some (.string (idB k m)) := by simp [idsTo, strVals, h]

/-- Where the law stands between two calls. -/
structure DisAt (B : Nat) (k : ByteArray) (L : Loc) (n : Nat) (v : Value) (w W : World) : Prop where
  loc : IsLoc B L W
  key : L.key = k
  few : (L.actives L.n).length ≤ 4
  ids : W.ownsRow w.heap.size 9 1 v n (strVals (idsTo k n))
  below : Below w.heap.size w W

theorem DisAt.keeps {B : Nat} {k : ByteArray} {L L' : Loc} {n : Nat} {v : Value} {w W W' : World} (h : DisAt B k L n v w W) (hB : w.heap.size ≤ B) (hL : IsLoc B L' W') (ho : Only B W W') (hk : L'.key = k) (hf : (L'.actives L'.n).length ≤ 4) : DisAt B k L' n v w W' :=
  ⟨hL, hk, hf, ownsRow_keeps h.ids ho.keeps (h.loc.blk.ne_row (by decide) h.ids), ho.keeps.below h.below (fun i e => by rw [e]; exact hB) h.below.size⟩
theorem DisAt.of_below {B : Nat} {k : ByteArray} {L : Loc} {n : Nat} {v : Value} {w W W' : World} (h : DisAt B k L n v w W) (hb : Below W.heap.size W W') : DisAt B k L n v w W' :=
  ⟨h.loc.below hb, h.key, h.few, ownsRow_below h.ids hb, below_then h.below hb⟩
theorem DisAt.alloc {B : Nat} {k : ByteArray} {L : Loc} {n : Nat} {v : Value} {w W : World} (h : DisAt B k L n v w W) (o : Obj) : DisAt B k L n v w (W.alloc o) := h.of_below ((Below.refl _ _).alloc (Nat.le_refl _) _)
theorem DisAt.drew {B : Nat} {k : ByteArray} {L : Loc} {n : Nat} {v : Value} {w W : World} (h : DisAt B k L n v w W) : DisAt B k L n v w W.drew := h.of_below (Below.refl _ _).drew

end Go.Proofs.YtmdfpknhfkgfoaaDoor


/- Plain law of CIDPairAgrees: what holds between a Local and a Remote that is given its frames. -/
namespace Go.Proofs.YtmdfpknhfkgfoaaDoor
open Go.RowKit Go.Shelf

/-! ### hits -/
theorem hits_mem (p : Nat → Bool) : ∀ (m : Nat) (x : Fin 32), x ∈ hits p m ↔ x.val < m ∧ p x.val = true := by
  intro m
  induction m with
  | zero => intro x; simp [hits]
  | succ m ih =>
    intro x
    by_cases h : m < 32
    · cases hp : p m with
      | true =>
        rw [hits_yes p m h hp, List.mem_append, ih, List.mem_singleton]
        constructor
        · rintro (⟨h1, h2⟩ | rfl)
          · exact ⟨by omega, h2⟩
          · exact ⟨Nat.lt_succ_self _, hp⟩
        · rintro ⟨h1, h2⟩
          by_cases e : x.val = m
          · exact .inr (Fin.ext e)
          · exact .inl ⟨by omega, h2⟩
      | false =>
        rw [hits_no p m hp, ih]
        constructor
        · rintro ⟨h1, h2⟩; exact ⟨by omega, h2⟩
        · rintro ⟨h1, h2⟩
          refine ⟨?_, h2⟩
          by_cases e : x.val = m
          · rw [e, hp] at h2; cases h2
          · omega
    · have e : hits p (m + 1) = hits p m := by simp [hits, h]
      rw [e, ih]
      have := x.isLt
      constructor
      · rintro ⟨h1, h2⟩; exact ⟨by omega, h2⟩
      · rintro ⟨h1, h2⟩; exact ⟨by omega, h2⟩

theorem hits_len (p : Nat → Bool) : ∀ m, m ≤ 32 → (hits p m).length = (List.range m).countP p := by
  intro m
  induction m with
  | zero => intro _; rfl
  | succ m ih =>
    intro h
    rw [List.range_succ, List.countP_append]
    cases hp : p m with
    | true => rw [hits_yes p m (by omega) hp, List.length_append, ih (by omega)]; simp [hp]
    | false => rw [hits_no p m hp, ih (by omega)]; simp [hp]

theorem hits_one_aux (p : Nat → Bool) (c : Fin 32) (hp : ∀ j, j < 32 → (p j = true ↔ j = c.val)) : ∀ m, m ≤ 32 → hits p m = if c.val < m then [c] else [] := by
  intro m
  induction m with
  | zero => intro _; rfl
  | succ m ih =>
    intro h
    by_cases e : m = c.val
    · have h1 : p m = true := (hp m (by omega)).2 e
      rw [hits_yes p m (by omega) h1, ih (by omega), if_neg (by omega), if_pos (by omega)]
      simp [e]
    · have h1 : p m = false := by
        cases hq : p m with
        | false => rfl
        | true => exact absurd ((hp m (by omega)).1 hq) e
      rw [hits_no p m h1, ih (by omega)]
      by_cases e2 : c.val < m
      · rw [if_pos e2, if_pos (by omega)]
      · rw [if_neg e2, if_neg (by omega)]

theorem hits_one (p : Nat → Bool) (c : Fin 32) (hp : ∀ j, j < 32 → (p j = true ↔ j = c.val)) : hits p 32 = [c] := by
  rw [hits_one_aux p c hp 32 (Nat.le_refl _), if_pos c.isLt]

theorem isIn_iff (E : Ent) (s j : Nat) : E.isIn s j = true ↔ E.st j = s := by unfold Ent.isIn; exact beq_iff_eq

/-! ### Counting -/
theorem countP_or (p q : Nat → Bool) : ∀ l : List Nat, (∀ x ∈ l, ¬ (p x = true ∧ q x = true)) → l.countP (fun x => p x || q x) = l.countP p + l.countP q := by
  intro l
  induction l with
  | nil => intro _; rfl
  | cons a l ih =>
    intro h
    have h1 := ih (fun x hx => h x (List.mem_cons_of_mem _ hx))
    have h2 := h a (List.mem_cons_self ..)
    simp only [List.countP_cons]
    rw [h1]
    cases hp : p a <;> cases hq : q a <;> simp_all <;> omega

theorem countP_one (c : Nat) : ∀ n, c < n → (List.range n).countP (fun x => x == c) = 1 := by
  have aux : ∀ n, (List.range n).countP (fun x => x == c) = if c < n then 1 else 0 := by
    intro n
    induction n with
    | zero => rfl
    | succ n ih =>
      rw [List.range_succ, List.countP_append, ih]
      by_cases e : n = c
      · rw [if_neg (by omega), if_pos (by omega)]; simp [e]
      · have : ¬ ((n == c) = true) := by simpa using e
        by_cases e2 : c < n
        · rw [if_pos e2, if_pos (by omega)]; simp [e]
        · rw [if_neg e2, if_neg (by omega)]; simp [e]
  intro n h
  rw [aux n, if_pos h]

theorem countP_range_le (p : Nat → Bool) (n : Nat) : ∀ m, n ≤ m → (∀ j, j < m → p j = true → j < n) → (List.range m).countP p = (List.range n).countP p := by
  intro m
  induction m with
  | zero => intro h _; obtain rfl : n = 0 := by omega
            rfl
  | succ m ih =>
    intro h hp
    by_cases e : n = m + 1
    · rw [e]
    · rw [List.range_succ, List.countP_append, ih (by omega) (fun j hj => hp j (by omega))]
      have : p m = false := by
        cases hq : p m with
        | false => rfl
        | true => have := hp m (by omega) hq; omega
      simp [this]

/-- Those of p, and c beside them, are all of q. -/
theorem count_lt (p q : Nat → Bool) (n c : Nat) (hn : n ≤ 32) (hp : ∀ j, j < 32 → p j = true → j < n ∧ q j = true) (hc : c < n) (hq : q c = true) (hpc : p c = false) :
    (hits p 32).length + 1 ≤ (List.range n).countP q := by
  rw [hits_len p 32 (Nat.le_refl _), countP_range_le p n 32 hn (fun j hj h => (hp j hj h).1)]
  have h1 := countP_or p (fun x => x == c) (List.range n) (fun x _ h => by
    have := beq_iff_eq.1 h.2
    rw [this, hpc] at h
    cases h.1)
  rw [countP_one c n hc] at h1
  rw [← h1]
  refine List.countP_mono_left (fun j hj h => ?_)
  have hj' := List.mem_range.1 hj
  rcases Bool.or_eq_true _ _ ▸ h with h2 | h2
  · exact (hp j (by omega) h2).2
  · rw [beq_iff_eq.1 h2]; exact hq

theorem actives_count (L : Loc) (n : Nat) : (L.actives n).length = (List.range n).countP L.act := by
  unfold Loc.actives
  rw [List.length_map, List.countP_eq_length_filter]

/-! ### The law -/
structure PInv (k : ByteArray) (L : Loc) (R : Rem) (ol : List Nat) : Prop where
  key : L.key = k
  n1 : 1 ≤ L.n
  nle : L.n ≤ 32
  few : (L.actives L.n).length ≤ 4
  bound : R.ent.bound = 0
  ids : ∀ j, j < 32 → R.ent.st j ≠ 0 → j < L.n ∧ R.ent.ids j = idB k j
  cur : ∃ c : Fin 32, ∀ j, j < 32 → (R.ent.isIn 2 j = true ↔ j = c.val)
  act : ∀ j, j < L.n → L.act j = false → R.ent.st j = 3
  lft : ∀ j ∈ R.left, j < L.n ∧ R.ent.st j = 3
  old : ∀ j ∈ ol, j < L.n ∧ R.ent.st j = 3

theorem PInv.current {k : ByteArray} {L : Loc} {R : Rem} {ol : List Nat} (h : PInv k L R ol) : ∃ c : Fin 32, hits (R.ent.isIn 2) 32 = [c] ∧ R.ent.cur = idB k c.val ∧ c.val < L.n ∧ L.act c.val = true ∧ R.ent.st c.val = 2 := by
  obtain ⟨c, hc⟩ := h.cur
  have h1 := hits_one _ c hc
  have h2 : R.ent.st c.val = 2 := (isIn_iff _ _ _).1 ((hc c.val c.isLt).2 rfl)
  have h3 := h.ids c.val c.isLt (by rw [h2]; decide)
  refine ⟨c, h1, ?_, h3.1, ?_, h2⟩
  · unfold Ent.cur; rw [h1]; exact h3.2
  · cases ha : L.act c.val with
    | true => rfl
    | false => have := h.act c.val h3.1 ha; omega

theorem PInv.retired {k : ByteArray} {L : Loc} {R : Rem} {ol : List Nat} (h : PInv k L R ol) : PInv k L { R with left := [] } ol :=
  ⟨h.key, h.n1, h.nle, h.few, h.bound, h.ids, h.cur, h.act, (fun j hj => by cases hj), h.old⟩

theorem PInv.retire {k : ByteArray} {L : Loc} {R : Rem} {ol : List Nat} (h : PInv k L R ol) (i : Nat) (hi : R.ent.st i = 3) : PInv k (L.retire i) R ol :=
  ⟨h.key, h.n1, h.nle, Nat.le_trans (L.retire_actives i) h.few, h.bound, h.ids, h.cur, fun j hj ha => by
    have ha' : (if j = i then false else L.act j) = false := ha
    split at ha'
    · rename_i e; rw [e]; exact hi
    · exact h.act j hj ha', h.lft, h.old⟩

theorem PInv.issue {k : ByteArray} {L : Loc} {R : Rem} {ol : List Nat} (h : PInv k L R ol) (hn : L.n < 32) (hf : (L.actives L.n).length < 4) : PInv k L.add R ol :=
  ⟨h.key, by show 1 ≤ L.n + 1; omega, by show L.n + 1 ≤ 32; omega, by rw [L.add_actives]; omega, h.bound, fun j hj hs => ⟨by show j < L.n + 1; have := (h.ids j hj hs).1; omega, (h.ids j hj hs).2⟩, h.cur, fun j hj ha => by
    have ha' : (if j = L.n then true else L.act j) = false := ha
    have hj' : j < L.n + 1 := hj
    split at ha'
    · cases ha'
    · exact h.act j (by omega) ha', fun j hj => ⟨by show j < L.n + 1; have := (h.lft j hj).1; omega, (h.lft j hj).2⟩, fun j hj => ⟨by show j < L.n + 1; have := (h.old j hj).1; omega, (h.old j hj).2⟩⟩

theorem PInv.fits {k : ByteArray} {L : Loc} {R : Rem} {ol : List Nat} (h : PInv k L R ol) (s : Nat) (hs : s < L.n) : R.ent.fits s (idB k s) = true := by
  apply Ent.fits_yes
  intro j hj
  unfold Ent.fit
  by_cases h0 : R.ent.st j = 0
  · rw [h0]; rfl
  · have h1 := h.ids j hj h0
    have hn := h.nle
    by_cases e : j = s
    · subst e; rw [h1.2]; simp
    · have : ¬ (idB k j = idB k s) := fun h2 => e (idB_inj k j s (by omega) (by omega) h2)
      rw [h1.2]; simp [e, this]

theorem PInv.add {k : ByteArray} {L : Loc} {R : Rem} {ol : List Nat} (h : PInv k L R ol) (s : Nat) (hs : s < L.n) :
    (R.add s 0 (idB k s)).1 = 0 ∧ PInv k L (R.add s 0 (idB k s)).2 ol ∧ (R.add s 0 (idB k s)).2.left = R.left := by
  have hn := h.nle
  have hb : (R.ent.made s 0 (idB k s)).bound = 0 := by
    show max (R.ent.put s (idB k s)).bound 0 = 0
    have : (R.ent.put s (idB k s)).bound = R.ent.bound := by unfold Ent.put; split <;> rfl
    rw [this, h.bound]; rfl
  have hkept : R.ent.kept s 0 (idB k s) = R.ent.made s 0 (idB k s) := by unfold Ent.kept; rw [hb]; rfl
  have hlost : R.ent.lost s 0 (idB k s) = [] := by unfold Ent.lost; rw [hb]; rfl
  have hst : ∀ j, (R.ent.made s 0 (idB k s)).st j = if j = s ∧ R.ent.st s = 0 then 1 else R.ent.st j := by
    intro j
    show (R.ent.put s (idB k s)).st j = _
    unfold Ent.put
    by_cases h0 : R.ent.st s = 0
    · rw [if_pos h0]
      show (if j = s then 1 else R.ent.st j) = _
      by_cases e : j = s
      · rw [if_pos e, if_pos ⟨e, h0⟩]
      · rw [if_neg e, if_neg (fun h => e h.1)]
    · rw [if_neg h0, if_neg (fun h => h0 h.2)]
  have hid : ∀ j, (R.ent.made s 0 (idB k s)).ids j = if j = s ∧ R.ent.st s = 0 then idB k s else R.ent.ids j := by
    intro j
    show (R.ent.put s (idB k s)).ids j = _
    unfold Ent.put
    by_cases h0 : R.ent.st s = 0
    · rw [if_pos h0]
      show (if j = s then idB k s else R.ent.ids j) = _
      by_cases e : j = s
      · rw [if_pos e, if_pos ⟨e, h0⟩]
      · rw [if_neg e, if_neg (fun h => e h.1)]
    · rw [if_neg h0, if_neg (fun h => h0 h.2)]
  obtain ⟨c, hc1, _, hc3, hc4, hc5⟩ := h.current
  obtain ⟨c', hc'⟩ := h.cur
  have hcc : c' = c := by
    have := hits_one _ c' hc'
    rw [hc1] at this
    injection this with h1
    exact h1.symm
  subst hcc
  have hne : ∀ j, R.ent.st j = 3 → (R.ent.made s 0 (idB k s)).st j = 3 := fun j hj => by
    rw [hst]
    by_cases e : j = s ∧ R.ent.st s = 0
    · rw [e.1] at hj; omega
    · rw [if_neg e]; exact hj
  have hcur : ∀ j, j < 32 → ((R.ent.made s 0 (idB k s)).isIn 2 j = true ↔ j = c'.val) := by
    intro j hj
    rw [isIn_iff, hst]
    by_cases e : j = s ∧ R.ent.st s = 0
    · rw [if_pos e]
      constructor
      · intro h1; omega
      · intro h1; rw [e.1] at h1; rw [h1] at e; omega
    · rw [if_neg e, ← isIn_iff]; exact hc' j hj
  have hh := hits_one _ c' hcur
  have hnext : (R.ent.made s 0 (idB k s)).next = R.ent.made s 0 (idB k s) := by unfold Ent.next; rw [hh]; rfl
  have hun : (hits ((R.ent.made s 0 (idB k s)).isIn 1) 32).length < 4 := by
    have := count_lt ((R.ent.made s 0 (idB k s)).isIn 1) L.act L.n c'.val hn (fun j hj hp => by
      rw [isIn_iff, hst] at hp
      have hlt : j < L.n := by
        by_cases e : j = s ∧ R.ent.st s = 0
        · rw [e.1]; exact hs
        · rw [if_neg e] at hp; exact (h.ids j hj (by rw [hp]; decide)).1
      refine ⟨hlt, ?_⟩
      cases ha : L.act j with
      | true => rfl
      | false =>
        have h3 := h.act j hlt ha
        by_cases e : j = s ∧ R.ent.st s = 0
        · rw [e.1] at h3; omega
        · rw [if_neg e] at hp; omega) hc3 hc4 (by
      cases hq : (R.ent.made s 0 (idB k s)).isIn 1 c'.val with
      | false => rfl
      | true =>
        rw [isIn_iff] at hq
        have := (isIn_iff _ _ _).1 ((hcur c'.val c'.isLt).2 rfl)
        omega)
    rw [← actives_count] at this
    have := h.few
    omega
  have hadd : R.add s 0 (idB k s) = (0, { ent := R.ent.made s 0 (idB k s), left := R.left }) := by
    unfold Rem.add
    rw [if_neg (by rw [h.fits s hs]; decide), hkept, hnext, hlost, if_neg (by rw [hh]; simp), if_neg (by omega), List.append_nil]
  rw [hadd]
  refine ⟨rfl, ⟨h.key, h.n1, h.nle, h.few, hb, fun j hj h0 => ?_, ⟨c', hcur⟩, fun j hj ha => hne j (h.act j hj ha), fun j hj => ⟨(h.lft j hj).1, hne j (h.lft j hj).2⟩, fun j hj => ⟨(h.old j hj).1, hne j (h.old j hj).2⟩⟩, rfl⟩
  rw [hst] at h0
  rw [hid]
  by_cases e : j = s ∧ R.ent.st s = 0
  · rw [if_pos e, e.1]; exact ⟨hs, rfl⟩
  · rw [if_neg e] at h0 ⊢; exact h.ids j hj h0

theorem PInv.rotate {k : ByteArray} {L : Loc} {R : Rem} {ol : List Nat} (h : PInv k L R ol) (hu : hits (R.ent.isIn 1) 32 ≠ []) :
    ∃ c : Fin 32, R.ent.cur = idB k c.val ∧ PInv k L R.rotate (ol ++ [c.val]) ∧ R.rotate.left = R.left ++ [c.val] := by
  obtain ⟨c, hc1, hc2, hc3, hc4, hc5⟩ := h.current
  obtain ⟨x, l, hx⟩ : ∃ x l, hits (R.ent.isIn 1) 32 = x :: l := by
    cases hh : hits (R.ent.isIn 1) 32 with
    | nil => exact absurd hh hu
    | cons x l => exact ⟨x, l, rfl⟩
  have hx1 : R.ent.st x.val = 1 := by
    have : x ∈ hits (R.ent.isIn 1) 32 := by rw [hx]; exact List.mem_cons_self ..
    exact (isIn_iff _ _ _).1 ((hits_mem _ _ _).1 this).2
  have hcx : c.val ≠ x.val := fun e => by rw [e] at hc5; omega
  have hrot : R.rot (hits (R.ent.isIn 2) 32) = { ent := R.ent.setSt c.val 3, left := R.left ++ [c.val] } := by rw [hc1]; rfl
  have hh1 : hits ((R.ent.setSt c.val 3).isIn 1) 32 = hits (R.ent.isIn 1) 32 := by
    have aux : ∀ m, hits ((R.ent.setSt c.val 3).isIn 1) m = hits (R.ent.isIn 1) m := by
      intro m
      induction m with
      | zero => rfl
      | succ m ih =>
        have e1 : (R.ent.setSt c.val 3).isIn 1 m = R.ent.isIn 1 m := by
          unfold Ent.isIn
          show ((if m = c.val then 3 else R.ent.st m) == 1) = (R.ent.st m == 1)
          by_cases e : m = c.val
          · rw [if_pos e, e, hc5]; rfl
          · rw [if_neg e]
        unfold hits
        rw [e1, ih]
    exact aux 32
  have hadv : (R.ent.setSt c.val 3).adv = (R.ent.setSt c.val 3).setSt x.val 2 := by
    unfold Ent.adv; rw [hh1, hx]; rfl
  have hR : R.rotate = { ent := (R.ent.setSt c.val 3).setSt x.val 2, left := R.left ++ [c.val] } := by
    unfold Rem.rotate; rw [hrot, hadv]
  have hst : ∀ j, R.rotate.ent.st j = if j = x.val then 2 else if j = c.val then 3 else R.ent.st j := fun j => by rw [hR]; rfl
  have hids : ∀ j, R.rotate.ent.ids j = R.ent.ids j := fun j => by rw [hR]; rfl
  have hleft : R.rotate.left = R.left ++ [c.val] := by rw [hR]
  have h3 : ∀ j, R.ent.st j = 3 → R.rotate.ent.st j = 3 := fun j hj => by
    rw [hst, if_neg (fun e => by rw [e] at hj; omega)]
    by_cases e : j = c.val
    · rw [if_pos e]
    · rw [if_neg e]; exact hj
  have hc3' : R.rotate.ent.st c.val = 3 := by rw [hst, if_neg hcx, if_pos rfl]
  refine ⟨c, hc2, ⟨h.key, h.n1, h.nle, h.few, by rw [hR]; exact h.bound, fun j hj h0 => ?_, ⟨x, fun j hj => ?_⟩, fun j hj ha => h3 j (h.act j hj ha), fun j hj => ?_, fun j hj => ?_⟩, hleft⟩
  · rw [hids]
    apply h.ids j hj
    rw [hst] at h0
    by_cases e : j = x.val
    · rw [e, hx1]; decide
    · rw [if_neg e] at h0
      by_cases e2 : j = c.val
      · rw [e2, hc5]; decide
      · rw [if_neg e2] at h0; exact h0
  · rw [isIn_iff, hst]
    by_cases e : j = x.val
    · rw [if_pos e]; exact ⟨fun _ => e, fun _ => rfl⟩
    · rw [if_neg e]
      by_cases e2 : j = c.val
      · rw [if_pos e2]; exact ⟨fun h => by omega, fun h => absurd h e⟩
      · rw [if_neg e2]
        constructor
        · intro h2
          have : (⟨j, hj⟩ : Fin 32) ∈ hits (R.ent.isIn 2) 32 := (hits_mem _ _ _).2 ⟨hj, (isIn_iff _ _ _).2 h2⟩
          rw [hc1, List.mem_singleton] at this
          exact absurd (congrArg Fin.val this) e2
        · intro h2; exact absurd h2 e
  · rw [hleft, List.mem_append, List.mem_singleton] at hj
    rcases hj with hj | rfl
    · exact ⟨(h.lft j hj).1, h3 j (h.lft j hj).2⟩
    · exact ⟨hc3, hc3'⟩
  · rw [List.mem_append, List.mem_singleton] at hj
    rcases hj with hj | rfl
    · exact ⟨(h.old j hj).1, h3 j (h.old j hj).2⟩
    · exact ⟨hc3, hc3'⟩

theorem pinv_new (k : ByteArray) : PInv k (locN k 1) (newRem (idB k 0)) [] := by
  refine ⟨locN_key k 1, by rw [locN_n]; decide, by rw [locN_n]; decide, by rw [locN_actives]; decide, rfl, fun j hj h0 => ?_, ⟨⟨0, by decide⟩, fun j hj => ?_⟩, fun j hj ha => ?_, (fun j hj => by cases hj), (fun j hj => by cases hj)⟩
  · have h1 : (if j = 0 then 2 else 0) ≠ 0 := h0
    by_cases e : j = 0
    · subst e; rw [locN_n]; exact ⟨by decide, rfl⟩
    · rw [if_neg e] at h1; exact absurd rfl h1
  · rw [isIn_iff]
    show (if j = 0 then 2 else 0) = 2 ↔ j = 0
    by_cases e : j = 0
    · rw [if_pos e]; exact ⟨fun _ => e, fun _ => rfl⟩
    · rw [if_neg e]; exact ⟨fun h => by omega, fun h => absurd h e⟩
  · rw [locN_n] at hj
    have := locN_act k 1 j hj
    rw [this] at ha; cases ha

end Go.Proofs.YtmdfpknhfkgfoaaDoor


/- law04.KeysFrom: some keys, the first of 16 bytes. -/
namespace Go.Proofs.YtmdfpknhfkgfoaaDoor
open Go.RowKit Go.Shelf
set_option linter.unusedVariables false

/-- Some keys, whose first one has 16 bytes. -/
def SomeKeys (w : World) (e : Ending) (w' : World) : Prop := ∃ k m h i : ByteArray, e = .returned (.agg #[.string k, .string i, .string m, .string h]) ∧ k.size = 16 ∧ Below w.heap.size w w'

theorem conv_part {l : List UInt8} {g n cap : Nat} {W : World} {base : Nat} (h : W.ownsRow base 5 1 (.slice (some ⟨g, 0, none⟩) n cap) n (byteVals l)) (o m c : Nat) (hm : o + m ≤ l.length) :
    ∃ s : ByteArray, s.size = m ∧ ∀ k, (convert 112 9 (.slice (some ⟨g, o, none⟩) m c)).run Tryd.prog (W.drewN k) = .ok (.string s) (W.drewN k) := by
  have hc : ∀ j, j < l.length → W.cell? ⟨g, j, none⟩ = some (.int .u8 ((l.getD j 0).toNat : Int)) := fun j hj => by
    have := own_src h j (.int .u8 ((l.getD j 0).toNat : Int)) (by simp [byteVals, hj])
    simpa only [Addr.add_mid, Nat.zero_add] using this
  refine ⟨strOfNums (((List.range m).map fun i => ((l.getD (o + i) 0).toNat : Int))), by rw [strOfNums_size]; simp, fun k => ?_⟩
  refine run_convert_bytes_arg (P := Tryd.prog) (W.drewN k) 112 5 Tryd.underlying112 Tryd.underlying5 g o m c _ (by simp) (fun i hi => ?_) 9 Tryd.underlying9
  have := hc (o + i) (by omega)
  rw [show (W.drewN k).cell? ⟨g, o + i, none⟩ = W.cell? ⟨g, o + i, none⟩ from rfl, this]
  simp [List.getD, hi]

theorem pick04_any (c : Int) (w : World) (hlo : -9223372036854775808 ≤ c) (hhi : c ≤ 9223372036854775807) :
    Calls Tryd.prog 62 #[.int .i64 c, .int .i64 4294967296] w fun e w' => ∃ n : Nat, n < 4294967296 ∧ e = .returned (.int .i64 n) ∧ w = w' := by
  have hb : ∃ n : Nat, n < 4294967296 ∧ ((n : Nat) : Int) = (if c < 0 then -(c + 1) else c) % 4294967296 := by
    refine ⟨((if c < 0 then -(c + 1) else c) % 4294967296).toNat, ?_, Int.toNat_of_nonneg (Int.emod_nonneg _ (by decide))⟩
    have := Int.emod_lt_of_pos (if c < 0 then -(c + 1) else c) (show (0 : Int) < 4294967296 by decide)
    omega
  obtain ⟨p, hp, hv⟩ := hb
  by_cases hc : c < 0
  · rw [if_pos hc, ← Int.tmod_eq_emod_of_nonneg (by omega), Int.neg_tmod] at hv
    have Hv := Lib.hid hv; clear hv
    go_enter Tryd.func62, Tryd.ntmps62
    go_wp2
    go_ret
    exact ⟨p, hp, congrArg (fun z : Int => Ending.returned (.int .i64 z)) Hv.out.symm, rfl⟩
  · rw [if_neg hc] at hv
    have Hv := Lib.hid hv; clear hv
    go_enter Tryd.func62, Tryd.ntmps62
    go_wp2
    go_ret
    exact ⟨p, hp, congrArg (fun z : Int => Ending.returned (.int .i64 z)) Hv.out.symm, rfl⟩

theorem mod_nat (z : Int) : ∃ n : Nat, n < 4294967296 ∧ z % 4294967296 = (n : Int) := by
  have h1 := Int.emod_lt_of_pos z (show (0 : Int) < 4294967296 by decide)
  have h2 := Int.emod_nonneg z (show (4294967296 : Int) ≠ 0 by decide)
  exact ⟨(z % 4294967296).toNat, by omega, (Int.toNat_of_nonneg h2).symm⟩

set_option maxRecDepth 100000 in
set_option maxHeartbeats 400000 in
theorem keysFrom04_any (seed : Int) (w : World) (hlo : -9223372036854775808 ≤ seed) (hhi : seed ≤ 9223372036854775807) :
    Calls Tryd.prog 34 #[.int .i64 seed] w (SomeKeys w) := by
  obtain ⟨i0, hi, hz0, hz1, hz2⟩ := info_parts info_u8
  have b2 : i0.bytes * 56 ≤ 281474976710656 := by rw [hz2]; omega
  have b3 : 56 ≤ maxLen := by unfold maxLen; decide
  go_enter Tryd.func34, Tryd.ntmps34
  go_wp2_with (fail)
  refine (pick04_any seed _ hlo hhi).mono ?_
  rintro e w1 ⟨x0, hx0, rfl, rfl⟩
  go_wp2_with (at_make; refine wpList_make_own _ rfl _ _ 112 rfl (w.heap.size + 1) 5 i0 (.int .u8 0) 1 Tryd.underlying112 hi hz0 hz1 .i64 .i64 56 56 rfl rfl rfl b2 b3 (by simp) ?_; intro w1 hown hgrow)
  have HR : Hid (Below w.heap.size w w1) := ((Below.refl _ w).alloc (Nat.le_refl _) _).grown hgrow (by simp) (by simp)
  have HF : Hid (w1.heap[w.heap.size]? = some (.cells #[.string ⟨#[]⟩, .string ⟨#[]⟩, .string ⟨#[]⟩, .string ⟨#[]⟩] 70 (0, 0))) := (hgrow.block w.heap.size (by simp) (by simp)).trans (heap_alloc_new w _)
  have HO : Hid (w1.ownsRow (w.heap.size + 1) 5 1 (.slice (some ⟨w.heap.size + 1, 0, none⟩) 0 56) 0 (byteVals [])) := by have h := hown; rw [World.size_alloc] at h; exact h
  clear hown hgrow b2 b3
  go_loopw [3, 4, 5] (fun x b i wr => ∃ (j y : Nat) (l : List UInt8), j ≤ 56 ∧ y < 4294967296 ∧ l.length = j ∧ i = .int .i64 j ∧ x = .int .i64 y ∧ Hid (wr.ownsRow (w.heap.size + 1) 5 1 b j (byteVals l)) ∧ Hid (Below w.heap.size w wr) ∧ Hid (wr.heap[w.heap.size]? = some (.cells #[.string ⟨#[]⟩, .string ⟨#[]⟩, .string ⟨#[]⟩, .string ⟨#[]⟩] 70 (0, 0)))) (fun _ _ i _ => 56 - (intOf i).toNat)
  case atStart => exact ⟨0, x0, [], by decide, hx0, rfl, rfl, rfl, HO, HR, HF⟩
  case round =>
    clear HO HR HF
    obtain ⟨j, y, l, hj, hy, hl, rfl, rfl, HO, HR, HF⟩ := hrel
    rename_i b _
    by_cases hlt : j < 56
    · have q1 : IntKind.i64.wrap ((y : Int) * 1103515245) = (y : Int) * 1103515245 := IntWalk.i64_in _ (by omega)
      have q2 : IntKind.i64.wrap ((y : Int) * 1103515245 + 12345) = (y : Int) * 1103515245 + 12345 := IntWalk.i64_in _ (by omega)
      have q0 : 0 ≤ (y : Int) * 1103515245 + 12345 := by omega
      obtain ⟨y2, hy2, hz⟩ := mod_nat ((y : Int) * 1103515245 + 12345)
      have hmv : ((y : Int) * 1103515245 + 12345).tmod 4294967296 = (y2 : Int) := by rw [Int.tmod_eq_emod_of_nonneg q0]; exact hz
      have hsz : w.heap.size < wr.heap.size := (Array.getElem?_eq_some_iff.1 HF.out).1
      clear hz
      go_wp2_with (at_builtin; go_loud (refine wpList_append_own _ rfl _ _ 112 rfl (w.heap.size + 1) 5 i0 (.int .u8 0) 1 1 Tryd.underlying112 hi hz0 hz1 hz2 rfl (by decide) _ _ _ rfl (HO.out.alloc _) ⟨wr.heap.size, 0, none⟩ 1 1 [.int .u8 ((y2 : Int) / 65536 % 256)] rfl rfl (cell_one_new _ _ _) (by simp [Value.oneCell']) (by unfold maxLen; omega) (by omega) (by simp; omega) ?_; intro v' w5 hown' hgrow _))
      obtain ⟨bb, hbb⟩ := u8_is ((y2 : Int) / 65536 % 256) (by omega) (by omega)
      rw [hbb] at hown'
      have HO2 : Hid (w5.ownsRow (w.heap.size + 1) 5 1 v' (j + 1) (byteVals (l ++ [bb]))) := by
        have h := hown'
        rw [byteVals_snoc]
        exact h
      have hB1 : Below w.heap.size w (wr.alloc (.cells #[.int .u8 ((y2 : Int) / 65536 % 256)] 5)) := HR.out.alloc HR.out.size _
      have HR2 : Hid (Below w.heap.size w w5) := hB1.grown hgrow hB1.size (fun i e => by have := (HO.out.lt i e).1; omega)
      have HF2 : Hid (w5.heap[w.heap.size]? = some (.cells #[.string ⟨#[]⟩, .string ⟨#[]⟩, .string ⟨#[]⟩, .string ⟨#[]⟩] 70 (0, 0))) := (hgrow.block w.heap.size (by simp; omega) (fun e => by have := (HO.out.lt w.heap.size e.symm).1; omega)).trans ((Below.heap_alloc wr _ _ hsz).trans HF.out)
      clear hown' hgrow hB1 HO HR HF
      go_wp2
      go_roundw
      case rel => exact ⟨j + 1, y2, l ++ [bb], by omega, hy2, by rw [List.length_append, hl]; rfl, by go_num, rfl, HO2, HR2, HF2⟩
      case measure => simp [intOf]; omega
    · obtain rfl : j = 56 := by omega
      obtain ⟨g, cap, hb⟩ := ownsRow_succ (k := 55) HO.out
      subst hb
      have hcap : 56 ≤ cap := by
        rcases HO.out.2 with ⟨h1, _⟩ | ⟨g', cap', cur, hv, _, _, hnc, _⟩
        · cases h1
        · injection hv with _ _ h3; omega
      obtain ⟨s0, hs0, hc0⟩ := conv_part HO.out 0 16 cap (by omega)
      obtain ⟨s1, hs1, hc1⟩ := conv_part HO.out 16 16 (cap - 16) (by omega)
      obtain ⟨s2, hs2, hc2⟩ := conv_part HO.out 32 16 (cap - 32) (by omega)
      obtain ⟨s3, hs3, hc3⟩ := conv_part HO.out 48 8 (cap - 48) (by omega)
      have k1 : ¬ (cap = 16) := by omega
      have k2 : ¬ (cap = 32) := by omega
      have k3 : ¬ (cap = 48) := by omega
      have k4 : ¬ (cap = 0) := by omega
      have k5 : (16 : Int) ≤ (cap : Int) := by omega
      have k6 : (32 : Int) ≤ (cap : Int) := by omega
      have k7 : (48 : Int) ≤ (cap : Int) := by omega
      have m5 : 16 ≤ cap := by omega
      have m6 : 32 ≤ cap := by omega
      have m7 : 48 ≤ cap := by omega
      clear hcap
      have HC0 := Lib.hid hc0; have HC1 := Lib.hid hc1; have HC2 := Lib.hid hc2; have HC3 := Lib.hid hc3
      clear hc0 hc1 hc2 hc3
      go_wp2
      refine wp_region_still_tail 13 (by kernel_rfl) (by kernel_rfl) ?_
      simp only [List.take_succ_cons, List.take_zero, List.drop_succ_cons, List.drop_zero]
      have g0 : (convert 112 9 (.slice (some ⟨g, 0, none⟩) 16 cap)).run Tryd.prog wr.drew = .ok (.string s0) wr.drew := HC0.out 1
      have g1 : (convert 112 9 (.slice (some ⟨g, 16, none⟩) 16 (cap - 16))).run Tryd.prog wr.drew = .ok (.string s1) wr.drew := HC1.out 1
      have g2 : (convert 112 9 (.slice (some ⟨g, 32, none⟩) 16 (cap - 32))).run Tryd.prog wr.drew = .ok (.string s2) wr.drew := HC2.out 1
      have g3 : (convert 112 9 (.slice (some ⟨g, 48, none⟩) 8 (cap - 48))).run Tryd.prog wr.drew = .ok (.string s3) wr.drew := HC3.out 1
      have HFW : Hid (wr.drew.heap[w.heap.size]? = some (.cells #[.string ⟨#[]⟩, .string ⟨#[]⟩, .string ⟨#[]⟩, .string ⟨#[]⟩] 70 (0, 0))) := HF.out
      have HRW : Hid (Below w.heap.size w wr.drew) := HR.out.drew
      have e0 := cell_of_heap HFW.out 0
      have e1 := cell_of_heap HFW.out 1
      have e2 := cell_of_heap HFW.out 2
      have e3 := cell_of_heap HFW.out 3
      have f0 := free_of_heap HFW.out 0
      have f1 := free_of_heap HFW.out 1
      have f2 := free_of_heap HFW.out 2
      have f3 := free_of_heap HFW.out 3
      clear HF HR HO
      repeat still_step
      refine wpStill_nil ?_
      change wpList _ _ _ _ _ wr.drew
      generalize wr.drew = W9 at *
      go_wp2
      refine bodyPost_ret (v := .agg #[.string s0, .string s3, .string s1, .string s2]) (by simp [results, Tryd.results34, go_sem, e0, e1, e2, e3]) rfl ?_
      refine ⟨s0, s1, s2, s3, rfl, hs0, ?_⟩
      exact ((((HRW.out).setCell (by simp) _).setCell (by simp) _).setCell (by simp) _).setCell (by simp) _
end Go.Proofs.YtmdfpknhfkgfoaaDoor


/- PathMigrationUnlinkable: the plain law, and the law's memory. No walk. -/
namespace Go.Proofs.YtmdfpknhfkgfoaaDoor
open Go.RowKit Go.Shelf

/-! ### The path side -/
/-- All paths lie between the four local addresses and the one remote; the active one is at. -/
structure Way (S : PS) (at' m : Nat) : Prop where
  lo : 1 ≤ at'
  hi : at' ≤ 4
  act : S.act = ((at' : Int), 100)
  keys : ∀ k e, S.get k = some e → 1 ≤ k.1 ∧ k.1 ≤ 4 ∧ k.2 = 100
  good : S.good m

theorem way_PS1 : Way (PS1 1 100 true) 1 0 := by
  refine ⟨Nat.le_refl _, by decide, rfl, fun k e h => ?_, good_PS1 _ _ _ 0⟩
  rw [get_PS1] at h
  split at h
  · next hk => subst hk; exact ⟨by decide, by decide, rfl⟩
  · cases h

theorem len_pigeon {S : PS} (hn : S.nd) (hk : ∀ k e, S.get k = some e → 1 ≤ k.1 ∧ k.1 ≤ 4 ∧ k.2 = 100) {tu : Nat} (h1 : 1 ≤ tu) (h4 : tu ≤ 4) (hg : S.get ((tu : Int), 100) = none) : S.es.length < 4 := by
  have hsub : (((tu : Int), (100 : Int)) :: S.es.map PE.key).Nodup := List.nodup_cons.2 ⟨fun h => by
    obtain ⟨e, he, hke⟩ := List.mem_map.1 h
    exact PS.get_none hg e he hke, hn⟩
  have hin : ∀ x ∈ (((tu : Int), (100 : Int)) :: S.es.map PE.key), x ∈ [((1 : Int), (100 : Int)), (2, 100), (3, 100), (4, 100)] := fun x hx => by
    have hh : 1 ≤ x.1 ∧ x.1 ≤ 4 ∧ x.2 = 100 := by
      rcases List.mem_cons.1 hx with rfl | hx
      · exact ⟨by show (1 : Int) ≤ tu; omega, by show (tu : Int) ≤ 4; omega, rfl⟩
      · obtain ⟨e, he, rfl⟩ := List.mem_map.1 hx
        exact hk _ e ((get_iff hn).2 ⟨he, rfl⟩)
    obtain ⟨a, b⟩ := x
    obtain ⟨ha, hb, hc⟩ := hh
    simp only at ha hb hc
    subst hc
    have : a = 1 ∨ a = 2 ∨ a = 3 ∨ a = 4 := by omega
    rcases this with rfl | rfl | rfl | rfl <;> simp
  have := List.Nodup.length_le_of_subset hsub hin
  simp at this
  omega

theorem way_recv {S : PS} {at' m tu i : Nat} (hn : S.nd) (h : Way S at' m) (h1 : 1 ≤ tu) (h4 : tu ≤ 4) (hi : i < 30) :
    (S.received i tu 100 10).1 = 0 ∧ Way (S.received i tu 100 10).2 at' (m + 1) ∧ ∃ e, (S.received i tu 100 10).2.get ((tu : Int), 100) = some e := by
  have hok : recvOk i tu 100 10 = true := by
    unfold recvOk addrsOk
    rw [within_yes (by omega) (by omega), within_yes (by omega) (by omega)]
    rfl
  have h0 : (S.received i tu 100 10).1 = 0 := by
    unfold PS.received
    rw [if_pos hok]
    cases hg : S.get ((tu : Int), 100) with
    | some e => rfl
    | none =>
      have hl := len_pigeon hn h.keys h1 h4 hg
      have hr : S.room.1 = true := by unfold PS.room; rw [if_pos hl]
      show (if S.room.1 = true then ((0 : Int), S.room.2.grown tu 100 10) else (240, S)).1 = 0
      rw [if_pos hr]
  rcases received_is hn i tu 100 10 with ⟨h2, _⟩ | ⟨_, _, hr⟩
  · exact absurd h0 h2
  · obtain ⟨e1, he1, _⟩ := hr.here
    refine ⟨h0, ⟨h.lo, h.hi, hr.act.trans h.act, fun k e hk => ?_, hr.to.good h.good⟩, e1, he1⟩
    by_cases hkk : k = ((tu : Int), 100)
    · subst hkk; exact ⟨by show (1 : Int) ≤ tu; omega, by show (tu : Int) ≤ 4; omega, rfl⟩
    · rcases hr.there k hkk with h5 | ⟨h5, _⟩
      · exact h.keys k e (by rw [← h5]; exact hk)
      · rw [h5] at hk; cases hk

theorem way_migrate {S : PS} {at' m tu : Nat} (h : Way S at' m) (h1 : 1 ≤ tu) (h4 : tu ≤ 4) (hne : tu ≠ at') (hg : ∃ e, S.get ((tu : Int), 100) = some e) :
    (S.migrate (tu, 100)).1 = 0 ∧ Way (S.migrate (tu, 100)).2 tu (m + 1) ∧ ∃ e, (S.migrate (tu, 100)).2.get ((tu : Int), 100) = some e := by
  have ht := (migrate_to S (tu, 100)).good h.good
  obtain ⟨e, he⟩ := hg
  have hna : ¬ (((tu : Int), (100 : Int)) = S.act) := fun h2 => by
    rw [h.act] at h2
    injection h2 with h3 _
    omega
  have hm : S.migrate (tu, 100) = (0, { S with act := (tu, 100), prev := if S.valid S.act = true then some S.act else S.prev }) := by
    unfold PS.migrate
    rw [he]
    simp only [if_neg hna]
  refine ⟨by rw [hm], ⟨h1, h4, by rw [hm], fun k e' hk => h.keys k e' (by rw [← migrate_get S (tu, 100)]; exact hk), ht⟩, e, (migrate_get S (tu, 100) _).trans he⟩

theorem way_validate {S : PS} {at' m tu : Nat} (h : Way S at' m) (hg : ∃ e, S.get ((tu : Int), 100) = some e) :
    (S.validate (tu, 100)).1 = 0 ∧ Way (S.validate (tu, 100)).2 at' (m + 1) := by
  have ht := (validate_to S (tu, 100)).good h.good
  obtain ⟨e, he⟩ := hg
  have hm : S.validate (tu, 100) = (0, S.upd (tu, 100) PE.validate) := by
    unfold PS.validate
    rw [he]
  rw [hm] at ht ⊢
  refine ⟨rfl, h.lo, h.hi, h.act, fun k e' hk => ?_, ht⟩
  obtain ⟨e2, he2, _⟩ := get_of_upd (by intro _; rfl) hk
  exact h.keys k e2 he2

theorem Way.mono {S : PS} {at' m m' : Nat} (h : Way S at' m) (hm : m ≤ m') : Way S at' m' := ⟨h.lo, h.hi, h.act, h.keys, h.good.mono hm⟩

/-! ### The IDs' side -/
theorem PInv.add_cur {k : ByteArray} {L : Loc} {R : Rem} {ol : List Nat} (h : PInv k L R ol) (s : Nat) (hs : s < L.n) : (R.add s 0 (idB k s)).2.ent.cur = R.ent.cur := by
  obtain ⟨c, hc1, hc2, hc3, hc4, hc5⟩ := h.current
  obtain ⟨ha1, ha2, _⟩ := h.add s hs
  obtain ⟨c', hd1, hd2, _⟩ := ha2.current
  have hb : (R.ent.made s 0 (idB k s)).bound = 0 := by
    show max (R.ent.put s (idB k s)).bound 0 = 0
    have : (R.ent.put s (idB k s)).bound = R.ent.bound := by unfold Ent.put; split <;> rfl
    rw [this, h.bound]; rfl
  have hkept : R.ent.kept s 0 (idB k s) = R.ent.made s 0 (idB k s) := by unfold Ent.kept; rw [hb]; rfl
  have hst : (R.ent.made s 0 (idB k s)).st c.val = 2 := by
    show (R.ent.put s (idB k s)).st c.val = 2
    unfold Ent.put
    split
    · next h0 =>
      show (if c.val = s then 1 else R.ent.st c.val) = 2
      rw [if_neg (fun e => by rw [e] at hc5; omega)]
      exact hc5
    · exact hc5
  have hmem : c ∈ hits ((R.ent.made s 0 (idB k s)).isIn 2) 32 := (hits_mem _ _ _).2 ⟨c.isLt, (isIn_iff _ _ _).2 hst⟩
  have hnext : (R.ent.made s 0 (idB k s)).next = R.ent.made s 0 (idB k s) := by
    unfold Ent.next
    rw [if_neg (fun h => by rw [h] at hmem; cases hmem)]
  have hent : (R.add s 0 (idB k s)).2.ent = R.ent.made s 0 (idB k s) := by
    unfold Rem.add at ha1 ⊢
    rw [hkept, hnext] at ha1 ⊢
    by_cases x1 : R.ent.fits s (idB k s) = false
    · rw [if_pos x1] at ha1; exact absurd ha1 (fun h : (70 : Int) = 0 => by omega)
    · rw [if_neg x1] at ha1 ⊢
      by_cases x2 : hits ((R.ent.made s 0 (idB k s)).isIn 2) 32 = [] ∧ hits ((R.ent.made s 0 (idB k s)).isIn 1) 32 = []
      · rw [if_pos x2] at ha1; exact absurd ha1 (fun h : (70 : Int) = 0 => by omega)
      · rw [if_neg x2] at ha1 ⊢
        by_cases x3 : 4 ≤ (hits ((R.ent.made s 0 (idB k s)).isIn 1) 32).length
        · rw [if_pos x3] at ha1; exact absurd ha1 (fun h : (71 : Int) = 0 => by omega)
        · rw [if_neg x3]
  rw [hent] at hd1
  rw [hd1, List.mem_singleton] at hmem
  rw [hd2, hc2, hmem]

/-- What the law has noted: the ID's number and the address. -/
structure Noted (k : ByteArray) (R : Rem) (ol : List Nat) (hs : List (Nat × Nat)) (at' : Nat) : Prop where
  all : ∀ h ∈ hs, h.1 < 32 ∧ (h.1 ∈ ol ∨ (R.ent.cur = idB k h.1 ∧ h.2 = at'))
  one : ∀ h ∈ hs, ∀ h' ∈ hs, h.1 = h'.1 → h.2 = h'.2

theorem noted_nil (k : ByteArray) (R : Rem) (at' : Nat) : Noted k R [] [] at' := ⟨fun _ h => (by cases h), fun _ h => (by cases h)⟩

theorem Noted.cur {k : ByteArray} {R R' : Rem} {ol : List Nat} {hs : List (Nat × Nat)} {at' : Nat} (h : Noted k R ol hs at') (hc : R'.ent.cur = R.ent.cur) : Noted k R' ol hs at' :=
  ⟨fun x hx => ⟨(h.all x hx).1, (h.all x hx).2.imp id fun e => ⟨hc.trans e.1, e.2⟩⟩, h.one⟩

theorem Noted.rotate {k : ByteArray} {R R' : Rem} {ol : List Nat} {hs : List (Nat × Nat)} {at' tu : Nat} (h : Noted k R ol hs at') (c : Fin 32) (hc : R.ent.cur = idB k c.val) : Noted k R' (ol ++ [c.val]) hs tu :=
  ⟨fun x hx => ⟨(h.all x hx).1, .inl (by
    rcases (h.all x hx).2 with h1 | h1
    · exact List.mem_append_left _ h1
    · have : x.1 = c.val := idB_inj k _ _ (Nat.lt_succ_of_lt (h.all x hx).1) (Nat.lt_succ_of_lt c.isLt) (h1.1.symm.trans hc)
      rw [this]; simp)⟩, h.one⟩

theorem Noted.push {k : ByteArray} {L : Loc} {R : Rem} {ol : List Nat} {hs : List (Nat × Nat)} {at' : Nat} (h : Noted k R ol hs at') (hI : PInv k L R ol) (c : Fin 32) (hc : R.ent.cur = idB k c.val) (hst : R.ent.st c.val = 2) : Noted k R ol (hs ++ [(c.val, at')]) at' := by
  have hold : ∀ x ∈ hs, x.1 = c.val → x.2 = at' := fun x hx e => by
    rcases (h.all x hx).2 with h1 | h1
    · have := (hI.old _ h1).2
      rw [e, hst] at this
      cases this
    · exact h1.2
  refine ⟨fun x hx => ?_, fun x hx y hy e => ?_⟩
  · rcases List.mem_append.1 hx with hx | hx
    · exact h.all x hx
    · obtain rfl := List.mem_singleton.1 hx
      exact ⟨c.isLt, .inr ⟨hc, rfl⟩⟩
  · rcases List.mem_append.1 hx with hx | hx
    · rcases List.mem_append.1 hy with hy | hy
      · exact h.one x hx y hy e
      · obtain rfl := List.mem_singleton.1 hy
        exact hold x hx e
    · obtain rfl := List.mem_singleton.1 hx
      rcases List.mem_append.1 hy with hy | hy
      · exact (hold y hy e.symm).symm
      · obtain rfl := List.mem_singleton.1 hy; rfl

/-- The last test: equal IDs stand on equal addresses. -/
theorem Noted.same {k : ByteArray} {R : Rem} {ol : List Nat} {hs : List (Nat × Nat)} {at' : Nat} (h : Noted k R ol hs at') {i j : Nat} {x y : Nat × Nat} (hx : hs[i]? = some x) (hy : hs[j]? = some y) (e : idB k x.1 = idB k y.1) : x.2 = y.2 :=
  h.one x (List.mem_of_getElem? hx) y (List.mem_of_getElem? hy) (idB_inj k _ _ (Nat.lt_succ_of_lt (h.all x (List.mem_of_getElem? hx)).1) (Nat.lt_succ_of_lt (h.all y (List.mem_of_getElem? hy)).1) e)

end Go.Proofs.YtmdfpknhfkgfoaaDoor


/- PathMigrationUnlinkable: the law's memory. No walk. -/
namespace Go.Proofs.YtmdfpknhfkgfoaaDoor
open Go.RowKit Go.Shelf Go.ChangeShapes Go.WideShapes

/-- A block of another type is none of a Paths'. -/
theorem IsPS.not_own {B b : Nat} {β : Int × Int → Nat} {S : PS} {v : Value} {W : World} {F : Array Value} {t : TypeId} (h : IsPS B β S v W) (hb : W.heap[b]? = some (.cells F t (0, 0))) (h1 : t ≠ 99) (h2 : t ≠ 90) (h3 : t ≠ 96) : ¬ POwn B β S v b := by
  rintro (e | e | ⟨x, hx, e⟩)
  · rw [e, h.blk] at hb
    injection hb with h4
    injection h4 with _ h5
    exact h1 h5.symm
  · exact row_type h.own b F hb h2 e
  · rw [e, h.ent x hx] at hb
    injection hb with h4
    injection h4 with _ h5
    exact h3 h5.symm
theorem IsPS.not_row {B base size n : Nat} {e : TypeId} {β : Int × Int → Nat} {S : PS} {v x : Value} {xs : List Value} {W : World} (h : IsPS B β S v W) (hr : W.ownsRow base e size x n xs) (h1 : e ≠ 99) (h2 : e ≠ 90) (h3 : e ≠ 96) : ∀ g, x.ownBlock = some g → ¬ POwn B β S v g := by
  intro g hg
  rcases hr.2 with ⟨rfl, _⟩ | ⟨g1, cap, cur, rfl, hb, hgb, _⟩
  · simp [Value.ownBlock] at hg
  · obtain rfl : g1 = g := by simpa [Value.ownBlock] using hg
    exact h.not_own hgb h1 h2 h3
theorem PAt.kept {Q : Nat → Prop} {w0 : World} {B : Nat} {β : Int × Int → Nat} {S : PS} {v : Value} {W W' : World} (h : PAt w0 B β S v W) (hk : Keeps Q W W') (hQ : ∀ b, Q b → ¬ POwn B β S v b) (hlo : ∀ b, Q b → w0.heap.size ≤ b) : PAt w0 B β S v W' :=
  ⟨h.is.keeps hk (fun q => hQ _ q (.inl rfl)) (fun _ hg q => hQ _ q (.inr (.inl hg))) (fun e he q => hQ _ q (.inr (.inr ⟨e, he, rfl⟩))), h.base, hk.below h.below hlo h.below.size, h.small⟩

theorem row_lt {W : World} {base size n : Nat} {e : TypeId} {v : Value} {xs : List Value} (h : W.ownsRow base e size v n xs) : ∀ g, v.ownBlock = some g → g < W.heap.size := by
  intro g hg
  rcases h.2 with ⟨rfl, _⟩ | ⟨g1, cap, cur, rfl, hb, hgb, _⟩
  · simp [Value.ownBlock] at hg
  · obtain rfl : g1 = g := by simpa [Value.ownBlock] using hg
    exact heap_lt hgb
theorem rows_ne7 {W : World} {b1 b2 s1 s2 n1 n2 : Nat} {e1 e2 : TypeId} {v1 v2 : Value} {x1 x2 : List Value} (h1 : W.ownsRow b1 e1 s1 v1 n1 x1) (h2 : W.ownsRow b2 e2 s2 v2 n2 x2) (he : e1 ≠ e2) : ∀ g, v1.ownBlock = some g → ¬ (v2.ownBlock = some g) := by
  intro g hg
  rcases h1.2 with ⟨rfl, _⟩ | ⟨g1, cap, cur, rfl, hb, hgb, _⟩
  · simp [Value.ownBlock] at hg
  · obtain rfl : g1 = g := by simpa [Value.ownBlock] using hg
    exact row_type h2 _ _ hgb he

def idVals (k : ByteArray) (hs : List (Nat × Nat)) : List Value := hs.map fun h => .string (idB k h.1)
def adVals (hs : List (Nat × Nat)) : List Value := hs.map fun h => .int .i64 (h.2 : Int)

/-- Where the law stands between two calls. -/
structure MuAt (Bl Br Bp : Nat) (k : ByteArray) (L : Loc) (R : Rem) (v : Value) (β : Int × Int → Nat) (S : PS) (vp ids adr : Value) (hs : List (Nat × Nat)) (w W : World) : Prop where
  loc : IsLoc Bl L W
  rem : IsRem Br R v W
  pth : PAt w Bp β S vp W
  bl : w.heap.size ≤ Bl
  br : w.heap.size ≤ Br
  vw : ∀ g, v.ownBlock = some g → w.heap.size ≤ g
  idr : W.ownsRow 0 9 1 ids hs.length (idVals k hs)
  adx : W.ownsRow 0 3 1 adr hs.length (adVals hs)
  iw : ∀ g, ids.ownBlock = some g → w.heap.size ≤ g
  aw : ∀ g, adr.ownBlock = some g → w.heap.size ≤ g
  va : ∀ g, v.ownBlock = some g → ¬ (adr.ownBlock = some g)

section
variable {Bl Br Bp : Nat} {k : ByteArray} {L : Loc} {R : Rem} {v : Value} {β : Int × Int → Nat} {S : PS} {vp ids adr : Value} {hs : List (Nat × Nat)} {w W W' : World}

theorem MuAt.of_below (h : MuAt Bl Br Bp k L R v β S vp ids adr hs w W) (hb : Below W.heap.size W W') : MuAt Bl Br Bp k L R v β S vp ids adr hs w W' :=
  ⟨h.loc.below hb, h.rem.below hb, h.pth.of_below hb, h.bl, h.br, h.vw, ownsRow_below h.idr hb, ownsRow_below h.adx hb, h.iw, h.aw, h.va⟩
theorem MuAt.alloc (h : MuAt Bl Br Bp k L R v β S vp ids adr hs w W) (o : Obj) : MuAt Bl Br Bp k L R v β S vp ids adr hs w (W.alloc o) := h.of_below ((Below.refl _ _).alloc (Nat.le_refl _) _)
theorem MuAt.drew (h : MuAt Bl Br Bp k L R v β S vp ids adr hs w W) : MuAt Bl Br Bp k L R v β S vp ids adr hs w W.drew := h.of_below (Below.refl _ _).drew
theorem MuAt.ne (h : MuAt Bl Br Bp k L R v β S vp ids adr hs w W) : Bl ≠ Br := fun e => by
  have h1 : W.heap[Bl]? = _ := h.loc.blk
  have h2 : W.heap[Br]? = _ := h.rem.blk
  rw [← e, h1] at h2
  injection h2 with h3
  injection h3 with _ h4
  exact absurd h4 (by decide)

/-- The Local has turned. -/
theorem MuAt.setLoc (h : MuAt Bl Br Bp k L R v β S vp ids adr hs w W) {L' : Loc} (hL : IsLoc Bl L' W') (ho : Only Bl W W') : MuAt Bl Br Bp k L' R v β S vp ids adr hs w W' :=
  ⟨hL, h.rem.kept ho.keeps (fun e => h.ne e.symm) (h.loc.blk.ne_row (by decide) h.rem.own),
    h.pth.kept ho.keeps (fun b e => by subst e; exact h.pth.is.not_own h.loc.blk (by decide) (by decide) (by decide)) (fun b e => by subst e; exact h.bl),
    h.bl, h.br, h.vw, ownsRow_keeps h.idr ho.keeps (h.loc.blk.ne_row (by decide) h.idr), ownsRow_keeps h.adx ho.keeps (h.loc.blk.ne_row (by decide) h.adx), h.iw, h.aw, h.va⟩

/-- The Remote has turned. -/
theorem MuAt.setRem (h : MuAt Bl Br Bp k L R v β S vp ids adr hs w W) {R' : Rem} {v' : Value} (hR : IsRem Br R' v' W') (hv : OldOrNew v v' W.heap.size) (hk : Keeps (fun i => i = Br ∨ v.ownBlock = some i) W W') : MuAt Bl Br Bp k L R' v' β S vp ids adr hs w W' :=
  ⟨h.loc.keeps hk (fun e => e.elim h.ne (fun e => h.loc.blk.ne_row (by decide) h.rem.own _ e rfl)), hR,
    h.pth.kept hk (fun b e => e.elim (fun e => by subst e; exact h.pth.is.not_own h.rem.blk (by decide) (by decide) (by decide)) (fun e => h.pth.is.not_row h.rem.own (by decide) (by decide) (by decide) b e)) (fun b e => e.elim (fun e => by subst e; exact h.br) (h.vw b)),
    h.bl, h.br, fun g hg => (hv g hg).elim (h.vw g) (fun e => Nat.le_trans h.pth.below.size e),
    ownsRow_keeps h.idr hk (fun g hg e => e.elim (h.rem.blk.ne_row (by decide) h.idr g hg) (rows_ne7 h.idr h.rem.own (by decide) g hg)),
    ownsRow_keeps h.adx hk (fun g hg e => e.elim (h.rem.blk.ne_row (by decide) h.adx g hg) (fun e => h.va g e hg)), h.iw, h.aw,
    fun g hg => (hv g hg).elim (h.va g) (fun e e2 => absurd (row_lt h.adx g e2) (Nat.not_lt.2 e))⟩

/-- The Paths has turned. -/
theorem MuAt.setPath (h : MuAt Bl Br Bp k L R v β S vp ids adr hs w W) {β' : Int × Int → Nat} {S' : PS} {vp' : Value} (hg : PGo w Bp β S vp β' S' vp' W W') : MuAt Bl Br Bp k L R v β' S' vp' ids adr hs w W' :=
  ⟨h.loc.keeps hg.keeps (h.pth.is.not_own h.loc.blk (by decide) (by decide) (by decide)), h.rem.kept hg.keeps (h.pth.is.not_own h.rem.blk (by decide) (by decide) (by decide)) (h.pth.is.not_row h.rem.own (by decide) (by decide) (by decide)), hg.now,
    h.bl, h.br, h.vw, ownsRow_keeps h.idr hg.keeps (h.pth.is.not_row h.idr (by decide) (by decide) (by decide)), ownsRow_keeps h.adx hg.keeps (h.pth.is.not_row h.adx (by decide) (by decide) (by decide)), h.iw, h.aw, h.va⟩

/-- While the second row is one longer than the first, or the first than the second: the rows alone. -/
structure MuMid (Bl Br Bp : Nat) (k : ByteArray) (L : Loc) (R : Rem) (v : Value) (β : Int × Int → Nat) (S : PS) (vp ids adr : Value) (hs : List (Nat × Nat)) (x : Nat × Nat) (w W : World) : Prop where
  loc : IsLoc Bl L W
  rem : IsRem Br R v W
  pth : PAt w Bp β S vp W
  bl : w.heap.size ≤ Bl
  br : w.heap.size ≤ Br
  vw : ∀ g, v.ownBlock = some g → w.heap.size ≤ g
  idr : W.ownsRow 0 9 1 ids (hs ++ [x]).length (idVals k (hs ++ [x]))
  adx : W.ownsRow 0 3 1 adr hs.length (adVals hs)
  iw : ∀ g, ids.ownBlock = some g → w.heap.size ≤ g
  aw : ∀ g, adr.ownBlock = some g → w.heap.size ≤ g
  va : ∀ g, v.ownBlock = some g → ¬ (adr.ownBlock = some g)

/-- An ID is noted. -/
theorem MuAt.setIds (h : MuAt Bl Br Bp k L R v β S vp ids adr hs w W) {ids' : Value} {x : Nat × Nat} (hr : W'.ownsRow 0 9 1 ids' (hs ++ [x]).length (idVals k (hs ++ [x]))) (hg : W.grownBy W' ids.ownBlock) (hv : OldOrNew ids ids' W.heap.size) : MuMid Bl Br Bp k L R v β S vp ids' adr hs x w W' :=
  have hk : Keeps (fun i => ids.ownBlock = some i) W W' := Keeps.of_grown hg (fun _ e => e)
  ⟨h.loc.keeps hk (fun e => h.loc.blk.ne_row (by decide) h.idr _ e rfl), h.rem.kept hk (fun e => h.rem.blk.ne_row (by decide) h.idr _ e rfl) (rows_ne7 h.rem.own h.idr (by decide)),
    h.pth.kept hk (h.pth.is.not_row h.idr (by decide) (by decide) (by decide)) h.iw, h.bl, h.br, h.vw, hr, ownsRow_keeps h.adx hk (rows_ne7 h.adx h.idr (by decide)),
    fun g hg => (hv g hg).elim (h.iw g) (fun e => Nat.le_trans h.pth.below.size e), h.aw, h.va⟩
theorem MuMid.alloc {x : Nat × Nat} (h : MuMid Bl Br Bp k L R v β S vp ids adr hs x w W) (o : Obj) : MuMid Bl Br Bp k L R v β S vp ids adr hs x w (W.alloc o) :=
  have hb : Below W.heap.size W (W.alloc o) := (Below.refl _ _).alloc (Nat.le_refl _) _
  ⟨h.loc.below hb, h.rem.below hb, h.pth.of_below hb, h.bl, h.br, h.vw, ownsRow_below h.idr hb, ownsRow_below h.adx hb, h.iw, h.aw, h.va⟩
/-- An address is noted. -/
theorem MuMid.setAdr {x : Nat × Nat} (h : MuMid Bl Br Bp k L R v β S vp ids adr hs x w W) {adr' : Value} (hr : W'.ownsRow 0 3 1 adr' (hs ++ [x]).length (adVals (hs ++ [x]))) (hg : W.grownBy W' adr.ownBlock) (hv : OldOrNew adr adr' W.heap.size) : MuAt Bl Br Bp k L R v β S vp ids adr' (hs ++ [x]) w W' :=
  have hk : Keeps (fun i => adr.ownBlock = some i) W W' := Keeps.of_grown hg (fun _ e => e)
  ⟨h.loc.keeps hk (fun e => h.loc.blk.ne_row (by decide) h.adx _ e rfl), h.rem.kept hk (fun e => h.rem.blk.ne_row (by decide) h.adx _ e rfl) h.va,
    h.pth.kept hk (h.pth.is.not_row h.adx (by decide) (by decide) (by decide)) h.aw, h.bl, h.br, h.vw, ownsRow_keeps h.idr hk (rows_ne7 h.idr h.adx (by decide)), hr, h.iw,
    fun g hg => (hv g hg).elim (h.aw g) (fun e => Nat.le_trans h.pth.below.size e),
    fun g hg e => (hv g e).elim (h.va g hg) (fun e => absurd (row_lt h.rem.own g hg) (by have := hk.size; omega))⟩
end

/-! ### The argument: a slice of ints -/
def ArgI (a : Option Addr) (len : Nat) (C : Nat → Int) (w : World) : Prop :=
  ∀ i, i < len → in63 (C i) ∧ ∃ b o, a = some ⟨b, o, none⟩ ∧ b < w.heap.size ∧ w.cell? ⟨b, o + i, none⟩ = some (.int .i64 (C i))

section
variable {H : Type} {enc : TypeId × Value → H}
theorem open_int1 {w : World} {base : Nat} {spare : Nat → Bool} {held : Bool} {fuel : Nat} {cs : List Value} {x : DataW H × List MemPlace} (h : DataW.trod enc Tryd.prog w base spare held fuel 3 cs = some x) : ∃ z : Int, in63 z ∧ cs = [.int .i64 z] := by
  obtain ⟨z, h1, _, h3⟩ := DataW.trod_int Tryd.underlying3 h
  exact ⟨z, wf_63 h3, h1⟩

set_option maxRecDepth 100000 in
theorem open_ints24 {W : World} {r : Reach} {b0 : Nat} {v : Value} {d : DataW H} {p : List MemPlace} (hv : Value.okWide Tryd.prog W r b0 65 v)
    (h : DataW.Trod enc Tryd.prog W 0 (fun _ => true) true 65 v d p) :
    ∃ (a : Option Addr) (len cap : Nat) (C : Nat → Int), v = .slice a len cap ∧ len ≤ maxLen ∧ ArgI a len C W := by
  obtain ⟨a0, l0, c0, rfl⟩ := okWide_slice Tryd.underlying65 hv
  obtain ⟨fuel, hf⟩ := h
  rcases Go.Deep.open_slice Tryd.underlying65 hf with ⟨h0, _⟩ | ⟨a, len, cap, m, n, D, Pl, hcs, hb, hl, hm, hmm, hx, hi⟩
  · simp only [Value.cells, List.cons.injEq, and_true] at h0
    rw [h0]
    exact ⟨none, 0, 0, fun _ => 0, rfl, by unfold maxLen; omega, fun i hi => absurd hi (Nat.not_lt_zero _)⟩
  · simp only [Value.cells, List.cons.injEq, and_true] at hcs
    rw [hcs]
    simp only [if_true] at hmm
    have key : ∀ i, i < len → ∃ z : Int, in63 z ∧ W.cell? (a.add (i * 1 + 0)) = some (.int .i64 z) := fun i hil => by
      obtain ⟨cs', hc, ht⟩ := hi i (by omega)
      rw [cells_int24] at hc
      obtain ⟨_, hlen, hat⟩ := World.cells?_some hc
      obtain ⟨z, hz, rfl⟩ := open_int1 ht
      exact ⟨z, hz, by rw [← Go.Deep.add_add, hat 0 (by decide)]; rfl⟩
    obtain ⟨C, hC⟩ := Go.Deep.choose_lt key
    refine ⟨some a, len, cap, C, rfl, Nat.le_trans hl hm, fun i hil => ⟨(hC i hil).1, ?_⟩⟩
    have h00 : W.cell? (a.add (0 * 1 + 0)) = some (.int .i64 (C 0)) := (hC 0 (by omega)).2
    have hspot : a.spot = none := by
      unfold World.cell? Addr.add at h00
      simp only [Nat.zero_mul, Nat.add_zero, if_true] at h00
      cases hs : a.spot with
      | none => rfl
      | some x => rw [hs] at h00; simp at h00; split at h00 <;> simp at h00
    obtain ⟨ab, ao, sp⟩ := a
    simp only at hspot
    subst hspot
    refine ⟨ab, ao, rfl, ?_, ?_⟩
    · unfold World.cell? at h00
      apply Classical.byContradiction
      intro hge
      rw [show W.heap[(Addr.add ⟨ab, ao, none⟩ (0 * 1 + 0)).block]? = none from by
        simp only [Addr.add, Nat.zero_mul, Nat.add_zero, if_true]
        exact Array.getElem?_eq_none (Nat.not_lt.1 hge)] at h00
      cases h00
    · rw [← (hC i hil).2]
      unfold Addr.add
      by_cases e : i * 1 + 0 = 0
      · rw [if_pos e, show ao + i = ao by omega]
      · rw [if_neg e]
        show _ = W.cell? ⟨ab, ao + (i * 1 + 0), none⟩
        rw [show ao + (i * 1 + 0) = ao + i by omega]
end
end Go.Proofs.YtmdfpknhfkgfoaaDoor


/- PathMigrationUnlinkable: the walk. -/
namespace Go.Proofs.YtmdfpknhfkgfoaaDoor
open Go.RowKit Go.Shelf

theorem slice_pos7 {w : World} {base : Nat} {e : TypeId} {v : Value} {n : Nat} {xs : List Value} (h : w.ownsRow base e 1 v n xs) (hn : 1 ≤ n) : ∃ (g cap : Nat), v = .slice (some ⟨g, 0, none⟩) n cap := by
  rcases h.2 with ⟨_, h2⟩ | ⟨g, cap, cur, hv, _⟩
  · omega
  · exact ⟨g, cap, hv⟩
theorem slice_any7 {w : World} {base size : Nat} {e : TypeId} {v : Value} {n : Nat} {xs : List Value} (h : w.ownsRow base e size v n xs) : ∃ (a : Option Addr) (cap : Nat), v = .slice a n cap ∧ (1 ≤ n → ∃ g, a = some ⟨g, 0, none⟩) := by
  rcases h.2 with ⟨h1, h2⟩ | ⟨g, cap, cur, hv, _⟩
  · subst h2; exact ⟨none, 0, h1, fun h => by omega⟩
  · exact ⟨_, cap, hv, fun _ => ⟨g, rfl⟩⟩

set_option maxRecDepth 100000 in
set_option maxHeartbeats 4000000 in
theorem unlink_any (aA aP : Addr) (seed : Int) (a : Option Addr) (len cap : Nat) (C : Nat → Int) (w : World) (hE : Errs aA aP w) (hs : in63 seed) (hA : ArgI a len C w) :
    Calls Tryd.prog 11 #[.int .i64 seed, .slice a len cap] w (SomeB (.bool true) w) := by
  have HE := Lib.hid hE; clear hE
  have HA := Lib.hid hA; clear hA
  obtain ⟨i0, hi, hz0, hz1, hz2⟩ := info_parts info_str
  obtain ⟨i1, gi, gz0, gz1, gz2⟩ := info_parts info_int
  go_enter Tryd.func11, Tryd.ntmps11
  go_wp2_with (fail)
  refine (sane24_any aA aP w HE.out).mono ?_
  rintro e w0 ⟨rfl, hb0⟩
  go_wp2_with (fail)
  refine (keysFrom04_any seed w0 hs.1 hs.2).mono ?_
  rintro e w1 ⟨k, km, kh, ki, rfl, hks, hb1⟩
  have hfld : ∀ W, (Instr.field 70 (.agg #[.string k, .string ki, .string km, .string kh]) 0).run Tryd.prog W = .ok (.string k) W := fun _ => by kernel_rfl
  go_wp2_with (fail)
  have Hks := Lib.hid hks; clear hks
  refine (newLocal_yes k w1 Hks.out).mono ?_
  rintro e w2 ⟨B, rfl, hL, hB, hb2⟩
  have HL : Hid (IsLoc B (locN k 1) w2) := hL
  have HB : Hid (Below w.heap.size w w2) := below_then (below_then hb0 hb1) hb2
  have hBw : w.heap.size ≤ B := Nat.le_trans (below_then hb0 hb1).size hB
  clear hL hb0 hb1 hb2 hB
  go_wp2_with (fail)
  refine (active_any B (locN k 1) _ HL.out).mono ?_
  rintro e w3 ⟨v0, rfl, hown, hb3⟩
  rw [locN_actives] at hown
  obtain ⟨g0, cp0, rfl⟩ := slice_pos7 hown (Nat.le_refl _)
  have HL3 := Lib.hid (HL.out.below hb3)
  have HB3 := Lib.hid (below_then HB.out hb3)
  clear hown hb3 HL HB
  go_wp2_with (fail)
  refine (active_any B (locN k 1) _ HL3.out).mono ?_
  rintro e w4 ⟨v1, rfl, hown, hb4⟩
  rw [locN_actives] at hown
  obtain ⟨g1, cp1, rfl⟩ := slice_pos7 hown (Nat.le_refl _)
  have HL4 := Lib.hid (HL3.out.below hb4)
  have HB4 := Lib.hid (below_then HB3.out hb4)
  have hc0 := own_src hown 0 (.string (idB k 0)) rfl
  simp only [Addr.add_mid, Nat.zero_add] at hc0
  clear hown hb4 HL3 HB3
  go_wp2_with (fail)
  refine (newRemote_yes (idB k 0) w4 (idB_size k 0)).mono ?_
  rintro e w5 ⟨B2, rfl, hR, hB2, hb5⟩
  have HL5 := Lib.hid (HL4.out.below hb5)
  have HR5 := Lib.hid hR
  have HB5 := Lib.hid (below_then HB4.out hb5)
  have hB2w : w.heap.size ≤ B2 := Nat.le_trans HB4.out.size hB2
  clear hR hB2 hb5 HL4 HB4 hc0
  go_wp2_with (fail)
  refine (pnew_yes 1 100 true _ rfl).mono ?_
  rintro e w6 ⟨Bp, β1, v1, rfl, hP⟩
  have HP : Hid (MuAt B B2 Bp k (locN k 1) (newRem (idB k 0)) (.slice none 0 0) β1 (PS1 1 100 true) v1 (.slice none 0 0) (.slice none 0 0) [] w w6) :=
    ⟨HL5.out.below hP.below, HR5.out.below hP.below, hP.base_mono HB5.out, hBw, hB2w, fun g hg => by simp [Value.ownBlock] at hg, World.ownsRow_nil _ _ _ _, World.ownsRow_nil _ _ _ _, fun g hg => by simp [Value.ownBlock] at hg, fun g hg => by simp [Value.ownBlock] at hg, fun g hg => by simp [Value.ownBlock] at hg⟩
  have HI := Lib.hid (pinv_new k)
  have HN := Lib.hid (noted_nil k (newRem (idB k 0)) 1)
  have HW := Lib.hid way_PS1
  clear hP HL5 HR5 HB5
  go_wp2_with (fail)
  go_loopg [12, 13, 14, 15] 30 (fun g ids adr at' i wr => ∃ (j m : Nat) (L : Loc) (R : Rem) (v : Value) (β : Int × Int → Nat) (S : PS) (vp : Value) (hs : List (Nat × Nat)) (ol : List Nat), g + j = 30 ∧ i = .int .i64 j ∧ at' = .int .i64 m ∧ Hid (MuAt B B2 Bp k L R v β S vp ids adr hs w wr) ∧ Hid (PInv k L R ol) ∧ Hid (Noted k R ol hs m) ∧ Hid (Way S m (3 * j)) ∧ R.left.length ≤ j ∧ hs.length = j)
  case atStart => exact ⟨0, 1, _, _, _, _, _, _, _, _, rfl, rfl, rfl, HP, HI, HN, HW, Nat.le_refl _, rfl⟩
  case round =>
    clear HP HI HN HW
    obtain ⟨j, m, L, R, v, β, S, vp, hs, ol, hg, rfl, rfl, HP, HI, HN, HW, hlf, hhs⟩ := hrel
    by_cases hjl : j < len
    · by_cases hj30 : j < 30
      · obtain ⟨hz, b, o, rfl, hbw, hcell⟩ := HA.out j hjl
        have HC1 := Lib.hid hcell; clear hcell
        go_wp2_with (fail)
        have h30 : decide ((j : Int) < 30) = true := decide_eq_true (by omega)
        rw [h30]
        clear h30
        go_loopg [16, 17] 33 (fun g _ _ wx => ∃ (L' : Loc) (R' : Rem) (v' : Value), g + L'.n = 33 + L.n ∧ Hid (MuAt B B2 Bp k L' R' v' β S vp u12 u13 hs w wx) ∧ Hid (PInv k L' R' ol) ∧ Hid (Noted k R' ol hs m) ∧ R'.left.length ≤ j)
        case atStart => exact ⟨L, R, v, rfl, HP, HI, HN, hlf⟩
        case round =>
          clear HP HI HN hlf
          obtain ⟨L', R', v', hg2, HP, HI, HN, hlf⟩ := hrel
          go_wp2_with (fail)
          refine (issue_any B L' _ HP.out.loc).mono ?_
          rintro e w4 ⟨ty, seq, c, err, L4, rfl, hL4, hO4, hcase⟩
          have HP4 := Lib.hid ((HP.out.setLoc hL4 hO4).alloc (.cells (frameC ty seq 0 c) 79))
          have HF4 := Lib.hid (heap_alloc_new w4 (.cells (frameC ty seq 0 c) 79))
          clear hL4 hO4 HP
          rcases hcase with ⟨rfl, rfl, rfl, rfl, rfl, hn32, hf4⟩ | ⟨rfl, rfl, rfl, rfl, rfl, _⟩
          · have HI4 := Lib.hid (HI.out.issue hn32 hf4)
            have hkey := HI.out.key
            rw [hkey] at HF4 HP4
            have x0 := cell_of_heap HF4.out 0
            have x1 := cell_of_heap HF4.out 1
            have x2 := cell_of_heap HF4.out 2
            have x3 := cell_of_heap HF4.out 3
            have x4 := cell_of_heap HF4.out 4
            have x5 := cell_of_heap HF4.out 5
            have x6 := cell_of_heap HF4.out 6
            have x7 := cell_of_heap HF4.out 7
            have x8 := cell_of_heap HF4.out 8
            have x9 := cell_of_heap HF4.out 9
            have x10 := cell_of_heap HF4.out 10
            have x11 := cell_of_heap HF4.out 11
            have x12 := cell_of_heap HF4.out 12
            go_wp2_with (fail)
            refine (add_main B2 R' v' _ HP4.out.rem _ _ _ _ _ _ _ _ _ L'.n 0 (L'.n : Int) 0 rfl rfl (idB k L'.n) (idB_size _ _) (Nat.zero_le _) (by omega) (HI4.out.fits L'.n (Nat.lt_succ_self _)) (by rw [HI4.out.bound]; decide) (by omega)).mono ?_
            rintro e w5 ⟨he, v5, hR5, ho5, hk5⟩
            obtain ⟨ha1, ha2, ha3⟩ := HI4.out.add L'.n (Nat.lt_succ_self _)
            have hcu := HI4.out.add_cur L'.n (Nat.lt_succ_self _)
            rw [ha1] at he
            subst he
            have HP5 := Lib.hid (HP4.out.setRem hR5 ho5 hk5)
            have HI5 := Lib.hid ha2
            have HN5 := Lib.hid (HN.out.cur hcu)
            have hlf5 : (R'.add L'.n 0 (idB k L'.n)).2.left.length ≤ j := by rw [ha3]; exact hlf
            clear hR5 ho5 hk5 ha1 ha2 ha3 hcu HP4 HI4 HN HI HF4 x0 x1 x2 x3 x4 x5 x6 x7 x8 x9 x10 x11 x12
            go_wp2
            go_roundg (gk - 1)
            case measure => omega
            case rel => exact ⟨L'.add, _, v5, (by show _ + (L'.n + 1) = _; omega), HP5, HI5, HN5, hlf5⟩
          · clear HF4
            have hc1 := (HP4.out.pth.below.cell (p := ⟨b, o + j, none⟩) hbw).trans HC1.out
            go_wp2_with (fail)
            refine (pick24_any (C j) 4 _ (by decide) (by decide) hz.1 hz.2).mono ?_
            rintro e w5 ⟨rfl, rfl⟩
            have hpl := pkN_lt (C j) 4 (by decide)
            generalize pkN (C j) 4 = p at *
            clear hc1
            obtain ⟨tu, hT1, hT4, htu⟩ : ∃ tu : Nat, 1 ≤ tu ∧ tu ≤ 4 ∧ ((1 : Int) + (p : Int)) = (tu : Int) := ⟨1 + p, by omega, by omega, by omega⟩
            go_upto_region 20 with (fail)
            go_cut [96] (fun x wx => ∃ (t : Nat) (R2 : Rem) (v2 : Value) (ol2 : List Nat), ((x = .bool false ∧ t = m) ∨ (x = .bool true ∧ t = tu ∧ tu ≠ m)) ∧ Hid (MuAt B B2 Bp k L4 R2 v2 β S vp u12 u13 hs w wx) ∧ Hid (PInv k L4 R2 ol2) ∧ Hid (Noted k R2 ol2 hs t) ∧ R2.left.length ≤ j + 1)
            case first =>
              by_cases hto : tu = m
              · have hb : ((tu : Int) != (m : Int)) = false := by rw [hto]; simp
                clear hto
                go_wp2
                go_meet
                exact ⟨m, R', v', ol, .inl ⟨rfl, rfl⟩, HP4, HI, HN, by omega⟩
              · have hb : ((tu : Int) != (m : Int)) = true := by rw [bne_iff_ne]; omega
                have Hto := Lib.hid hto
                clear hto
                go_wp2_with (fail)
                by_cases hu : hits (R'.ent.isIn 1) 32 = []
                · refine (rotate_no B2 R' v' _ HP4.out.rem hu).mono ?_
                  rintro e w6 ⟨rfl, hb6⟩
                  have HP6 := Lib.hid (HP4.out.of_below hb6)
                  clear hu hb6
                  go_wp2
                  go_meet
                  exact ⟨m, R', v', ol, .inl ⟨rfl, rfl⟩, HP6, HI, HN, by omega⟩
                · obtain ⟨c, hc1, hI2, hc3⟩ := HI.out.rotate hu
                  refine (rotate_yes B2 R' v' _ HP4.out.rem (by omega) hu).mono ?_
                  rintro e w6 ⟨rfl, v6, hR6, ho6, hk6⟩
                  have HP6 := Lib.hid (HP4.out.setRem hR6 ho6 hk6)
                  have HI6 := Lib.hid hI2
                  have HN6 := Lib.hid (HN.out.rotate (R' := R'.rotate) (tu := tu) c hc1)
                  have hl6 : R'.rotate.left.length ≤ j + 1 := by rw [hc3]; simp; omega
                  clear hR6 ho6 hk6 hu hc1 hI2 hc3 HP4 HI HN
                  go_wp2
                  go_meet
                  exact ⟨tu, _, v6, _, .inr ⟨rfl, rfl, Hto.out⟩, HP6, HI6, HN6, hl6⟩
            case rest =>
              obtain ⟨t, R2, v2, ol2, hx, HP2, HI2, HN2, hlf2⟩ := hcut
              clear HP4 HI HN
              go_upto_if 96 with (fail)
              go_cut [14] (fun at' wx => ∃ (t : Nat) (L2 : Loc) (R2 : Rem) (v2 : Value) (β2 : Int × Int → Nat) (S2 : PS) (vp2 : Value) (ol2 : List Nat), at' = .int .i64 t ∧ Hid (MuAt B B2 Bp k L2 R2 v2 β2 S2 vp2 u12 u13 hs w wx) ∧ Hid (PInv k L2 R2 ol2) ∧ Hid (Noted k R2 ol2 hs t) ∧ Hid (Way S2 t (3 * j + 3)) ∧ R2.left.length ≤ j + 1)
              case first =>
                rcases hx with ⟨rfl, rfl⟩ | ⟨rfl, rfl, hne⟩
                · go_wp2
                  go_meet
                  exact ⟨t, L4, R2, v2, β, S, vp, ol2, rfl, HP2, HI2, HN2, HW.out.mono (by omega), hlf2⟩
                · have Hne := Lib.hid hne; clear hne
                  go_wp2_with (fail)
                  refine (received_any aA aP w Bp β S vp (j : Int) (t : Int) 100 10 _ HE.out HP2.out.pth HW.out.good.prev (HW.out.good.rcvs HP2.out.pth.is.nd (by omega) 10)).mono ?_
                  rintro e w7 ⟨rfl, β3, vp3, hG⟩
                  obtain ⟨hr1, hr2, hr3⟩ := way_recv (i := j) HP2.out.pth.is.nd HW.out hT1 hT4 (by omega)
                  have HP3 := Lib.hid (HP2.out.setPath hG)
                  have HW3 := Lib.hid hr2
                  have HG3 := Lib.hid hr3
                  rw [hr1]
                  generalize (S.received (j : Int) (t : Int) 100 10).2 = S3 at *
                  clear hG hr1 hr2 hr3 HP2
                  go_wp2_with (fail)
                  refine (migrate_any aA aP w Bp β3 S3 vp3 (t : Int) 100 _ (HE.out.below HP3.out.pth.below) HP3.out.pth).mono ?_
                  rintro e w8 ⟨rfl, β4, vp4, hG⟩
                  obtain ⟨hr1, hr2, hr3⟩ := way_migrate HW3.out hT1 hT4 Hne.out HG3.out
                  have HP4 := Lib.hid (HP3.out.setPath hG)
                  have HW4 := Lib.hid hr2
                  have HG4 := Lib.hid hr3
                  rw [hr1]
                  generalize (S3.migrate ((t : Int), 100)).2 = S4 at *
                  clear hG hr1 hr2 hr3 HP3 HW3 HG3
                  go_wp2_with (fail)
                  refine (validate_any aA aP w Bp β4 S4 vp4 (t : Int) 100 _ (HE.out.below HP4.out.pth.below) HP4.out.pth).mono ?_
                  rintro e w9 ⟨rfl, β5, vp5, hG⟩
                  obtain ⟨hr1, hr2⟩ := way_validate HW4.out HG4.out
                  have HP5 := Lib.hid (HP4.out.setPath hG)
                  have HW5 := Lib.hid hr2
                  rw [hr1]
                  generalize (S4.validate ((t : Int), 100)).2 = S5 at *
                  clear hG hr1 hr2 HP4 HW4 HG4
                  go_wp2_with (fail)
                  refine (retired_any B2 R2 v2 _ HP5.out.rem).mono ?_
                  rintro e w10 ⟨rfl, hR2, hO2⟩
                  have hrow := ownsRow_keeps HP5.out.rem.own hO2.keeps (HP5.out.rem.blk.ne_row (by decide) HP5.out.rem.own)
                  have HP6 := Lib.hid (HP5.out.setRem hR2 (fun g hg => by simp [Value.ownBlock] at hg) (hO2.keeps.mono (fun _ e => .inl e)))
                  have HI6 := Lib.hid HI2.out.retired
                  have HN6 := Lib.hid (HN2.out.cur (R' := { R2 with left := [] }) rfl)
                  have Hl := Lib.hid HI2.out.lft
                  obtain ⟨al, cl, rfl, hal⟩ := slice_any7 hrow
                  have Hrow := Lib.hid hrow
                  clear hrow hR2 hO2 HP5 HI2 HN2
                  go_wp2_with (fail)
                  go_loopw [118] (fun i wx => ∃ (q : Nat) (L5 : Loc), q ≤ R2.left.length ∧ i = .int .i64 q ∧ Hid (MuAt B B2 Bp k L5 { R2 with left := [] } (.slice none 0 0) β5 S5 vp5 u12 u13 hs w wx) ∧ Hid (PInv k L5 { R2 with left := [] } ol2) ∧ Hid (L5.n = L4.n) ∧ Hid (wx.ownsRow 0 3 1 (.slice al R2.left.length cl) R2.left.length (natVals R2.left))) (fun i _ => R2.left.length - (intOf i).toNat)
                  case atStart => exact ⟨0, L4, Nat.zero_le _, rfl, HP6, HI6, rfl, Hrow⟩
                  case round =>
                    clear HP6 HI6 Hrow
                    obtain ⟨q, L5, hq, rfl, HP6, HI6, HLn, Hrow⟩ := hrel
                    by_cases hql : q < R2.left.length
                    · obtain ⟨gl, rfl⟩ := hal (by omega)
                      obtain ⟨x, hx⟩ : ∃ x, R2.left[q]? = some x := ⟨_, List.getElem?_eq_getElem hql⟩
                      have hc := own_src Hrow.out q (.int .i64 (x : Int)) (by simp [natVals, hx])
                      simp only [Addr.add_mid, Nat.zero_add] at hc
                      obtain ⟨h1, h2⟩ := Hl.out x (List.mem_of_getElem? hx)
                      have Hst := Lib.hid h2
                      clear hx h2
                      go_wp2_with (fail)
                      refine (retire_yes B x L5 _ HP6.out.loc (by rw [HLn.out]; exact h1)).mono ?_
                      rintro e w11 ⟨rfl, hL3, hO3⟩
                      have HP7 := Lib.hid (HP6.out.setLoc hL3 hO3)
                      have HI7 := Lib.hid (HI6.out.retire x Hst.out)
                      have Hrow7 := Lib.hid (ownsRow_keeps Hrow.out hO3.keeps (HP6.out.loc.blk.ne_row (by decide) Hrow.out))
                      clear hL3 hO3 HP6 HI6 Hrow hc
                      go_wp2
                      go_roundw
                      case rel => exact ⟨q + 1, L5.retire x, by omega, by go_num, HP7, HI7, HLn, Hrow7⟩
                      case measure => simp [intOf]; omega
                    · go_wp2
                      go_meet
                      exact ⟨t, L5, _, _, β5, S5, vp5, ol2, rfl, HP6, HI6, HN6, HW5.out.mono (by omega), Nat.zero_le _⟩
              case rest =>
                clear HP2 HI2 HN2 hlf2 hx HW
                obtain ⟨m2, L2, R2, v2, β2, S2, vp2, ol2, rfl, HP2, HI2, HN2, HW2, hlf2⟩ := hcut
                go_wp2_with (fail)
                refine (pactive_is Bp β2 S2 vp2 _ HP2.out.pth.is (m2 : Int) 100 HW2.out.act).mono ?_
                rintro e w6 ⟨rfl, hb6⟩
                have HP3 := Lib.hid (HP2.out.of_below hb6)
                clear hb6 HP2
                obtain ⟨c, hc1, hc2, hc3, hc4, hc5⟩ := HI2.out.current
                have hc32 := c.isLt
                have Hc := Lib.hid (And.intro hc2 (And.intro hc4 hc5))
                clear hc1 hc2 hc4 hc5
                go_wp2_with (fail)
                refine (current_any B2 R2 v2 _ HP3.out.rem).mono ?_
                rintro e w7 ⟨rfl, hb7⟩
                rw [Hc.out.1]
                have HP4 := Lib.hid (HP3.out.of_below hb7)
                clear hb7 HP3
                go_wp2_with (fail)
                refine (owns_loop B L2 (idB k c.val) c.val _ HP4.out.loc (by omega) (fun i hi h => by
                  have h2 := h.2
                  rw [HI2.out.key] at h2
                  have := idB_inj k i c.val (by omega) (by omega) h2
                  omega) (.inr ⟨hc3, Hc.out.2.1, by rw [HI2.out.key]⟩)).mono ?_
                rintro e w' ⟨rfl, rfl⟩
                rw [if_pos hc3, decide_eq_true hc3]
                have HPa := Lib.hid (HP4.out.alloc (.cells #[.string (idB k c.val)] 9))
                clear HP4
                go_upto_region 38 with (at_builtin; refine wpList_append_where _ rfl _ _ 72 rfl 9 i0 (.string ⟨#[]⟩) 1 16 Tryd.underlying72 hi hz0 hz1 hz2 rfl (by decide) _ _ _ rfl HPa.out.idr ⟨w7.heap.size, 0, none⟩ 1 1 [.string (idB k c.val)] rfl rfl (cell_one_new _ _ _) (by simp [Value.oneCell']) (by unfold maxLen; omega) (by omega) ?_; intro v8 w8 hown8 hgrow8 hwh8)
                have HM := Lib.hid ((HPa.out.setIds (x := (c.val, m2)) (by simpa [idVals] using hown8) hgrow8 hwh8).alloc (.cells #[.int .i64 (m2 : Int)] 3))
                clear HPa hown8 hgrow8 hwh8
                go_wp2_with (at_builtin; refine wpList_append_where _ rfl _ _ 65 rfl 3 i1 (.int .i64 0) 1 8 Tryd.underlying65 gi gz0 gz1 gz2 rfl (by decide) _ _ _ rfl HM.out.adx ⟨w8.heap.size, 0, none⟩ 1 1 [.int .i64 (m2 : Int)] rfl rfl (cell_one_new _ _ _) (by simp [Value.oneCell']) (by unfold maxLen; omega) (by omega) ?_; intro v9 w9 hown9 hgrow9 hwh9)
                have HP9 := Lib.hid (HM.out.setAdr (by simpa [adVals] using hown9) hgrow9 hwh9)
                have HN9 := Lib.hid (HN2.out.push HI2.out c Hc.out.1 Hc.out.2.2)
                clear HM hown9 hgrow9 hwh9 HN2
                go_wp2
                go_roundg (29 - j)
                case measure => omega
                case rel => exact ⟨j + 1, m2, L2, R2, v2, β2, S2, vp2, hs ++ [(c.val, m2)], ol2, by omega, by go_num, rfl, HP9, HI2, HN9, HW2.out.mono (by omega), hlf2, by simp; omega⟩
      · have Hhs := Lib.hid hhs
        have hi' := HP.out.idr
        have ha' := HP.out.adx
        rw [hhs] at hi' ha'
        obtain ⟨ai, ci, rfl, hai⟩ := slice_any7 hi'
        obtain ⟨aj, cj, rfl, haj⟩ := slice_any7 ha'
        clear hhs hi' ha'
        go_wp2_with (fail)
        go_loopw [26] (fun i wx => ∃ q : Nat, q ≤ j ∧ i = .int .i64 q ∧ Hid (MuAt B B2 Bp k L R v β S vp (.slice ai j ci) (.slice aj j cj) hs w wx)) (fun i _ => j - (intOf i).toNat)
        case atStart => exact ⟨0, Nat.zero_le _, rfl, HP⟩
        case round =>
          clear HP
          obtain ⟨q, hq, rfl, HP⟩ := hrel
          by_cases hqj : q < j
          · go_wp2_with (fail)
            go_loopw [27] (fun i wx => ∃ r : Nat, r ≤ q ∧ i = .int .i64 r ∧ Hid (MuAt B B2 Bp k L R v β S vp (.slice ai j ci) (.slice aj j cj) hs w wx)) (fun i _ => q - (intOf i).toNat)
            case atStart => exact ⟨0, Nat.zero_le _, rfl, HP⟩
            case round =>
              clear HP
              obtain ⟨r, hr, rfl, HP⟩ := hrel
              by_cases hrq : r < q
              · go_wp2_with (fail)
                obtain ⟨gi', rfl⟩ := hai (by omega)
                obtain ⟨gj', rfl⟩ := haj (by omega)
                obtain ⟨x, hx⟩ : ∃ x, hs[q]? = some x := ⟨_, List.getElem?_eq_getElem (by rw [Hhs.out]; exact hqj)⟩
                obtain ⟨y, hy⟩ : ∃ y, hs[r]? = some y := ⟨_, List.getElem?_eq_getElem (by rw [Hhs.out]; omega)⟩
                have hI := HP.out.idr
                have hJ := HP.out.adx
                rw [Hhs.out] at hI hJ
                have c1 := own_src hI q (.string (idB k x.1)) (by simp [idVals, hx])
                have c2 := own_src hI r (.string (idB k y.1)) (by simp [idVals, hy])
                have d1 := own_src hJ q (.int .i64 (x.2 : Int)) (by simp [adVals, hx])
                have d2 := own_src hJ r (.int .i64 (y.2 : Int)) (by simp [adVals, hy])
                simp only [Addr.add_mid, Nat.zero_add] at c1 c2 d1 d2
                by_cases he : idB k x.1 = idB k y.1
                · have hb := str_eq_true7 he
                  have h2 : x.2 = y.2 := HN.out.same hx hy he
                  rw [← h2] at d2
                  clear he h2 hx hy hI hJ
                  go_quiet (fail)
                  go_wp2
                  go_roundw
                  case rel => exact ⟨r + 1, by omega, by go_num, HP.out.of_below (below_drewN _ _)⟩
                  case measure => simp [intOf]; omega
                · have hb := str_eq_false7 he
                  clear he hx hy hI hJ
                  go_quiet (fail)
                  go_wp2
                  go_roundw
                  case rel => exact ⟨r + 1, by omega, by go_num, HP.out.of_below (below_drewN _ _)⟩
                  case measure => simp [intOf]; omega
              · go_wp2
                go_roundw
                case rel => exact ⟨q + 1, by omega, by go_num, HP⟩
                case measure => simp [intOf]; omega
          · go_wp2
            go_ret
            exact ⟨rfl, HP.out.pth.below⟩
    · have Hhs := Lib.hid hhs
      have hi' := HP.out.idr
      have ha' := HP.out.adx
      rw [hhs] at hi' ha'
      obtain ⟨ai, ci, rfl, hai⟩ := slice_any7 hi'
      obtain ⟨aj, cj, rfl, haj⟩ := slice_any7 ha'
      clear hhs hi' ha'
      go_wp2_with (fail)
      go_loopw [26] (fun i wx => ∃ q : Nat, q ≤ j ∧ i = .int .i64 q ∧ Hid (MuAt B B2 Bp k L R v β S vp (.slice ai j ci) (.slice aj j cj) hs w wx)) (fun i _ => j - (intOf i).toNat)
      case atStart => exact ⟨0, Nat.zero_le _, rfl, HP⟩
      case round =>
        clear HP
        obtain ⟨q, hq, rfl, HP⟩ := hrel
        by_cases hqj : q < j
        · go_wp2_with (fail)
          go_loopw [27] (fun i wx => ∃ r : Nat, r ≤ q ∧ i = .int .i64 r ∧ Hid (MuAt B B2 Bp k L R v β S vp (.slice ai j ci) (.slice aj j cj) hs w wx)) (fun i _ => q - (intOf i).toNat)
          case atStart => exact ⟨0, Nat.zero_le _, rfl, HP⟩
          case round =>
            clear HP
            obtain ⟨r, hr, rfl, HP⟩ := hrel
            by_cases hrq : r < q
            · go_wp2_with (fail)
              obtain ⟨gi', rfl⟩ := hai (by omega)
              obtain ⟨gj', rfl⟩ := haj (by omega)
              obtain ⟨x, hx⟩ : ∃ x, hs[q]? = some x := ⟨_, List.getElem?_eq_getElem (by rw [Hhs.out]; exact hqj)⟩
              obtain ⟨y, hy⟩ : ∃ y, hs[r]? = some y := ⟨_, List.getElem?_eq_getElem (by rw [Hhs.out]; omega)⟩
              have hI := HP.out.idr
              have hJ := HP.out.adx
              rw [Hhs.out] at hI hJ
              have c1 := own_src hI q (.string (idB k x.1)) (by simp [idVals, hx])
              have c2 := own_src hI r (.string (idB k y.1)) (by simp [idVals, hy])
              have d1 := own_src hJ q (.int .i64 (x.2 : Int)) (by simp [adVals, hx])
              have d2 := own_src hJ r (.int .i64 (y.2 : Int)) (by simp [adVals, hy])
              simp only [Addr.add_mid, Nat.zero_add] at c1 c2 d1 d2
              by_cases he : idB k x.1 = idB k y.1
              · have hb := str_eq_true7 he
                have h2 : x.2 = y.2 := HN.out.same hx hy he
                rw [← h2] at d2
                clear he h2 hx hy hI hJ
                go_quiet (fail)
                go_wp2
                go_roundw
                case rel => exact ⟨r + 1, by omega, by go_num, HP.out.of_below (below_drewN _ _)⟩
                case measure => simp [intOf]; omega
              · have hb := str_eq_false7 he
                clear he hx hy hI hJ
                go_quiet (fail)
                go_wp2
                go_roundw
                case rel => exact ⟨r + 1, by omega, by go_num, HP.out.of_below (below_drewN _ _)⟩
                case measure => simp [intOf]; omega
            · go_wp2
              go_roundw
              case rel => exact ⟨q + 1, by omega, by go_num, HP⟩
              case measure => simp [intOf]; omega
        · go_wp2
          go_ret
          exact ⟨rfl, HP.out.pth.below⟩
end Go.Proofs.YtmdfpknhfkgfoaaDoor


