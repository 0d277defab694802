/- peregrineref07.Remote as a list: what it computes, and why it answers as cid.Remote does (plain law). -/
import Derived.Test.YtmdfpknhfkgfoaaPair
namespace Go.Proofs.Ytmdfpknhfkgfoaa
open Go.RowKit Go.Shelf

/-! ### The reference's Remote, as a list -/
structure EE where
  seq : Nat
  id : ByteArray
  gone : Bool
structure RR where
  es : List EE
  now : Nat
  bound : Nat
  left : List Nat

/-- Unused and not the current one. -/
def EE.free (now : Nat) (e : EE) : Bool := !e.gone && e.seq != now
def EE.fit (seq : Nat) (c : ByteArray) (e : EE) : Bool := (e.seq == seq) == decide (e.id = c)
/-- To be retired at bound b. -/
def EE.hit (b : Nat) (e : EE) : Bool := !e.gone && decide (e.seq < b)
def EE.cut (b : Nat) (e : EE) : EE := if e.hit b then { e with gone := true } else e
def RR.live (X : RR) : Nat := X.es.countP fun e => !e.gone
def RR.cur (X : RR) : ByteArray := match X.es.find? (fun e => e.seq == X.now) with | some e => e.id | none => ⟨#[]⟩
def RR.nextOf (X : RR) : Option EE := X.es.find? (EE.free X.now)
def RR.next (X : RR) : RR := match X.nextOf with | some e => { X with now := e.seq } | none => X
def RR.known (X : RR) (seq : Nat) : Bool := X.es.any fun e => e.seq == seq
/-- Where an ID is put, among the first k. -/
def slot (es : List EE) (s : Nat) : Nat → Nat
  | 0 => 0
  | k + 1 => match es[k]? with | some e => if s < e.seq then slot es s k else k + 1 | none => k + 1
def RR.ins (X : RR) (e : EE) : RR := { X with es := X.es.take (slot X.es e.seq X.es.length) ++ e :: X.es.drop (slot X.es e.seq X.es.length) }
def RR.put (X : RR) (seq : Nat) (c : ByteArray) : RR := if X.known seq then X else X.ins ⟨seq, c, false⟩
def RR.bnd (X : RR) (ret : Nat) : RR := { X with bound := max X.bound ret }
def RR.prune (X : RR) : RR := { X with es := X.es.map (EE.cut X.bound), left := X.left ++ (X.es.filter (EE.hit X.bound)).map EE.seq }
def RR.lost (X : RR) : Bool := X.es.any fun e => e.hit X.bound && e.seq == X.now
def RR.made (X : RR) (seq ret : Nat) (c : ByteArray) : RR := (X.put seq c).bnd ret
def RR.fin (Y : RR) (lost : Bool) (X : RR) : Int × RR :=
  if lost = true ∧ Y.nextOf = none then (70, X)
  else if 4 < (if lost then Y.next else Y).live then (71, X) else (0, if lost then Y.next else Y)
def RR.add (X : RR) (seq ret : Nat) (c : ByteArray) : Int × RR :=
  if X.es.all (EE.fit seq c) = false then (70, X) else RR.fin (X.made seq ret c).prune (X.made seq ret c).lost X
/-- The current ID at index i is retired, the next one is taken. -/
def RR.turn (X : RR) (i : Nat) (e : EE) : RR := RR.next { X with es := X.es.set i { e with gone := true }, left := X.left ++ [e.seq] }

/-! ### The entries as a list -/
def entE (E : Ent) (j : Nat) : EE := ⟨j, E.ids j, E.st j == 3⟩
def entL (E : Ent) (l : List Nat) : List EE := (l.filter fun j => E.st j != 0).map (entE E)
def ents (E : Ent) : List EE := entL E (List.range 32)

theorem entL_append (E : Ent) (a b : List Nat) : entL E (a ++ b) = entL E a ++ entL E b := by simp [entL]
theorem entL_one (E : Ent) (j : Nat) (h : E.st j ≠ 0) : entL E [j] = [entE E j] := by simp [entL, h]
theorem entL_none (E : Ent) (j : Nat) (h : E.st j = 0) : entL E [j] = [] := by simp [entL, h]
theorem entL_cons (E : Ent) (j : Nat) (l : List Nat) : entL E (j :: l) = entL E [j] ++ entL E l := entL_append E [j] l
theorem entL_mem {E : Ent} {l : List Nat} {e : EE} (h : e ∈ entL E l) : ∃ j, j ∈ l ∧ E.st j ≠ 0 ∧ e = entE E j := by
  unfold entL at h
  rw [List.mem_map] at h
  obtain ⟨j, h1, h2⟩ := h
  rw [List.mem_filter] at h1
  exact ⟨j, h1.1, by simpa using h1.2, h2.symm⟩
theorem entL_congr (E E' : Ent) : ∀ l : List Nat, (∀ j ∈ l, E.st j = E'.st j ∧ E.ids j = E'.ids j) → entL E l = entL E' l
  | [], _ => rfl
  | j :: l, h => by
    have h1 := h j (List.mem_cons_self ..)
    have h2 := entL_congr E E' l (fun i hi => h i (List.mem_cons_of_mem _ hi))
    rw [entL_cons, entL_cons E', h2]
    congr 1
    have he : entE E j = entE E' j := by unfold entE; rw [h1.1, h1.2]
    simp only [entL, List.filter_cons, List.filter_nil, h1.1]
    split
    · rw [List.map_singleton, List.map_singleton, he]
    · rfl

theorem entL_all (E : Ent) (p : EE → Bool) : ∀ l : List Nat, (entL E l).all p = l.all fun j => E.st j == 0 || p (entE E j)
  | [] => rfl
  | j :: l => by
    rw [entL_cons, List.all_append, entL_all E p l, List.all_cons]
    congr 1
    by_cases h : E.st j = 0
    · rw [entL_none E j h, h]; rfl
    · rw [entL_one E j h]; simp [h]
theorem entL_any (E : Ent) (p : EE → Bool) : ∀ l : List Nat, (entL E l).any p = l.any fun j => E.st j != 0 && p (entE E j)
  | [] => rfl
  | j :: l => by
    rw [entL_cons, List.any_append, entL_any E p l, List.any_cons]
    congr 1
    by_cases h : E.st j = 0
    · rw [entL_none E j h, h]; rfl
    · rw [entL_one E j h]; simp [h]
theorem entL_count (E : Ent) (p : EE → Bool) : ∀ l : List Nat, (entL E l).countP p = l.countP fun j => E.st j != 0 && p (entE E j)
  | [] => rfl
  | j :: l => by
    rw [entL_cons, List.countP_append, entL_count E p l, List.countP_cons]
    by_cases h : E.st j = 0
    · rw [entL_none E j h, h]; simp
    · rw [entL_one E j h]; simp [h, Nat.add_comm]
theorem entL_find (E : Ent) (p : EE → Bool) : ∀ l : List Nat, (entL E l).find? p = (l.find? fun j => E.st j != 0 && p (entE E j)).map (entE E)
  | [] => rfl
  | j :: l => by
    have ih := entL_find E p l
    rw [entL_cons]
    by_cases h : E.st j = 0
    · rw [entL_none E j h, List.nil_append, ih, List.find?_cons_of_neg (by simp [h])]
    · rw [entL_one E j h, List.singleton_append]
      cases hp : p (entE E j) with
      | true => rw [List.find?_cons_of_pos hp, List.find?_cons_of_pos (by simp [h, hp])]; rfl
      | false => rw [List.find?_cons_of_neg (by simp [hp]), List.find?_cons_of_neg (by simp [hp]), ih]

theorem ents_fits (E : Ent) (seq : Nat) (c : ByteArray) : (ents E).all (EE.fit seq c) = E.fits seq c := entL_all E _ _

theorem any_range (p : Nat → Bool) (n c : Nat) (hc : c < n) (hp : ∀ j, j < n → (p j = true → j = c)) : (List.range n).any p = p c := by
  cases h : p c with
  | true => exact List.any_eq_true.2 ⟨c, List.mem_range.2 hc, h⟩
  | false =>
    rw [List.any_eq_false]
    intro j hj hpj
    have := hp j (List.mem_range.1 hj) hpj
    rw [this, h] at hpj
    cases hpj

theorem ents_known (E : Ent) (now b : Nat) (lf : List Nat) (seq : Nat) (hs : seq < 32) : RR.known ⟨ents E, now, b, lf⟩ seq = (E.st seq != 0) := by
  show (entL E _).any _ = _
  rw [entL_any, any_range _ 32 seq hs (fun j _ h => by simp [entE] at h; exact h.2)]
  simp [entE]

/-- The numbers below 32, parted at s. -/
theorem range_part (s : Nat) (hs : s < 32) : List.range 32 = List.range s ++ s :: (List.range (31 - s)).map (s + 1 + ·) := by
  have h1 : List.range 32 = List.range (s + 1 + (31 - s)) := by rw [show s + 1 + (31 - s) = 32 by omega]
  rw [h1, List.range_add, List.range_succ]
  simp
theorem upper_mem {s j : Nat} (h : j ∈ (List.range (31 - s)).map (s + 1 + ·)) : s < j ∧ (s < 32 → j < 32) := by
  rw [List.mem_map] at h
  obtain ⟨i, h1, rfl⟩ := h
  have := List.mem_range.1 h1
  exact ⟨by omega, fun _ => by omega⟩

theorem ents_part (E : Ent) (s : Nat) (hs : s < 32) : ents E = entL E (List.range s) ++ (entL E [s] ++ entL E ((List.range (31 - s)).map (s + 1 + ·))) := by
  unfold ents
  rw [range_part s hs, entL_append, entL_cons]

theorem slot_parts (A B : List EE) (s : Nat) (hA : ∀ e ∈ A, e.seq ≤ s) (hB : ∀ e ∈ B, s < e.seq) : ∀ k, k ≤ B.length → slot (A ++ B) s (A.length + k) = A.length := by
  intro k
  induction k with
  | zero =>
    intro _
    rw [Nat.add_zero]
    cases hl : A.length with
    | zero => rfl
    | succ m =>
      unfold slot
      have hm : m < A.length := by omega
      rw [List.getElem?_append_left hm, List.getElem?_eq_getElem hm]
      have := hA A[m] (List.getElem_mem hm)
      simp only
      rw [if_neg (by omega)]
  | succ k ih =>
    intro hk
    rw [← Nat.add_assoc]
    unfold slot
    have hk' : k < B.length := by omega
    rw [List.getElem?_append_right (by omega), Nat.add_sub_cancel_left, List.getElem?_eq_getElem hk']
    simp only
    rw [if_pos (hB _ (List.getElem_mem hk'))]
    exact ih (by omega)

theorem put_st (E : Ent) (s : Nat) (c : ByteArray) (j : Nat) : (E.put s c).st j = if E.st s = 0 ∧ j = s then 1 else E.st j := by
  unfold Ent.put
  by_cases h : E.st s = 0
  · rw [if_pos h]
    by_cases e : j = s
    · simp [h, e]
    · simp [h, e]
  · rw [if_neg h, if_neg (fun a => h a.1)]
theorem put_ids (E : Ent) (s : Nat) (c : ByteArray) (j : Nat) : (E.put s c).ids j = if E.st s = 0 ∧ j = s then c else E.ids j := by
  unfold Ent.put
  by_cases h : E.st s = 0
  · rw [if_pos h]
    by_cases e : j = s
    · simp [h, e]
    · simp [h, e]
  · rw [if_neg h, if_neg (fun a => h a.1)]
theorem put_bound (E : Ent) (s : Nat) (c : ByteArray) : (E.put s c).bound = E.bound := by unfold Ent.put; split <;> rfl

theorem ents_put (E : Ent) (now b : Nat) (lf : List Nat) (s : Nat) (c : ByteArray) (hs : s < 32) : RR.put ⟨ents E, now, b, lf⟩ s c = ⟨ents (E.put s c), now, b, lf⟩ := by
  unfold RR.put
  rw [ents_known E now b lf s hs]
  by_cases h : E.st s = 0
  · rw [if_neg (by simp [h])]
    unfold RR.ins
    simp only
    have e1 : ents E = entL E (List.range s) ++ entL E ((List.range (31 - s)).map (s + 1 + ·)) := by
      rw [ents_part E s hs, entL_none E s h, List.nil_append]
    have e2 : ents (E.put s c) = entL E (List.range s) ++ (⟨s, c, false⟩ :: entL E ((List.range (31 - s)).map (s + 1 + ·))) := by
      rw [ents_part (E.put s c) s hs, entL_one (E.put s c) s (by rw [put_st, if_pos ⟨h, rfl⟩]; decide)]
      congr 1
      · refine entL_congr _ _ _ (fun j hj => ?_)
        have := List.mem_range.1 hj
        rw [put_st, put_ids, if_neg (fun a => by omega), if_neg (fun a => by omega)]
        exact ⟨rfl, rfl⟩
      · rw [List.singleton_append]
        congr 1
        · simp only [entE]
          rw [put_st, put_ids, if_pos ⟨h, rfl⟩, if_pos ⟨h, rfl⟩]
          rfl
        · refine entL_congr _ _ _ (fun j hj => ?_)
          have := (upper_mem hj).1
          rw [put_st, put_ids, if_neg (fun a => by omega), if_neg (fun a => by omega)]
          exact ⟨rfl, rfl⟩
    have hsl := slot_parts (entL E (List.range s)) (entL E ((List.range (31 - s)).map (s + 1 + ·))) s
      (fun e he => by obtain ⟨j, h1, _, rfl⟩ := entL_mem he; have := List.mem_range.1 h1; simp only [entE]; omega)
      (fun e he => by obtain ⟨j, h1, _, rfl⟩ := entL_mem he; have := (upper_mem h1).1; simp only [entE]; omega) _ (Nat.le_refl _)
    rw [← List.length_append, ← e1] at hsl
    rw [hsl, e2, e1, List.take_left, List.drop_left]
  · rw [if_pos (by simp [h])]
    congr 1
    unfold ents
    refine entL_congr _ _ _ (fun j _ => ?_)
    rw [put_st, put_ids, if_neg (fun a => h a.1), if_neg (fun a => h a.1)]
    exact ⟨rfl, rfl⟩

/-! ### Retiring below the bound -/
theorem prune_stv (E : Ent) : ∀ b j, (E.prune b).st j = if j < b ∧ E.live j = true then 3 else E.st j := by
  intro b
  induction b with
  | zero => intro j; rw [if_neg (fun h => by omega)]; rfl
  | succ b ih =>
    intro j
    unfold Ent.prune
    by_cases hl : E.live b = true
    · rw [if_pos hl]
      show (if j = b then 3 else (E.prune b).st j) = _
      by_cases e : j = b
      · rw [if_pos e, if_pos ⟨by omega, by rw [e]; exact hl⟩]
      · rw [if_neg e, ih]
        by_cases h : j < b ∧ E.live j = true
        · rw [if_pos h, if_pos ⟨by omega, h.2⟩]
        · rw [if_neg h, if_neg (fun a => h ⟨by omega, a.2⟩)]
    · rw [if_neg hl, ih]
      by_cases h : j < b ∧ E.live j = true
      · rw [if_pos h, if_pos ⟨by omega, h.2⟩]
      · rw [if_neg h, if_neg (fun a => h ⟨by
          have : j ≠ b := fun e => hl (by rw [← e]; exact a.2)
          omega, a.2⟩)]
theorem prune_ids (E : Ent) : ∀ b, (E.prune b).ids = E.ids := by
  intro b
  induction b with
  | zero => rfl
  | succ b ih => unfold Ent.prune; split <;> exact ih
theorem prune_bound (E : Ent) : ∀ b, (E.prune b).bound = E.bound := by
  intro b
  induction b with
  | zero => rfl
  | succ b ih => unfold Ent.prune; split <;> exact ih

theorem live_of {E : Ent} {j : Nat} (h3 : E.st j ≤ 3) : E.live j = (E.st j != 0 && !(E.st j == 3)) := by
  unfold Ent.live
  generalize E.st j = s at *
  have : s = 0 ∨ s = 1 ∨ s = 2 ∨ s = 3 := by omega
  rcases this with rfl | rfl | rfl | rfl <;> rfl

theorem ents_cut (E : Ent) (b : Nat) (h3 : ∀ j, j < 32 → E.st j ≤ 3) : (ents E).map (EE.cut b) = ents (E.prune b) := by
  unfold ents
  have aux : ∀ l : List Nat, (∀ j ∈ l, j < 32) → (entL E l).map (EE.cut b) = entL (E.prune b) l := by
    intro l
    induction l with
    | nil => intro _; rfl
    | cons j l ih =>
      intro hl
      rw [entL_cons, entL_cons (E.prune b), List.map_append, ih (fun i hi => hl i (List.mem_cons_of_mem _ hi))]
      congr 1
      have hj3 := h3 j (hl j (List.mem_cons_self ..))
      have hlv := live_of hj3
      have hst := prune_stv E b j
      by_cases h0 : E.st j = 0
      · have hno : E.live j = false := by rw [hlv, h0]; rfl
        rw [hno, if_neg (fun a => by cases a.2)] at hst
        rw [entL_none E j h0, entL_none (E.prune b) j (by rw [hst, h0])]
        rfl
      · have hne : (E.prune b).st j ≠ 0 := by
          rw [hst]
          by_cases a : j < b ∧ E.live j = true
          · rw [if_pos a]; decide
          · rw [if_neg a]; exact h0
        rw [entL_one E j h0, entL_one (E.prune b) j hne, List.map_singleton]
        congr 1
        have hg : E.live j = !(E.st j == 3) := by rw [hlv]; simp [h0]
        unfold EE.cut EE.hit
        simp only [entE, prune_ids]
        rw [hst, hg]
        by_cases hb : j < b
        · by_cases e3 : E.st j = 3
          · simp [hb, e3]
          · simp [hb, e3]
        · simp [hb]
  exact aux _ (fun j hj => List.mem_range.1 hj)

theorem gone_range (E : Ent) : ∀ b, E.gone b = (List.range b).filter E.live := by
  intro b
  induction b with
  | zero => rfl
  | succ b ih =>
    rw [List.range_succ, List.filter_append]
    unfold Ent.gone
    rw [ih]
    cases h : E.live b <;> simp [h]

theorem filter_below (p : Nat → Bool) (b : Nat) : ∀ m, (List.range m).filter (fun j => p j && decide (j < b)) = (List.range (min m b)).filter p := by
  intro m
  induction m with
  | zero => simp
  | succ m ih =>
    rw [List.range_succ, List.filter_append, ih]
    by_cases h : m < b
    · rw [show min m b = m by omega, show min (m + 1) b = m + 1 by omega, List.range_succ, List.filter_append]
      congr 1
      cases hp : p m <;> simp [hp, h]
    · rw [show min m b = b by omega, show min (m + 1) b = b by omega]
      simp [h]

theorem ents_gone (E : Ent) (b : Nat) (h3 : ∀ j, j < 32 → E.st j ≤ 3) (hb : b ≤ 32) : ((ents E).filter (EE.hit b)).map EE.seq = E.gone b := by
  rw [gone_range]
  have h := filter_below E.live b 32
  rw [show min 32 b = b by omega] at h
  rw [← h]
  unfold ents
  have aux : ∀ l : List Nat, (∀ j ∈ l, j < 32) → ((entL E l).filter (EE.hit b)).map EE.seq = l.filter (fun j => E.live j && decide (j < b)) := by
    intro l
    induction l with
    | nil => intro _; rfl
    | cons j l ih =>
      intro hl
      rw [entL_cons, List.filter_append, List.map_append, ih (fun i hi => hl i (List.mem_cons_of_mem _ hi))]
      have hlv := live_of (h3 j (hl j (List.mem_cons_self ..)))
      by_cases h0 : E.st j = 0
      · rw [entL_none E j h0]
        have hno : E.live j = false := by rw [hlv, h0]; rfl
        simp [hno]
      · have hg : E.live j = !(E.st j == 3) := by rw [hlv]; simp [h0]
        rw [entL_one E j h0]
        have hq : (entE E j).hit b = (E.live j && decide (j < b)) := by unfold EE.hit entE; simp only; rw [hg]
        rw [List.filter_cons, List.filter_nil, List.filter_cons (xs := l), hq]
        cases (E.live j && decide (j < b)) with
        | true => rfl
        | false => rfl
  exact aux _ (fun j hj => List.mem_range.1 hj)

/-! ### Sim -/
/-- One ID is current. -/
structure Good (E : Ent) (c : Nat) : Prop where
  lt : c < 32
  cur : ∀ j, j < 32 → (E.st j = 2 ↔ j = c)
  st : ∀ j, j < 32 → E.st j ≤ 3
  bd : E.bound < 32

def simR (R : Rem) (c : Nat) : RR := ⟨ents R.ent, c, R.ent.bound, R.left⟩

theorem Good.hits {E : Ent} {c : Nat} (h : Good E c) : hits (E.isIn 2) 32 = [⟨c, h.lt⟩] := hits_one _ ⟨c, h.lt⟩ (fun j hj => by rw [isIn_iff]; exact h.cur j hj)
theorem hits_map (p : Nat → Bool) : ∀ m, m ≤ 32 → (hits p m).map (·.val) = (List.range m).filter p := by
  intro m
  induction m with
  | zero => intro _; rfl
  | succ m ih =>
    intro h
    rw [List.range_succ, List.filter_append]
    cases hp : p m with
    | true => rw [hits_yes p m (by omega) hp, List.map_append, ih (by omega)]; simp [hp]
    | false => rw [hits_no p m hp, ih (by omega)]; simp [hp]

theorem Good.curR {R : Rem} {c : Nat} (h : Good R.ent c) : (simR R c).cur = R.ent.cur := by
  have h2 : R.ent.st c = 2 := (h.cur c h.lt).2 rfl
  have : (simR R c).es.find? (fun e => e.seq == c) = some (entE R.ent c) := by
    show (entL R.ent _).find? _ = _
    rw [entL_find]
    have : (List.range 32).find? (fun j => R.ent.st j != 0 && (entE R.ent j).seq == c) = some c := by
      rw [range_part c h.lt, List.find?_append]
      have hn : (List.range c).find? (fun j => R.ent.st j != 0 && (entE R.ent j).seq == c) = none := by
        rw [List.find?_eq_none]
        intro j hj
        have := List.mem_range.1 hj
        have : ¬ (j = c) := by omega
        simp [entE, this]
      rw [hn, List.find?_cons_of_pos (by simp [entE, h2])]
      rfl
    rw [this]; rfl
  unfold RR.cur
  show (match (simR R c).es.find? (fun e => e.seq == c) with | some e => e.id | none => ⟨#[]⟩) = _
  rw [this]
  unfold Ent.cur
  rw [h.hits]
  rfl

/-- The number of IDs that are not retired. -/
theorem ents_live (E : Ent) (h3 : ∀ j, j < 32 → E.st j ≤ 3) : (ents E).countP (fun e => !e.gone) = (hits (E.isIn 1) 32).length + (hits (E.isIn 2) 32).length := by
  rw [hits_len _ 32 (Nat.le_refl _), hits_len _ 32 (Nat.le_refl _), ← countP_or _ _ _ (fun x _ h => by
    have h1 := (isIn_iff _ _ _).1 h.1
    have h2 := (isIn_iff _ _ _).1 h.2
    omega)]
  unfold ents
  rw [entL_count]
  refine List.countP_congr (fun j hj => ?_)
  have := live_of (h3 j (List.mem_range.1 hj))
  show (E.st j != 0 && !(E.st j == 3)) = true ↔ _
  rw [← this]
  rfl

/-- The next one. -/
theorem ents_next (E : Ent) (c b : Nat) (lf : List Nat) (h3 : ∀ j, j < 32 → E.st j ≤ 3) (hn : ∀ j, j < 32 → E.st j ≠ 2) (hc : E.st c ≠ 1) : RR.nextOf ⟨ents E, c, b, lf⟩ = (hits (E.isIn 1) 32).head?.map fun x => entE E x.val := by
  show (entL E _).find? _ = _
  rw [entL_find]
  have h1 : (List.range 32).find? (fun j => E.st j != 0 && EE.free c (entE E j)) = ((List.range 32).filter (E.isIn 1)).head? := by
    rw [List.head?_filter]
    have aux : ∀ l : List Nat, (∀ j ∈ l, j < 32) → l.find? (fun j => E.st j != 0 && EE.free c (entE E j)) = l.find? (E.isIn 1) := by
      intro l
      induction l with
      | nil => intro _; rfl
      | cons j l ih =>
        intro hl
        have e : (E.st j != 0 && EE.free c (entE E j)) = E.isIn 1 j := by
          have a := h3 j (hl j (List.mem_cons_self ..))
          have b := hn j (hl j (List.mem_cons_self ..))
          unfold EE.free entE Ent.isIn
          simp only
          by_cases e1 : E.st j = 1
          · have : j ≠ c := fun e => hc (by rw [← e]; exact e1)
            simp [e1, this]
          · have : E.st j = 0 ∨ E.st j = 3 := by omega
            rcases this with h | h <;> simp [h]
        rw [List.find?_cons, List.find?_cons, e, ih (fun i hi => hl i (List.mem_cons_of_mem _ hi))]
    exact aux _ (fun j hj => List.mem_range.1 hj)
  rw [h1, ← hits_map _ 32 (Nat.le_refl _), List.head?_map, Option.map_map]
  rfl

theorem setSt_ents (E : Ent) (x v : Nat) (h0 : E.st x ≠ 0) (h3 : E.st x ≠ 3) (hv0 : v ≠ 0) (hv3 : v ≠ 3) : ents (E.setSt x v) = ents E := by
  unfold ents entL
  have hst : ∀ j, (E.setSt x v).st j = if j = x then v else E.st j := fun _ => rfl
  have hf : (fun j => (E.setSt x v).st j != 0) = (fun j => E.st j != 0) := by
    funext j
    rw [hst]
    by_cases e : j = x
    · have a1 : (v != 0) = true := by simp [hv0]
      have a2 : (E.st x != 0) = true := by simp [h0]
      rw [if_pos e, e, a1, a2]
    · rw [if_neg e]
  have he : entE (E.setSt x v) = entE E := by
    funext j
    unfold entE
    rw [hst]
    by_cases e : j = x
    · rw [if_pos e, e]
      have a1 : (v == 3) = false := by simp [hv3]
      have a2 : (E.st x == 3) = false := by simp [h3]
      rw [a1, a2]; rfl
    · rw [if_neg e]; rfl
  rw [hf, he]

theorem hits_head {p : Nat → Bool} {x : Fin 32} (h : (hits p 32).head? = some x) : p x.val = true := by
  have h1 : ((hits p 32).map (·.val)).head? = some x.val := by rw [List.head?_map, h]; rfl
  rw [hits_map p 32 (Nat.le_refl _)] at h1
  have h2 := List.mem_of_mem_head? (by rw [h1]; rfl : x.val ∈ ((List.range 32).filter p).head?)
  exact (List.mem_filter.1 h2).2

/-- The next one is taken: nobody is current. -/
theorem next_sim (E : Ent) (c : Nat) (lf : List Nat) (x : Fin 32) (h3 : ∀ j, j < 32 → E.st j ≤ 3) (hn : ∀ j, j < 32 → E.st j ≠ 2) (hc : E.st c ≠ 1) (hb : E.bound < 32) (hx : (hits (E.isIn 1) 32).head? = some x) :
    RR.next ⟨ents E, c, E.bound, lf⟩ = ⟨ents E.adv, x.val, E.adv.bound, lf⟩ ∧ Good E.adv x.val := by
  have hadv : E.adv = E.setSt x.val 2 := by unfold Ent.adv; rw [hx]
  have hx1 := (isIn_iff _ _ _).1 (hits_head hx)
  have hst : ∀ j, (E.setSt x.val 2).st j = if j = x.val then 2 else E.st j := fun _ => rfl
  rw [hadv]
  refine ⟨?_, x.isLt, fun j hj => ?_, fun j hj => ?_, hb⟩
  · unfold RR.next
    rw [ents_next E c E.bound lf h3 hn hc, hx]
    rw [setSt_ents E x.val 2 (by omega) (by omega) (by decide) (by decide)]
    rfl
  · rw [hst]
    by_cases e : j = x.val
    · rw [if_pos e]; exact ⟨fun _ => e, fun _ => rfl⟩
    · rw [if_neg e]; exact ⟨fun h => absurd h (hn j hj), fun h => absurd h e⟩
  · rw [hst]
    split
    · decide
    · exact h3 j hj

theorem gone_le' (E : Ent) (b : Nat) : (E.gone b).length ≤ b := by
  rw [gone_range]
  exact Nat.le_trans (List.length_filter_le _ _) (by rw [List.length_range]; exact Nat.le_refl _)

theorem live_simR {R : Rem} {c : Nat} (h : Good R.ent c) : (simR R c).live = (hits (R.ent.isIn 1) 32).length + 1 := by
  show (ents R.ent).countP _ = _
  rw [ents_live _ h.st, h.hits]
  rfl

theorem add_sim (R : Rem) (c : Nat) (hG : Good R.ent c) (seq ret : Nat) (id : ByteArray) (hs : seq < 32) (hr : ret ≤ seq) :
    ∃ c', (simR R c).add seq ret id = ((R.add seq ret id).1, simR (R.add seq ret id).2 c') ∧ Good (R.add seq ret id).2.ent c' ∧ (R.add seq ret id).2.left.length ≤ R.left.length + 32 := by
  unfold RR.add Rem.add
  have hfit : (simR R c).es.all (EE.fit seq id) = R.ent.fits seq id := ents_fits R.ent seq id
  rw [hfit]
  by_cases hf : R.ent.fits seq id = false
  · rw [if_pos hf, if_pos hf]
    exact ⟨c, rfl, hG, by simp⟩
  rw [if_neg hf, if_neg hf]
  -- the frame is taken in
  have hst1 : ∀ j, (R.ent.made seq ret id).st j = if R.ent.st seq = 0 ∧ j = seq then 1 else R.ent.st j := fun j => put_st R.ent seq id j
  have hb1 : (R.ent.made seq ret id).bound = max R.ent.bound ret := by
    show max (R.ent.put seq id).bound ret = _
    rw [put_bound]
  have hmade : (simR R c).made seq ret id = ⟨ents (R.ent.made seq ret id), c, (R.ent.made seq ret id).bound, R.left⟩ := by
    unfold RR.made simR
    rw [ents_put R.ent c R.ent.bound R.left seq id hs, hb1]
    rfl
  have hE : ∀ E : Ent, ents (E.bnd ret) = ents E := fun _ => rfl
  obtain ⟨E1, hE1⟩ : ∃ E1 : Ent, R.ent.made seq ret id = E1 := ⟨_, rfl⟩
  have hkept : R.ent.kept seq ret id = E1.prune E1.bound := by unfold Ent.kept; rw [hE1]
  have hlost : R.ent.lost seq ret id = E1.gone E1.bound := by unfold Ent.lost; rw [hE1]
  rw [hkept, hlost, hmade, hE1]
  rw [hE1] at hst1 hb1
  have hc2 : R.ent.st c = 2 := (hG.cur c hG.lt).2 rfl
  have hbl : E1.bound < 32 := by have := hG.bd; omega
  have hE13 : ∀ j, j < 32 → E1.st j ≤ 3 := fun j hj => by rw [hst1]; split; decide; exact hG.st j hj
  have hE12 : ∀ j, j < 32 → (E1.st j = 2 ↔ j = c) := fun j hj => by
    rw [hst1]
    by_cases e : R.ent.st seq = 0 ∧ j = seq
    · rw [if_pos e]
      exact ⟨fun h => by omega, fun h => by
        rw [← h, e.2] at hc2
        omega⟩
    · rw [if_neg e]; exact hG.cur j hj
  have hE1c : E1.st c = 2 := (hE12 c hG.lt).2 rfl
  have hlive : E1.live c = true := by unfold Ent.live; rw [hE1c]; rfl
  have hst2 := prune_stv E1 E1.bound
  have hgl : (E1.gone E1.bound).length ≤ 32 := Nat.le_trans (gone_le' _ _) (by omega)
  have hpr : RR.prune ⟨ents E1, c, E1.bound, R.left⟩ = ⟨ents (E1.prune E1.bound), c, E1.bound, R.left ++ E1.gone E1.bound⟩ := by
    unfold RR.prune
    simp only
    rw [ents_cut E1 _ hE13, ents_gone E1 _ hE13 (by omega)]
  have hlostb : RR.lost ⟨ents E1, c, E1.bound, R.left⟩ = decide (c < E1.bound) := by
    show (entL E1 _).any _ = _
    rw [entL_any, any_range _ 32 c hG.lt (fun j _ h => by
      simp [entE] at h
      exact h.2.2)]
    show (E1.st c != 0 && ((!(E1.st c == 3) && decide (c < E1.bound)) && (c == c))) = _
    rw [hE1c]
    simp
  rw [hpr, hlostb]
  have hb2 := prune_bound E1 E1.bound
  obtain ⟨E2, hE2⟩ : ∃ E2 : Ent, E1.prune E1.bound = E2 := ⟨_, rfl⟩
  rw [hE2] at hst2 hb2 ⊢
  have hE23 : ∀ j, j < 32 → E2.st j ≤ 3 := fun j hj => by rw [hst2]; split; decide; exact hE13 j hj
  unfold RR.fin
  by_cases hlt : c < E1.bound
  · -- the current one is lost
    have hn2 : ∀ j, j < 32 → E2.st j ≠ 2 := fun j hj h => by
      rw [hst2] at h
      by_cases e : j < E1.bound ∧ E1.live j = true
      · rw [if_pos e] at h; omega
      · rw [if_neg e] at h
        have := (hE12 j hj).1 h
        exact e ⟨by omega, by rw [this]; exact hlive⟩
    have hc3 : E2.st c = 3 := by rw [hst2, if_pos ⟨hlt, hlive⟩]
    have hh2 : hits (E2.isIn 2) 32 = [] := by
      cases hh : hits (E2.isIn 2) 32 with
      | nil => rfl
      | cons x l =>
        have := (isIn_iff _ _ _).1 (hits_head (p := E2.isIn 2) (x := x) (by rw [hh]; rfl))
        exact absurd this (hn2 _ x.isLt)
    have hnx := ents_next E2 c E1.bound (R.left ++ E1.gone E1.bound) hE23 hn2 (by omega)
    rw [decide_eq_true hlt, hnx]
    cases hh1 : hits (E2.isIn 1) 32 with
    | nil =>
      rw [if_pos ⟨rfl, rfl⟩, if_pos ⟨hh2, rfl⟩]
      exact ⟨c, rfl, hG, by simp⟩
    | cons x l =>
      rw [if_neg (show ¬ (true = true ∧ ((x :: l).head?.map fun x => entE E2 x.val) = none) from fun a => by cases a.2), if_neg (show ¬ (hits (E2.isIn 2) 32 = [] ∧ x :: l = []) from fun a => by cases a.2)]
      obtain ⟨h1, h2⟩ := next_sim E2 c (R.left ++ E1.gone E1.bound) x hE23 hn2 (by omega) (by omega) (by rw [hh1]; rfl)
      rw [hb2] at h1
      have hnext : E2.next = E2.adv := by unfold Ent.next; rw [if_pos hh2]
      rw [hnext]
      simp only [if_true]
      rw [h1]
      have hlv := live_simR (R := ⟨E2.adv, R.left ++ E1.gone E1.bound⟩) h2
      have hlv' : RR.live ⟨ents E2.adv, x.val, E2.adv.bound, R.left ++ E1.gone E1.bound⟩ = (hits (E2.adv.isIn 1) 32).length + 1 := hlv
      rw [hlv']
      by_cases h4 : 4 ≤ (hits (E2.adv.isIn 1) 32).length
      · rw [if_pos (by omega), if_pos h4]
        exact ⟨c, rfl, hG, by simp⟩
      · rw [if_neg (by omega), if_neg h4]
        exact ⟨x.val, rfl, h2, by simp only [List.length_append]; omega⟩
  · have hG2 : Good E2 c := by
      refine ⟨hG.lt, fun j hj => ?_, hE23, by omega⟩
      rw [hst2]
      by_cases e : j < E1.bound ∧ E1.live j = true
      · rw [if_pos e]
        exact ⟨fun h => by omega, fun h => by omega⟩
      · rw [if_neg e]; exact hE12 j hj
    have hh2 := hG2.hits
    rw [decide_eq_false hlt, if_neg (fun a => by cases a.1 : ¬ (false = true ∧ RR.nextOf ⟨ents E2, c, E1.bound, R.left ++ E1.gone E1.bound⟩ = none)), if_neg (fun a => by rw [hh2] at a; cases a.1 : ¬ (hits (E2.isIn 2) 32 = [] ∧ hits (E2.isIn 1) 32 = []))]
    have hnext : E2.next = E2 := by unfold Ent.next; rw [if_neg (by rw [hh2]; simp)]
    rw [hnext]
    simp only [Bool.false_eq_true, if_false]
    have hlv' : RR.live ⟨ents E2, c, E1.bound, R.left ++ E1.gone E1.bound⟩ = (hits (E2.isIn 1) 32).length + 1 := by
      show (ents E2).countP _ = _
      rw [ents_live _ hE23, hh2]; rfl
    rw [hlv']
    by_cases h4 : 4 ≤ (hits (E2.isIn 1) 32).length
    · rw [if_pos (by omega), if_pos h4]
      exact ⟨c, rfl, hG, by simp⟩
    · rw [if_neg (by omega), if_neg h4]
      refine ⟨c, ?_, hG2, by simp only [List.length_append]; omega⟩
      unfold simR
      simp only
      rw [hb2]

theorem turn_sim (R : Rem) (c : Nat) (hG : Good R.ent c) (i : Nat) (e : EE) (he : (ents R.ent)[i]? = some e) (hs : e.seq = c) (hu : hits (R.ent.isIn 1) 32 ≠ []) :
    ∃ c', (simR R c).turn i e = simR R.rotate c' ∧ Good R.rotate.ent c' ∧ R.rotate.left.length = R.left.length + 1 := by
  have hc2 : R.ent.st c = 2 := (hG.cur c hG.lt).2 rfl
  obtain ⟨j, hj, _, rfl⟩ := entL_mem (List.mem_of_getElem? he)
  obtain rfl : j = c := hs
  clear hj
  have hpart := ents_part R.ent j hG.lt
  rw [entL_one R.ent j (by omega)] at hpart
  have hst : ∀ i, (R.ent.setSt j 3).st i = if i = j then 3 else R.ent.st i := fun _ => rfl
  have hset : (ents R.ent).set i { entE R.ent j with gone := true } = ents (R.ent.setSt j 3) := by
    have hpart2 := ents_part (R.ent.setSt j 3) j hG.lt
    rw [entL_one (R.ent.setSt j 3) j (by rw [hst, if_pos rfl]; decide)] at hpart2
    have e1 : entL (R.ent.setSt j 3) (List.range j) = entL R.ent (List.range j) := entL_congr _ _ _ (fun k hk => by
      have := List.mem_range.1 hk
      rw [hst, if_neg (by omega)]; exact ⟨rfl, rfl⟩)
    have e2 : entL (R.ent.setSt j 3) ((List.range (31 - j)).map (j + 1 + ·)) = entL R.ent ((List.range (31 - j)).map (j + 1 + ·)) := entL_congr _ _ _ (fun k hk => by
      have := (upper_mem hk).1
      rw [hst, if_neg (by omega)]; exact ⟨rfl, rfl⟩)
    have e3 : entE (R.ent.setSt j 3) j = { entE R.ent j with gone := true } := by
      unfold entE
      rw [hst, if_pos rfl]
      rfl
    rw [e1, e2, e3] at hpart2
    rw [hpart] at he
    rw [hpart, hpart2]
    have hi : i = (entL R.ent (List.range j)).length := by
      rcases Nat.lt_trichotomy i (entL R.ent (List.range j)).length with h | h | h
      · rw [List.getElem?_append_left h] at he
        obtain ⟨k, hk, _, h2⟩ := entL_mem (List.mem_of_getElem? he)
        have h3 := List.mem_range.1 hk
        have : j = k := congrArg EE.seq h2
        omega
      · exact h
      · rw [List.getElem?_append_right (by omega), List.getElem?_append_right (by simp; omega)] at he
        obtain ⟨k, hk, _, h2⟩ := entL_mem (List.mem_of_getElem? he)
        have h3 := (upper_mem hk).1
        have : j = k := congrArg EE.seq h2
        omega
    rw [hi, List.set_append_right _ _ (Nat.le_refl _), Nat.sub_self]
    rfl
  have hrot : R.rot (hits (R.ent.isIn 2) 32) = { ent := R.ent.setSt j 3, left := R.left ++ [j] } := by rw [hG.hits]; rfl
  have hR : R.rotate = { ent := (R.ent.setSt j 3).adv, left := R.left ++ [j] } := by unfold Rem.rotate; rw [hrot]
  have h3 : ∀ k, k < 32 → (R.ent.setSt j 3).st k ≤ 3 := fun k hk => by rw [hst]; split; decide; exact hG.st k hk
  have hn : ∀ k, k < 32 → (R.ent.setSt j 3).st k ≠ 2 := fun k hk => by
    rw [hst]
    by_cases e : k = j
    · rw [if_pos e]; decide
    · rw [if_neg e]; exact fun h => e ((hG.cur k hk).1 h)
  have hh : hits ((R.ent.setSt j 3).isIn 1) 32 = hits (R.ent.isIn 1) 32 := by
    have aux : ∀ m, hits ((R.ent.setSt j 3).isIn 1) m = hits (R.ent.isIn 1) m := by
      intro m
      induction m with
      | zero => rfl
      | succ m ih =>
        have e1 : (R.ent.setSt j 3).isIn 1 m = R.ent.isIn 1 m := by
          unfold Ent.isIn
          rw [hst]
          by_cases e : m = j
          · rw [if_pos e, e, hc2]; rfl
          · rw [if_neg e]
        unfold hits
        rw [e1, ih]
    exact aux 32
  obtain ⟨x, hx⟩ : ∃ x, (hits (R.ent.isIn 1) 32).head? = some x := by
    cases hq : hits (R.ent.isIn 1) 32 with
    | nil => exact absurd hq hu
    | cons x l => exact ⟨x, rfl⟩
  rw [← hh] at hx
  obtain ⟨h1, h2⟩ := next_sim (R.ent.setSt j 3) j (R.left ++ [j]) x h3 hn (by rw [hst, if_pos rfl]; decide) hG.bd hx
  refine ⟨x.val, ?_, by rw [hR]; exact h2, by rw [hR]; simp⟩
  unfold RR.turn
  rw [show (simR R j).es = ents R.ent from rfl, hset]
  rw [show (R.ent.setSt j 3).bound = R.ent.bound from rfl] at h1
  rw [hR]
  exact h1

theorem good_new (first : ByteArray) : Good (newRem first).ent 0 := by
  refine ⟨by decide, fun j _ => ?_, fun j _ => ?_, (by decide : 0 < 32)⟩
  · show (if j = 0 then 2 else 0) = 2 ↔ j = 0
    by_cases e : j = 0
    · rw [if_pos e]; exact ⟨fun _ => e, fun _ => rfl⟩
    · rw [if_neg e]; exact ⟨fun h => by omega, fun h => absurd h e⟩
  · show (if j = 0 then 2 else 0) ≤ 3
    split <;> decide

theorem simR_new (first : ByteArray) : simR (newRem first) 0 = ⟨[⟨0, first, false⟩], 0, 0, []⟩ := by
  have h := ents_part (newRem first).ent 0 (by decide)
  rw [entL_one (newRem first).ent 0 (by show (if 0 = 0 then 2 else 0) ≠ 0; decide)] at h
  have e : entL (newRem first).ent ((List.range (31 - 0)).map (0 + 1 + ·)) = [] := by
    unfold entL
    rw [List.map_eq_nil_iff, List.filter_eq_nil_iff]
    intro j hj
    have := (upper_mem hj).1
    show ¬ (((if j = 0 then 2 else 0) != 0) = true)
    rw [if_neg (by omega)]
    decide
  rw [e] at h
  unfold simR
  rw [h]
  rfl

theorem ents_len (E : Ent) : (ents E).length ≤ 32 := by
  unfold ents entL
  rw [List.length_map]
  exact Nat.le_trans (List.length_filter_le _ _) (by rw [List.length_range]; exact Nat.le_refl _)

theorem ents_seq (E : Ent) (e : EE) (h : e ∈ ents E) : e.seq < 32 := by
  obtain ⟨j, hj, _, rfl⟩ := entL_mem h
  exact List.mem_range.1 hj

end Go.Proofs.Ytmdfpknhfkgfoaa
