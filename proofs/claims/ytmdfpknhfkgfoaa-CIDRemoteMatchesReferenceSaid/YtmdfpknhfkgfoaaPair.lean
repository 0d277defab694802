/- Plain law of CIDPairAgrees: what holds between a Local and a Remote that is given its frames. -/
import Derived.Test.YtmdfpknhfkgfoaaDis
namespace Go.Proofs.Ytmdfpknhfkgfoaa
open Go.RowKit Go.Shelf

/-! ### hits -/
theorem hits_mem (p : Nat → Bool) : ∀ (m : Nat) (x : Fin 32), x ∈ hits p m ↔ x.val < m ∧ p x.val = true := by
  intro m
  induction m with
  | zero => intro x; simp [hits]
  | succ m ih =>
    intro x
    by_cases h : m < 32
    · cases hp : p m with
      | true =>
        rw [hits_yes p m h hp, List.mem_append, ih, List.mem_singleton]
        constructor
        · rintro (⟨h1, h2⟩ | rfl)
          · exact ⟨by omega, h2⟩
          · exact ⟨Nat.lt_succ_self _, hp⟩
        · rintro ⟨h1, h2⟩
          by_cases e : x.val = m
          · exact .inr (Fin.ext e)
          · exact .inl ⟨by omega, h2⟩
      | false =>
        rw [hits_no p m hp, ih]
        constructor
        · rintro ⟨h1, h2⟩; exact ⟨by omega, h2⟩
        · rintro ⟨h1, h2⟩
          refine ⟨?_, h2⟩
          by_cases e : x.val = m
          · rw [e, hp] at h2; cases h2
          · omega
    · have e : hits p (m + 1) = hits p m := by simp [hits, h]
      rw [e, ih]
      have := x.isLt
      constructor
      · rintro ⟨h1, h2⟩; exact ⟨by omega, h2⟩
      · rintro ⟨h1, h2⟩; exact ⟨by omega, h2⟩

theorem hits_len (p : Nat → Bool) : ∀ m, m ≤ 32 → (hits p m).length = (List.range m).countP p := by
  intro m
  induction m with
  | zero => intro _; rfl
  | succ m ih =>
    intro h
    rw [List.range_succ, List.countP_append]
    cases hp : p m with
    | true => rw [hits_yes p m (by omega) hp, List.length_append, ih (by omega)]; simp [hp]
    | false => rw [hits_no p m hp, ih (by omega)]; simp [hp]

theorem hits_one_aux (p : Nat → Bool) (c : Fin 32) (hp : ∀ j, j < 32 → (p j = true ↔ j = c.val)) : ∀ m, m ≤ 32 → hits p m = if c.val < m then [c] else [] := by
  intro m
  induction m with
  | zero => intro _; rfl
  | succ m ih =>
    intro h
    by_cases e : m = c.val
    · have h1 : p m = true := (hp m (by omega)).2 e
      rw [hits_yes p m (by omega) h1, ih (by omega), if_neg (by omega), if_pos (by omega)]
      simp [e]
    · have h1 : p m = false := by
        cases hq : p m with
        | false => rfl
        | true => exact absurd ((hp m (by omega)).1 hq) e
      rw [hits_no p m h1, ih (by omega)]
      by_cases e2 : c.val < m
      · rw [if_pos e2, if_pos (by omega)]
      · rw [if_neg e2, if_neg (by omega)]

theorem hits_one (p : Nat → Bool) (c : Fin 32) (hp : ∀ j, j < 32 → (p j = true ↔ j = c.val)) : hits p 32 = [c] := by
  rw [hits_one_aux p c hp 32 (Nat.le_refl _), if_pos c.isLt]

theorem isIn_iff (E : Ent) (s j : Nat) : E.isIn s j = true ↔ E.st j = s := by unfold Ent.isIn; exact beq_iff_eq

/-! ### Counting -/
theorem countP_or (p q : Nat → Bool) : ∀ l : List Nat, (∀ x ∈ l, ¬ (p x = true ∧ q x = true)) → l.countP (fun x => p x || q x) = l.countP p + l.countP q := by
  intro l
  induction l with
  | nil => intro _; rfl
  | cons a l ih =>
    intro h
    have h1 := ih (fun x hx => h x (List.mem_cons_of_mem _ hx))
    have h2 := h a (List.mem_cons_self ..)
    simp only [List.countP_cons]
    rw [h1]
    cases hp : p a <;> cases hq : q a <;> simp_all <;> omega

theorem countP_one (c : Nat) : ∀ n, c < n → (List.range n).countP (fun x => x == c) = 1 := by
  have aux : ∀ n, (List.range n).countP (fun x => x == c) = if c < n then 1 else 0 := by
    intro n
    induction n with
    | zero => rfl
    | succ n ih =>
      rw [List.range_succ, List.countP_append, ih]
      by_cases e : n = c
      · rw [if_neg (by omega), if_pos (by omega)]; simp [e]
      · have : ¬ ((n == c) = true) := by simpa using e
        by_cases e2 : c < n
        · rw [if_pos e2, if_pos (by omega)]; simp [e]
        · rw [if_neg e2, if_neg (by omega)]; simp [e]
  intro n h
  rw [aux n, if_pos h]

theorem countP_range_le (p : Nat → Bool) (n : Nat) : ∀ m, n ≤ m → (∀ j, j < m → p j = true → j < n) → (List.range m).countP p = (List.range n).countP p := by
  intro m
  induction m with
  | zero => intro h _; obtain rfl : n = 0 := by omega
            rfl
  | succ m ih =>
    intro h hp
    by_cases e : n = m + 1
    · rw [e]
    · rw [List.range_succ, List.countP_append, ih (by omega) (fun j hj => hp j (by omega))]
      have : p m = false := by
        cases hq : p m with
        | false => rfl
        | true => have := hp m (by omega) hq; omega
      simp [this]

/-- Those of p, and c beside them, are all of q. -/
theorem count_lt (p q : Nat → Bool) (n c : Nat) (hn : n ≤ 32) (hp : ∀ j, j < 32 → p j = true → j < n ∧ q j = true) (hc : c < n) (hq : q c = true) (hpc : p c = false) :
    (hits p 32).length + 1 ≤ (List.range n).countP q := by
  rw [hits_len p 32 (Nat.le_refl _), countP_range_le p n 32 hn (fun j hj h => (hp j hj h).1)]
  have h1 := countP_or p (fun x => x == c) (List.range n) (fun x _ h => by
    have := beq_iff_eq.1 h.2
    rw [this, hpc] at h
    cases h.1)
  rw [countP_one c n hc] at h1
  rw [← h1]
  refine List.countP_mono_left (fun j hj h => ?_)
  have hj' := List.mem_range.1 hj
  rcases Bool.or_eq_true _ _ ▸ h with h2 | h2
  · exact (hp j (by omega) h2).2
  · rw [beq_iff_eq.1 h2]; exact hq

theorem actives_count (L : Loc) (n : Nat) : (L.actives n).length = (List.range n).countP L.act := by
  unfold Loc.actives
  rw [List.length_map, List.countP_eq_length_filter]

/-! ### The law -/
structure PInv (k : ByteArray) (L : Loc) (R : Rem) (ol : List Nat) : Prop where
  key : L.key = k
  n1 : 1 ≤ L.n
  nle : L.n ≤ 32
  few : (L.actives L.n).length ≤ 4
  bound : R.ent.bound = 0
  ids : ∀ j, j < 32 → R.ent.st j ≠ 0 → j < L.n ∧ R.ent.ids j = idB k j
  cur : ∃ c : Fin 32, ∀ j, j < 32 → (R.ent.isIn 2 j = true ↔ j = c.val)
  act : ∀ j, j < L.n → L.act j = false → R.ent.st j = 3
  lft : ∀ j ∈ R.left, j < L.n ∧ R.ent.st j = 3
  old : ∀ j ∈ ol, j < L.n ∧ R.ent.st j = 3

theorem PInv.current {k : ByteArray} {L : Loc} {R : Rem} {ol : List Nat} (h : PInv k L R ol) : ∃ c : Fin 32, hits (R.ent.isIn 2) 32 = [c] ∧ R.ent.cur = idB k c.val ∧ c.val < L.n ∧ L.act c.val = true ∧ R.ent.st c.val = 2 := by
  obtain ⟨c, hc⟩ := h.cur
  have h1 := hits_one _ c hc
  have h2 : R.ent.st c.val = 2 := (isIn_iff _ _ _).1 ((hc c.val c.isLt).2 rfl)
  have h3 := h.ids c.val c.isLt (by rw [h2]; decide)
  refine ⟨c, h1, ?_, h3.1, ?_, h2⟩
  · unfold Ent.cur; rw [h1]; exact h3.2
  · cases ha : L.act c.val with
    | true => rfl
    | false => have := h.act c.val h3.1 ha; omega

theorem PInv.retired {k : ByteArray} {L : Loc} {R : Rem} {ol : List Nat} (h : PInv k L R ol) : PInv k L { R with left := [] } ol :=
  ⟨h.key, h.n1, h.nle, h.few, h.bound, h.ids, h.cur, h.act, (fun j hj => by cases hj), h.old⟩

theorem PInv.retire {k : ByteArray} {L : Loc} {R : Rem} {ol : List Nat} (h : PInv k L R ol) (i : Nat) (hi : R.ent.st i = 3) : PInv k (L.retire i) R ol :=
  ⟨h.key, h.n1, h.nle, Nat.le_trans (L.retire_actives i) h.few, h.bound, h.ids, h.cur, fun j hj ha => by
    have ha' : (if j = i then false else L.act j) = false := ha
    split at ha'
    · rename_i e; rw [e]; exact hi
    · exact h.act j hj ha', h.lft, h.old⟩

theorem PInv.issue {k : ByteArray} {L : Loc} {R : Rem} {ol : List Nat} (h : PInv k L R ol) (hn : L.n < 32) (hf : (L.actives L.n).length < 4) : PInv k L.add R ol :=
  ⟨h.key, by show 1 ≤ L.n + 1; omega, by show L.n + 1 ≤ 32; omega, by rw [L.add_actives]; omega, h.bound, fun j hj hs => ⟨by show j < L.n + 1; have := (h.ids j hj hs).1; omega, (h.ids j hj hs).2⟩, h.cur, fun j hj ha => by
    have ha' : (if j = L.n then true else L.act j) = false := ha
    have hj' : j < L.n + 1 := hj
    split at ha'
    · cases ha'
    · exact h.act j (by omega) ha', fun j hj => ⟨by show j < L.n + 1; have := (h.lft j hj).1; omega, (h.lft j hj).2⟩, fun j hj => ⟨by show j < L.n + 1; have := (h.old j hj).1; omega, (h.old j hj).2⟩⟩

theorem PInv.fits {k : ByteArray} {L : Loc} {R : Rem} {ol : List Nat} (h : PInv k L R ol) (s : Nat) (hs : s < L.n) : R.ent.fits s (idB k s) = true := by
  apply Ent.fits_yes
  intro j hj
  unfold Ent.fit
  by_cases h0 : R.ent.st j = 0
  · rw [h0]; rfl
  · have h1 := h.ids j hj h0
    have hn := h.nle
    by_cases e : j = s
    · subst e; rw [h1.2]; simp
    · have : ¬ (idB k j = idB k s) := fun h2 => e (idB_inj k j s (by omega) (by omega) h2)
      rw [h1.2]; simp [e, this]

theorem PInv.add {k : ByteArray} {L : Loc} {R : Rem} {ol : List Nat} (h : PInv k L R ol) (s : Nat) (hs : s < L.n) :
    (R.add s 0 (idB k s)).1 = 0 ∧ PInv k L (R.add s 0 (idB k s)).2 ol ∧ (R.add s 0 (idB k s)).2.left = R.left := by
  have hn := h.nle
  have hb : (R.ent.made s 0 (idB k s)).bound = 0 := by
    show max (R.ent.put s (idB k s)).bound 0 = 0
    have : (R.ent.put s (idB k s)).bound = R.ent.bound := by unfold Ent.put; split <;> rfl
    rw [this, h.bound]; rfl
  have hkept : R.ent.kept s 0 (idB k s) = R.ent.made s 0 (idB k s) := by unfold Ent.kept; rw [hb]; rfl
  have hlost : R.ent.lost s 0 (idB k s) = [] := by unfold Ent.lost; rw [hb]; rfl
  have hst : ∀ j, (R.ent.made s 0 (idB k s)).st j = if j = s ∧ R.ent.st s = 0 then 1 else R.ent.st j := by
    intro j
    show (R.ent.put s (idB k s)).st j = _
    unfold Ent.put
    by_cases h0 : R.ent.st s = 0
    · rw [if_pos h0]
      show (if j = s then 1 else R.ent.st j) = _
      by_cases e : j = s
      · rw [if_pos e, if_pos ⟨e, h0⟩]
      · rw [if_neg e, if_neg (fun h => e h.1)]
    · rw [if_neg h0, if_neg (fun h => h0 h.2)]
  have hid : ∀ j, (R.ent.made s 0 (idB k s)).ids j = if j = s ∧ R.ent.st s = 0 then idB k s else R.ent.ids j := by
    intro j
    show (R.ent.put s (idB k s)).ids j = _
    unfold Ent.put
    by_cases h0 : R.ent.st s = 0
    · rw [if_pos h0]
      show (if j = s then idB k s else R.ent.ids j) = _
      by_cases e : j = s
      · rw [if_pos e, if_pos ⟨e, h0⟩]
      · rw [if_neg e, if_neg (fun h => e h.1)]
    · rw [if_neg h0, if_neg (fun h => h0 h.2)]
  obtain ⟨c, hc1, _, hc3, hc4, hc5⟩ := h.current
  obtain ⟨c', hc'⟩ := h.cur
  have hcc : c' = c := by
    have := hits_one _ c' hc'
    rw [hc1] at this
    injection this with h1
    exact h1.symm
  subst hcc
  have hne : ∀ j, R.ent.st j = 3 → (R.ent.made s 0 (idB k s)).st j = 3 := fun j hj => by
    rw [hst]
    by_cases e : j = s ∧ R.ent.st s = 0
    · rw [e.1] at hj; omega
    · rw [if_neg e]; exact hj
  have hcur : ∀ j, j < 32 → ((R.ent.made s 0 (idB k s)).isIn 2 j = true ↔ j = c'.val) := by
    intro j hj
    rw [isIn_iff, hst]
    by_cases e : j = s ∧ R.ent.st s = 0
    · rw [if_pos e]
      constructor
      · intro h1; omega
      · intro h1; rw [e.1] at h1; rw [h1] at e; omega
    · rw [if_neg e, ← isIn_iff]; exact hc' j hj
  have hh := hits_one _ c' hcur
  have hnext : (R.ent.made s 0 (idB k s)).next = R.ent.made s 0 (idB k s) := by unfold Ent.next; rw [hh]; rfl
  have hun : (hits ((R.ent.made s 0 (idB k s)).isIn 1) 32).length < 4 := by
    have := count_lt ((R.ent.made s 0 (idB k s)).isIn 1) L.act L.n c'.val hn (fun j hj hp => by
      rw [isIn_iff, hst] at hp
      have hlt : j < L.n := by
        by_cases e : j = s ∧ R.ent.st s = 0
        · rw [e.1]; exact hs
        · rw [if_neg e] at hp; exact (h.ids j hj (by rw [hp]; decide)).1
      refine ⟨hlt, ?_⟩
      cases ha : L.act j with
      | true => rfl
      | false =>
        have h3 := h.act j hlt ha
        by_cases e : j = s ∧ R.ent.st s = 0
        · rw [e.1] at h3; omega
        · rw [if_neg e] at hp; omega) hc3 hc4 (by
      cases hq : (R.ent.made s 0 (idB k s)).isIn 1 c'.val with
      | false => rfl
      | true =>
        rw [isIn_iff] at hq
        have := (isIn_iff _ _ _).1 ((hcur c'.val c'.isLt).2 rfl)
        omega)
    rw [← actives_count] at this
    have := h.few
    omega
  have hadd : R.add s 0 (idB k s) = (0, { ent := R.ent.made s 0 (idB k s), left := R.left }) := by
    unfold Rem.add
    rw [if_neg (by rw [h.fits s hs]; decide), hkept, hnext, hlost, if_neg (by rw [hh]; simp), if_neg (by omega), List.append_nil]
  rw [hadd]
  refine ⟨rfl, ⟨h.key, h.n1, h.nle, h.few, hb, fun j hj h0 => ?_, ⟨c', hcur⟩, fun j hj ha => hne j (h.act j hj ha), fun j hj => ⟨(h.lft j hj).1, hne j (h.lft j hj).2⟩, fun j hj => ⟨(h.old j hj).1, hne j (h.old j hj).2⟩⟩, rfl⟩
  rw [hst] at h0
  rw [hid]
  by_cases e : j = s ∧ R.ent.st s = 0
  · rw [if_pos e, e.1]; exact ⟨hs, rfl⟩
  · rw [if_neg e] at h0 ⊢; exact h.ids j hj h0

theorem PInv.rotate {k : ByteArray} {L : Loc} {R : Rem} {ol : List Nat} (h : PInv k L R ol) (hu : hits (R.ent.isIn 1) 32 ≠ []) :
    ∃ c : Fin 32, R.ent.cur = idB k c.val ∧ PInv k L R.rotate (ol ++ [c.val]) ∧ R.rotate.left = R.left ++ [c.val] := by
  obtain ⟨c, hc1, hc2, hc3, hc4, hc5⟩ := h.current
  obtain ⟨x, l, hx⟩ : ∃ x l, hits (R.ent.isIn 1) 32 = x :: l := by
    cases hh : hits (R.ent.isIn 1) 32 with
    | nil => exact absurd hh hu
    | cons x l => exact ⟨x, l, rfl⟩
  have hx1 : R.ent.st x.val = 1 := by
    have : x ∈ hits (R.ent.isIn 1) 32 := by rw [hx]; exact List.mem_cons_self ..
    exact (isIn_iff _ _ _).1 ((hits_mem _ _ _).1 this).2
  have hcx : c.val ≠ x.val := fun e => by rw [e] at hc5; omega
  have hrot : R.rot (hits (R.ent.isIn 2) 32) = { ent := R.ent.setSt c.val 3, left := R.left ++ [c.val] } := by rw [hc1]; rfl
  have hh1 : hits ((R.ent.setSt c.val 3).isIn 1) 32 = hits (R.ent.isIn 1) 32 := by
    have aux : ∀ m, hits ((R.ent.setSt c.val 3).isIn 1) m = hits (R.ent.isIn 1) m := by
      intro m
      induction m with
      | zero => rfl
      | succ m ih =>
        have e1 : (R.ent.setSt c.val 3).isIn 1 m = R.ent.isIn 1 m := by
          unfold Ent.isIn
          show ((if m = c.val then 3 else R.ent.st m) == 1) = (R.ent.st m == 1)
          by_cases e : m = c.val
          · rw [if_pos e, e, hc5]; rfl
          · rw [if_neg e]
        unfold hits
        rw [e1, ih]
    exact aux 32
  have hadv : (R.ent.setSt c.val 3).adv = (R.ent.setSt c.val 3).setSt x.val 2 := by
    unfold Ent.adv; rw [hh1, hx]; rfl
  have hR : R.rotate = { ent := (R.ent.setSt c.val 3).setSt x.val 2, left := R.left ++ [c.val] } := by
    unfold Rem.rotate; rw [hrot, hadv]
  have hst : ∀ j, R.rotate.ent.st j = if j = x.val then 2 else if j = c.val then 3 else R.ent.st j := fun j => by rw [hR]; rfl
  have hids : ∀ j, R.rotate.ent.ids j = R.ent.ids j := fun j => by rw [hR]; rfl
  have hleft : R.rotate.left = R.left ++ [c.val] := by rw [hR]
  have h3 : ∀ j, R.ent.st j = 3 → R.rotate.ent.st j = 3 := fun j hj => by
    rw [hst, if_neg (fun e => by rw [e] at hj; omega)]
    by_cases e : j = c.val
    · rw [if_pos e]
    · rw [if_neg e]; exact hj
  have hc3' : R.rotate.ent.st c.val = 3 := by rw [hst, if_neg hcx, if_pos rfl]
  refine ⟨c, hc2, ⟨h.key, h.n1, h.nle, h.few, by rw [hR]; exact h.bound, fun j hj h0 => ?_, ⟨x, fun j hj => ?_⟩, fun j hj ha => h3 j (h.act j hj ha), fun j hj => ?_, fun j hj => ?_⟩, hleft⟩
  · rw [hids]
    apply h.ids j hj
    rw [hst] at h0
    by_cases e : j = x.val
    · rw [e, hx1]; decide
    · rw [if_neg e] at h0
      by_cases e2 : j = c.val
      · rw [e2, hc5]; decide
      · rw [if_neg e2] at h0; exact h0
  · rw [isIn_iff, hst]
    by_cases e : j = x.val
    · rw [if_pos e]; exact ⟨fun _ => e, fun _ => rfl⟩
    · rw [if_neg e]
      by_cases e2 : j = c.val
      · rw [if_pos e2]; exact ⟨fun h => by omega, fun h => absurd h e⟩
      · rw [if_neg e2]
        constructor
        · intro h2
          have : (⟨j, hj⟩ : Fin 32) ∈ hits (R.ent.isIn 2) 32 := (hits_mem _ _ _).2 ⟨hj, (isIn_iff _ _ _).2 h2⟩
          rw [hc1, List.mem_singleton] at this
          exact absurd (congrArg Fin.val this) e2
        · intro h2; exact absurd h2 e
  · rw [hleft, List.mem_append, List.mem_singleton] at hj
    rcases hj with hj | rfl
    · exact ⟨(h.lft j hj).1, h3 j (h.lft j hj).2⟩
    · exact ⟨hc3, hc3'⟩
  · rw [List.mem_append, List.mem_singleton] at hj
    rcases hj with hj | rfl
    · exact ⟨(h.old j hj).1, h3 j (h.old j hj).2⟩
    · exact ⟨hc3, hc3'⟩

theorem pinv_new (k : ByteArray) : PInv k (locN k 1) (newRem (idB k 0)) [] := by
  refine ⟨locN_key k 1, by rw [locN_n]; decide, by rw [locN_n]; decide, by rw [locN_actives]; decide, rfl, fun j hj h0 => ?_, ⟨⟨0, by decide⟩, fun j hj => ?_⟩, fun j hj ha => ?_, (fun j hj => by cases hj), (fun j hj => by cases hj)⟩
  · have h1 : (if j = 0 then 2 else 0) ≠ 0 := h0
    by_cases e : j = 0
    · subst e; rw [locN_n]; exact ⟨by decide, rfl⟩
    · rw [if_neg e] at h1; exact absurd rfl h1
  · rw [isIn_iff]
    show (if j = 0 then 2 else 0) = 2 ↔ j = 0
    by_cases e : j = 0
    · rw [if_pos e]; exact ⟨fun _ => e, fun _ => rfl⟩
    · rw [if_neg e]; exact ⟨fun h => by omega, fun h => absurd h e⟩
  · rw [locN_n] at hj
    have := locN_act k 1 j hj
    rw [this] at ha; cases ha

end Go.Proofs.Ytmdfpknhfkgfoaa
