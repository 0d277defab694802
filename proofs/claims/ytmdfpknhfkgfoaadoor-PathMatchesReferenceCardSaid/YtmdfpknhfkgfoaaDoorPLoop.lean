/- law24's loops: the plain laws. No walk. -/
import Derived.Test.YtmdfpknhfkgfoaaDoorPGood
namespace Go.Proofs.YtmdfpknhfkgfoaaDoor
open Go.RowKit Go.Shelf

theorem get_of_upd {S : PS} {k k' : Int × Int} {f : PE → PE} (hf : ∀ e, (f e).key = e.key) {e' : PE} (h : (S.upd k f).get k' = some e') : ∃ e, S.get k' = some e ∧ ((k' = k ∧ e' = f e) ∨ (k' ≠ k ∧ e' = e)) := by
  by_cases hk : k' = k
  · subst hk
    rw [get_upd_at S k' f hf] at h
    obtain ⟨e, he, rfl⟩ := Option.map_eq_some_iff.1 h
    exact ⟨e, he, .inl ⟨rfl, rfl⟩⟩
  · rw [get_upd_ne S f hf hk] at h
    exact ⟨e', h, .inr ⟨hk, rfl⟩⟩

/-- The calls whose addresses are the laws' own. -/
def Call24.tame (c : Call24) : Prop := 0 ≤ c.kind ∧ c.kind ≤ 6

/-- What a tame call does. -/
def Did (S : PS) (now : Int) (c : Call24) (x : Int) (S' : PS) : Prop :=
  (S' = S ∧ (x ≠ 0 ∨ c.kind = 3) ∧ (c.kind = 3 → x = 0) ∧ c.kind ≠ 6)
  ∨ (c.kind = 0 ∧ x = 0 ∧ RecvIs S S' 100 (rmN c.remote) (pkN c.n 600 : Nat))
  ∨ (c.kind = 1 ∧ x = 0 ∧ S.allows c.key (pkN c.n 600 : Nat) = true ∧ S' = S.upd c.key (PE.send (pkN c.n 600 : Nat)))
  ∨ (c.kind = 2 ∧ x = 0 ∧ S' = S.upd c.key (PE.ask (datN c.n) now))
  ∨ (c.kind = 3 ∧ x = 1 ∧ (∃ e, S.get c.key = some e ∧ e.idle = false ∧ e.data = datN c.n) ∧ S' = S.upd c.key PE.answer)
  ∨ (c.kind = 4 ∧ ∀ k, S'.get k = S.get k)
  ∨ (c.kind = 5 ∧ x = 0 ∧ S' = S.upd c.key PE.validate)
  ∨ (c.kind = 6 ∧ ∀ k, S'.get k = (S.get k).map (PE.exp now))

theorem doo_did {S : PS} (hn : S.nd) (now : Int) (c : Call24) (ht : c.tame) : Did S now c (S.doo now c).1 (S.doo now c).2 := by
  obtain ⟨h0, h6⟩ := ht
  have hk : c.kind = 0 ∨ c.kind = 1 ∨ c.kind = 2 ∨ c.kind = 3 ∨ c.kind = 4 ∨ c.kind = 5 ∨ c.kind = 6 := by omega
  unfold Did
  rcases hk with hk | hk | hk | hk | hk | hk | hk
  · have e : S.doo now c = S.received now 100 (rmN c.remote) (pkN c.n 600 : Nat) := by unfold PS.doo; simp [hk]
    rw [e]
    rcases received_is hn now 100 (rmN c.remote) (pkN c.n 600 : Nat) with ⟨h1, h2⟩ | ⟨h1, _, h2⟩
    · exact .inl ⟨h2, .inl h1, fun h => by omega, by omega⟩
    · exact .inr (.inl ⟨hk, h1, h2⟩)
  · have e : S.doo now c = S.sent c.key (pkN c.n 600 : Nat) := by unfold PS.doo; simp [hk]
    rw [e]
    rcases sent_is S c.key (pkN c.n 600 : Nat) with ⟨h1, h2, _⟩ | ⟨h1, h2, h3⟩
    · exact .inl ⟨h2, .inl h1, fun h => by omega, by omega⟩
    · exact .inr (.inr (.inl ⟨hk, h1, h2, h3⟩))
  · have e : S.doo now c = S.challenge now c.key (datN c.n) := by unfold PS.doo; simp [hk]
    rw [e]
    rcases challenge_is S now c.key (datN c.n) with ⟨h1, h2⟩ | ⟨h1, _, _, _, h2⟩
    · exact .inl ⟨h2, .inl h1, fun h => by omega, by omega⟩
    · exact .inr (.inr (.inr (.inl ⟨hk, h1, h2⟩)))
  · have e : S.doo now c = (b2i (S.respond c.key (datN c.n)).1, (S.respond c.key (datN c.n)).2) := by unfold PS.doo; simp [hk]
    rw [e]
    rcases respond_is S c.key (datN c.n) with ⟨h1, h2⟩ | ⟨h1, h2, h3⟩
    · refine .inl ⟨h2, .inr hk, fun _ => ?_, by omega⟩
      show b2i (S.respond c.key (datN c.n)).1 = 0
      rw [h1]; rfl
    · refine .inr (.inr (.inr (.inr (.inl ⟨hk, ?_, h2, h3⟩))))
      show b2i (S.respond c.key (datN c.n)).1 = 1
      rw [h1]; rfl
  · have e : S.doo now c = S.migrate c.key := by unfold PS.doo; simp [hk]
    rw [e]
    exact .inr (.inr (.inr (.inr (.inr (.inl ⟨hk, migrate_get S c.key⟩)))))
  · have e : S.doo now c = S.validate c.key := by unfold PS.doo; simp [hk]
    rw [e]
    rcases validate_is S c.key with ⟨h1, h2⟩ | ⟨h1, _, h2⟩
    · exact .inl ⟨h2, .inl h1, fun h => by omega, by omega⟩
    · exact .inr (.inr (.inr (.inr (.inr (.inr (.inl ⟨hk, h1, h2⟩))))))
  · have e : S.doo now c = (b2i (S.tick now).1, (S.tick now).2) := by unfold PS.doo; simp [hk]
    rw [e]
    exact .inr (.inr (.inr (.inr (.inr (.inr (.inr ⟨hk, tick_get S now⟩))))))

section
variable {S S' : PS} {now : Int} {c : Call24} {x : Int}

theorem Did.keys (h : Did S now c x S') (k : Int × Int) (e' : PE) (hk : S'.get k = some e') : k = c.key ∨ ∃ e, S.get k = some e := by
  rcases h with ⟨rfl, _⟩ | ⟨_, _, h⟩ | ⟨_, _, _, rfl⟩ | ⟨_, _, rfl⟩ | ⟨_, _, _, rfl⟩ | ⟨_, h⟩ | ⟨_, _, rfl⟩ | ⟨_, h⟩
  · exact .inr ⟨e', hk⟩
  · by_cases hq : k = c.key
    · exact .inl hq
    · rcases h.there k hq with h1 | ⟨h1, _⟩
      · exact .inr ⟨e', by rw [← h1]; exact hk⟩
      · rw [h1] at hk; cases hk
  · obtain ⟨e, he, _⟩ := get_of_upd (by intro _; rfl) hk; exact .inr ⟨e, he⟩
  · obtain ⟨e, he, _⟩ := get_of_upd (by intro _; rfl) hk; exact .inr ⟨e, he⟩
  · obtain ⟨e, he, _⟩ := get_of_upd (by intro _; rfl) hk; exact .inr ⟨e, he⟩
  · exact .inr ⟨e', by rw [← h]; exact hk⟩
  · obtain ⟨e, he, _⟩ := get_of_upd (by intro _; rfl) hk; exact .inr ⟨e, he⟩
  · rw [h] at hk
    obtain ⟨e, he, _⟩ := Option.map_eq_some_iff.1 hk
    exact .inr ⟨e, he⟩

/-! ### PathBounded -/
/-- All paths have the laws' addresses. -/
def PS.near (S : PS) : Prop := ∀ k e, S.get k = some e → k.1 = 100 ∧ 1 ≤ k.2 ∧ k.2 ≤ 7
theorem PS.near.did (h : S.near) (hd : Did S now c x S') : S'.near := fun k e' hk => by
  rcases hd.keys k e' hk with rfl | ⟨e, he⟩
  · exact ⟨rfl, rmN_in c.remote⟩
  · exact h k e he
theorem near_PS1 (r : Int) (ok : Bool) (hr : 1 ≤ r ∧ r ≤ 7) : (PS1 100 r ok).near := fun k e h => by
  rw [get_PS1] at h
  split at h
  · next hk => subst hk; exact ⟨rfl, hr⟩
  · cases h
theorem good_allows0 {m : Nat} (hg : S.good m) {k : Int × Int} {e : PE} (he : S.get k = some e) : S.allows k 0 = true := by
  refine allows_split.2 ⟨e, he, rfl, ?_⟩
  unfold PE.allows
  rw [Bool.or_eq_true]
  rcases hg.amp k e he with h | h
  · exact .inl h
  · exact .inr (decide_eq_true (by omega))

/-! ### PathAmplification -/
def AmpInv (k : Int × Int) (S : PS) (rc sn : Int) : Prop := S.valid k = true ∨ ((∀ e, S.get k = some e → sn - e.snt ≤ 3 * (rc - e.rcv)) ∧ (S.get k = none → sn ≤ 3 * rc))

theorem amp_le {k : Int × Int} {rc sn : Int} {m : Nat} (h : AmpInv k S rc sn) (hg : S.good m) (hv : S.valid k = false) : sn ≤ 3 * rc := by
  rcases h with h | ⟨h1, h2⟩
  · rw [hv] at h; cases h
  · cases he : S.get k with
    | none => exact h2 he
    | some e =>
      have h3 := h1 e he
      rcases hg.amp k e he with h4 | h4
      · rw [valid_of he, h4] at hv; cases hv
      · omega

theorem amp_init (k : Int × Int) (S : PS) (h : S.get k = none) : AmpInv k S 0 0 := .inr ⟨fun e he => (by rw [h] at he; cases he), fun _ => (by omega)⟩

theorem amp_send {k : Int × Int} {rc sn n : Int} (h : AmpInv k S rc sn) (ha : S.allows k n = true) : AmpInv k (S.upd k (PE.send n)) rc (if (S.upd k (PE.send n)).valid k = true then sn else sn + n) := by
  obtain ⟨e0, he0, _⟩ := allows_split.1 ha
  by_cases hv : (S.upd k (PE.send n)).valid k = true
  · exact .inl hv
  · rw [if_neg hv]
    refine .inr ⟨fun e' he' => ?_, fun hno => ?_⟩
    · obtain ⟨e, he, hc⟩ := get_of_upd (by intro _; rfl) he'
      rcases hc with ⟨_, rfl⟩ | ⟨h1, _⟩
      · rcases h with h | ⟨h1, _⟩
        · rw [valid_of he] at h
          exact absurd ((valid_def _ _).2 ⟨_, he', h⟩) hv
        · have := h1 e he
          show sn + n - (e.snt + n) ≤ 3 * (rc - e.rcv)
          omega
      · exact absurd rfl h1
    · rw [get_upd_at S k (PE.send n) (fun _ => rfl), he0] at hno
      cases hno

theorem amp_other {k : Int × Int} {rc sn : Int} {m : Nat} (h : AmpInv k S rc sn) (hg : S.good m) (hto : S.To S') (hd : Did S now c x S') (hc : ¬ (c.key = k ∧ c.kind = 1)) :
    AmpInv k S' (if x = 0 ∧ c.kind = 0 ∧ c.key = k then rc + (pkN c.n 600 : Nat) else rc) sn := by
  cases hv : S.valid k with
  | true => exact .inl (hto.valid hv)
  | false =>
    have hle := amp_le h hg hv
    rcases h with h | ⟨h1, h2⟩
    · rw [hv] at h; cases h
    have fin : (c.kind ≠ 0 ∨ x ≠ 0 ∨ c.key ≠ k) → (∀ e', S'.get k = some e' → ∃ e, S.get k = some e ∧ e'.snt = e.snt ∧ e'.rcv = e.rcv) → AmpInv k S' (if x = 0 ∧ c.kind = 0 ∧ c.key = k then rc + (pkN c.n 600 : Nat) else rc) sn := fun hne hk => by
      rw [if_neg (by rintro ⟨q1, q2, q3⟩; rcases hne with hne | hne | hne <;> exact hne (by assumption))]
      refine .inr ⟨fun e' he' => ?_, fun _ => hle⟩
      obtain ⟨e, he, e1, e2⟩ := hk e' he'
      rw [e1, e2]
      exact h1 e he
    rcases hd with ⟨rfl, hx, _⟩ | ⟨hk, hx, hr⟩ | ⟨hk, _, _, rfl⟩ | ⟨hk, _, rfl⟩ | ⟨hk, _, _, rfl⟩ | ⟨hk, hs⟩ | ⟨hk, _, rfl⟩ | ⟨hk, hs⟩
    · exact fin (hx.elim (fun hx => .inr (.inl hx)) (fun hx => .inl (by omega))) (fun e' he' => ⟨e', he', rfl, rfl⟩)
    · by_cases hq : c.key = k
      · rw [if_pos ⟨hx, hk, hq⟩]
        subst hq
        obtain ⟨e1, he1, hcase⟩ := hr.here
        refine .inr ⟨fun e' he' => ?_, fun _ => by omega⟩
        rw [show S'.get c.key = some e1 from he1] at he'
        injection he' with he'
        subst he'
        rcases hcase with ⟨e, he, rfl⟩ | ⟨_, rfl⟩
        · have := h1 e he
          show sn - e.snt ≤ 3 * (rc + (pkN c.n 600 : Nat) - (e.rcv + (pkN c.n 600 : Nat)))
          omega
        · show sn - 0 ≤ 3 * (rc + (pkN c.n 600 : Nat) - (pkN c.n 600 : Nat))
          omega
      · refine fin (.inr (.inr hq)) (fun e' he' => ?_)
        rcases hr.there k (fun e => hq e.symm) with h3 | ⟨h3, _⟩
        · exact ⟨e', by rw [← h3]; exact he', rfl, rfl⟩
        · rw [h3] at he'; cases he'
    · have hq : c.key ≠ k := fun e => hc ⟨e, hk⟩
      refine fin (.inr (.inr hq)) (fun e' he' => ?_)
      rw [get_upd_ne S (PE.send (pkN c.n 600 : Nat)) (fun _ => rfl) (fun e => hq e.symm)] at he'
      exact ⟨e', he', rfl, rfl⟩
    · refine fin (.inl (by omega)) (fun e' he' => ?_)
      obtain ⟨e, he, ⟨_, rfl⟩ | ⟨_, rfl⟩⟩ := get_of_upd (by intro _; rfl) he' <;> exact ⟨_, he, rfl, rfl⟩
    · refine fin (.inl (by omega)) (fun e' he' => ?_)
      obtain ⟨e, he, ⟨_, rfl⟩ | ⟨_, rfl⟩⟩ := get_of_upd (by intro _; rfl) he' <;> exact ⟨_, he, rfl, rfl⟩
    · exact fin (.inl (by omega)) (fun e' he' => ⟨e', by rw [← hs]; exact he', rfl, rfl⟩)
    · refine fin (.inl (by omega)) (fun e' he' => ?_)
      obtain ⟨e, he, ⟨_, rfl⟩ | ⟨_, rfl⟩⟩ := get_of_upd (by intro _; rfl) he' <;> exact ⟨_, he, rfl, rfl⟩
    · refine fin (.inl (by omega)) (fun e' he' => ?_)
      rw [hs] at he'
      obtain ⟨e, he, rfl⟩ := Option.map_eq_some_iff.1 he'
      refine ⟨e, he, ?_, ?_⟩ <;> (unfold PE.exp; split <;> rfl)

/-! ### PathValidation -/
/-- What the law's tables say of the challenges. -/
def AskInv (S : PS) (A : Nat → ByteArray) (T : Nat → Int) : Prop := ∀ r : Nat, 1 ≤ r → r ≤ 7 → ∀ e, S.get (100, (r : Int)) = some e → e.data ≠ ⟨#[]⟩ → A r = e.data ∧ T r = e.tick
/-- No challenge has failed. -/
def Fresh (S : PS) (now : Int) : Prop := ∀ k e, S.get k = some e → e.data ≠ ⟨#[]⟩ → now ≤ e.tick + 200
def put {α : Type} (A : Nat → α) (r : Nat) (x : α) : Nat → α := fun i => if i = r then x else A i

theorem ask_clear {A : Nat → ByteArray} {T : Nat → Int} (h : AskInv S A T) (hf : Fresh S now) (r : Nat) (hr : T r + 200 < now) : AskInv S (put A r ⟨#[]⟩) T := fun i hi1 hi7 e he hd => by
  obtain ⟨h1, h2⟩ := h i hi1 hi7 e he hd
  have h3 := hf _ e he hd
  unfold put
  rw [if_neg (by rintro rfl; omega)]
  exact ⟨h1, h2⟩

theorem ask_init (l r : Int) (ok : Bool) (A : Nat → ByteArray) (T : Nat → Int) : AskInv (PS1 l r ok) A T := fun i _ _ e he hd => by
  rw [get_PS1] at he
  split at he
  · injection he with he; subst he; exact absurd rfl hd
  · cases he

theorem ask_set {A : Nat → ByteArray} {T : Nat → Int} (h : AskInv S A T) (r : Nat) (d : ByteArray) (hd : Did S now c 0 S') (hk : c.kind = 2) (hr : c.key = (100, (r : Int))) (hdd : d = datN c.n) : AskInv S' (put A r d) (put T r now) := by
  have hS : S' = S.upd c.key (PE.ask (datN c.n) now) := by
    rcases hd with ⟨_, hx, _⟩ | ⟨hk', _⟩ | ⟨hk', _⟩ | ⟨_, _, h⟩ | ⟨hk', _⟩ | ⟨hk', _⟩ | ⟨hk', _⟩ | ⟨hk', _⟩
    · rcases hx with hx | hx <;> omega
    all_goals first | exact h | omega
  subst hS
  intro i hi1 hi7 e' he' hne
  obtain ⟨e, he, hc⟩ := get_of_upd (by intro _; rfl) he'
  unfold put
  rcases hc with ⟨hkk, rfl⟩ | ⟨hkk, rfl⟩
  · have : i = r := by
      rw [hr] at hkk
      injection hkk with _ h2
      omega
    rw [if_pos this, if_pos this, hdd]
    exact ⟨rfl, rfl⟩
  · have : i ≠ r := by
      rintro rfl
      exact hkk hr.symm
    rw [if_neg this, if_neg this]
    exact h i hi1 hi7 _ he hne

theorem ask_keep {A : Nat → ByteArray} {T : Nat → Int} (h : AskInv S A T) (hd : Did S now c x S') (hk : ¬ (c.kind = 2 ∧ x = 0)) : AskInv S' A T := by
  intro i hi1 hi7 e' he' hne
  rcases hd with ⟨rfl, _⟩ | ⟨_, _, hr⟩ | ⟨_, _, _, rfl⟩ | ⟨h1, h2, _⟩ | ⟨_, _, _, rfl⟩ | ⟨_, hs⟩ | ⟨_, _, rfl⟩ | ⟨_, hs⟩
  · exact h i hi1 hi7 e' he' hne
  · by_cases hq : (100, (i : Int)) = c.key
    · obtain ⟨e1, he1, hcase⟩ := hr.here
      rw [hq, show S'.get c.key = some e1 from he1] at he'
      injection he' with he'
      subst he'
      rcases hcase with ⟨e, he, rfl⟩ | ⟨_, rfl⟩
      · exact h i hi1 hi7 e (by rw [hq]; exact he) hne
      · exact absurd rfl hne
    · rcases hr.there _ hq with h3 | ⟨h3, _⟩
      · exact h i hi1 hi7 e' (by rw [← h3]; exact he') hne
      · rw [h3] at he'; cases he'
  · obtain ⟨e, he, hc⟩ := get_of_upd (by intro _; rfl) he'
    rcases hc with ⟨_, hc⟩ | ⟨_, hc⟩
    · subst hc; exact h i hi1 hi7 e he hne
    · subst hc; exact h i hi1 hi7 _ he hne
  · exact absurd ⟨h1, h2⟩ hk
  · obtain ⟨e, he, ⟨_, rfl⟩ | ⟨_, rfl⟩⟩ := get_of_upd (by intro _; rfl) he'
    · exact absurd rfl hne
    · exact h i hi1 hi7 _ he hne
  · exact h i hi1 hi7 e' (by rw [← hs]; exact he') hne
  · obtain ⟨e, he, hc⟩ := get_of_upd (by intro _; rfl) he'
    rcases hc with ⟨_, hc⟩ | ⟨_, hc⟩
    · subst hc; exact h i hi1 hi7 e he hne
    · subst hc; exact h i hi1 hi7 _ he hne
  · rw [hs] at he'
    obtain ⟨e, he, rfl⟩ := Option.map_eq_some_iff.1 he'
    unfold PE.exp at hne ⊢
    split at hne
    · exact absurd rfl hne
    · next hl => rw [if_neg hl]; exact h i hi1 hi7 e he hne

theorem ask_fresh (hd : Did S now c x S') (hk : c.kind = 6) : Fresh S' now := by
  have hs : ∀ k, S'.get k = (S.get k).map (PE.exp now) := by
    rcases hd with ⟨_, _, _, h⟩ | ⟨h, _⟩ | ⟨h, _⟩ | ⟨h, _⟩ | ⟨h, _⟩ | ⟨h, _⟩ | ⟨h, _⟩ | ⟨_, h⟩
    all_goals first | exact h | omega
  intro k e' he' hne
  rw [hs] at he'
  obtain ⟨e, he, rfl⟩ := Option.map_eq_some_iff.1 he'
  unfold PE.exp at hne ⊢
  split at hne
  · exact absurd rfl hne
  · next hl =>
    rw [if_neg hl]
    unfold PE.late at hl
    rw [Bool.and_eq_true, Bool.not_eq_true', decide_eq_true_iff] at hl
    have hi : e.idle = false := by unfold PE.idle; rw [decide_eq_false hne]; rfl
    apply Classical.byContradiction
    intro hlt
    exact hl ⟨hi, by omega⟩

/-- A true Respond. -/
theorem ask_right {A : Nat → ByteArray} {T : Nat → Int} (h : AskInv S A T) (hd : Did S now c x S') (hk : c.kind = 3) (r : Nat) (h1 : 1 ≤ r) (h7 : r ≤ 7) (hr : c.key = (100, (r : Int))) (hx : x ≠ 0) : x = 1 ∧ A r = datN c.n ∧ S'.valid c.key = true := by
  rcases hd with ⟨_, _, h, _⟩ | ⟨h, _⟩ | ⟨h, _⟩ | ⟨h, _⟩ | ⟨_, hx1, ⟨e, he, _, hdat⟩, rfl⟩ | ⟨h, _⟩ | ⟨h, _⟩ | ⟨h, _⟩
  · exact absurd (h hk) hx
  · omega
  · omega
  · omega
  · refine ⟨hx1, ?_, ?_⟩
    · rw [← hdat]
      exact (h r h1 h7 e (by rw [← hr]; exact he) (by rw [hdat]; exact datN_ne _)).1
    · exact (valid_def _ _).2 ⟨e.answer, by rw [get_upd_at S c.key PE.answer (fun _ => rfl), he]; rfl, rfl⟩
  · omega
  · omega
  · omega

/-- It is cleared then. -/
theorem ask_used {A : Nat → ByteArray} {T : Nat → Int} (h : AskInv S A T) (hd : Did S now c 1 S') (hk : c.kind = 3) (r : Nat) (hr : c.key = (100, (r : Int))) : AskInv S' (put A r ⟨#[]⟩) T := by
  have hS : S' = S.upd c.key PE.answer := by
    rcases hd with ⟨_, _, h, _⟩ | ⟨h, _⟩ | ⟨h, _⟩ | ⟨h, _⟩ | ⟨_, _, _, h⟩ | ⟨h, _⟩ | ⟨h, _⟩ | ⟨h, _⟩
    · have := h hk; omega
    all_goals first | exact h | omega
  subst hS
  intro i hi1 hi7 e' he' hne
  obtain ⟨e, he, hc⟩ := get_of_upd (by intro _; rfl) he'
  unfold put
  rcases hc with ⟨_, rfl⟩ | ⟨hkk, rfl⟩
  · exact absurd rfl hne
  · rw [if_neg (by rintro rfl; exact hkk hr.symm)]
    exact h i hi1 hi7 _ he hne

theorem became_by (hd : Did S now c x S') (k : Int × Int) (h0 : S.valid k = false) (h1 : S'.valid k = true) : (c.kind = 3 ∧ x = 1) ∨ (c.kind = 5 ∧ x = 0) := by
  obtain ⟨e', he', hok⟩ := (valid_def _ _).1 h1
  have no : ∀ e, S.get k = some e → e.ok = true → False := fun e he ho => by rw [valid_of he, ho] at h0; cases h0
  rcases hd with ⟨rfl, _⟩ | ⟨_, _, hr⟩ | ⟨_, _, _, rfl⟩ | ⟨_, _, rfl⟩ | ⟨h2, h3, _, rfl⟩ | ⟨_, hs⟩ | ⟨h2, h3, rfl⟩ | ⟨_, hs⟩
  · exact (no e' he' hok).elim
  · by_cases hq : k = c.key
    · obtain ⟨e1, he1, hcase⟩ := hr.here
      subst hq
      rw [show S'.get c.key = some e1 from he1] at he'
      injection he' with he'
      subst he'
      rcases hcase with ⟨e, he, rfl⟩ | ⟨_, rfl⟩
      · exact (no e he hok).elim
      · cases hok
    · rcases hr.there _ hq with h3 | ⟨h3, _⟩
      · exact (no e' (by rw [← h3]; exact he') hok).elim
      · rw [h3] at he'; cases he'
  · obtain ⟨e, he, ⟨_, rfl⟩ | ⟨_, rfl⟩⟩ := get_of_upd (by intro _; rfl) he' <;> exact (no _ he hok).elim
  · obtain ⟨e, he, ⟨_, rfl⟩ | ⟨_, rfl⟩⟩ := get_of_upd (by intro _; rfl) he' <;> exact (no _ he hok).elim
  · exact .inl ⟨h2, h3⟩
  · exact (no e' (by rw [← hs]; exact he') hok).elim
  · exact .inr ⟨h2, h3⟩
  · rw [hs] at he'
    obtain ⟨e, he, rfl⟩ := Option.map_eq_some_iff.1 he'
    refine (no e he ?_).elim
    unfold PE.exp at hok
    split at hok <;> exact hok
end

end Go.Proofs.YtmdfpknhfkgfoaaDoor
