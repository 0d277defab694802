/- path's model, key by key: what each call does to a path. No walk. -/
import Derived.Test.YtmdfpknhfkgfoaaDoorPSane
namespace Go.Proofs.YtmdfpknhfkgfoaaDoor
open Go.RowKit Go.Shelf

/-- What pick gives. -/
def pkN (c : Int) (n : Nat) : Nat := ((if c < 0 then -(c + 1) else c) % (n : Int)).toNat
theorem pkN_lt (c : Int) (n : Nat) (h : 0 < n) : pkN c n < n := by
  unfold pkN
  have := Int.emod_lt_of_pos (if c < 0 then -(c + 1) else c) (show (0 : Int) < n by omega)
  have := Int.emod_nonneg (if c < 0 then -(c + 1) else c) (show (n : Int) ≠ 0 by omega)
  omega
/-- What remote gives. -/
def rmN (c : Int) : Int := 1 + (pkN c 7 : Nat)
theorem rmN_in (c : Int) : 1 ≤ rmN c ∧ rmN c ≤ 7 := by
  have := pkN_lt c 7 (by decide)
  unfold rmN
  omega
def dA : ByteArray := ⟨#[97, 97, 97, 97, 97, 97, 97, 97]⟩
def dB : ByteArray := ⟨#[98, 98, 98, 98, 98, 98, 98, 98]⟩
def dC : ByteArray := ⟨#[99, 99, 99, 99, 99, 99, 99, 99]⟩
def datOf (k : Nat) : ByteArray := match k with | 0 => dA | 1 => dB | _ => dC
/-- What data gives. -/
def datN (c : Int) : ByteArray := datOf (pkN c 3)
theorem datOf_size (k : Nat) : (datOf k).size = 8 := by unfold datOf; split <;> rfl
theorem datOf_ne (k : Nat) : datOf k ≠ ⟨#[]⟩ := by unfold datOf; split <;> decide
theorem datN_size (c : Int) : (datN c).size = 8 := datOf_size _
theorem datN_ne (c : Int) : datN c ≠ ⟨#[]⟩ := datOf_ne _

structure Call24 where
  kind : Int
  later : Int
  remote : Int
  n : Int
  loc : Int
abbrev Call24.key (c : Call24) : Int × Int := (100, rmN c.remote)

def b2i (b : Bool) : Int := if b then 1 else 0

/-- What do computes. -/
def PS.doo (S : PS) (now : Int) (c : Call24) : Int × PS :=
  if c.kind = 0 then S.received now 100 (rmN c.remote) (pkN c.n 600 : Nat)
  else if c.kind = 1 then S.sent c.key (pkN c.n 600 : Nat)
  else if c.kind = 2 then S.challenge now c.key (datN c.n)
  else if c.kind = 3 then (b2i (S.respond c.key (datN c.n)).1, (S.respond c.key (datN c.n)).2)
  else if c.kind = 4 then S.migrate c.key
  else if c.kind = 5 then S.validate c.key
  else if c.kind = 6 then (b2i (S.tick now).1, (S.tick now).2)
  else S.received c.later c.loc c.remote c.n

/-! ### What lies at a key -/
abbrev PS.nd (S : PS) : Prop := (S.es.map PE.key).Nodup

theorem get_iff {S : PS} (nd : S.nd) {k : Int × Int} {e : PE} : S.get k = some e ↔ e ∈ S.es ∧ e.key = k := by
  constructor
  · exact PS.get_mem
  · rintro ⟨hm, hk⟩
    obtain ⟨e', he'⟩ := PS.get_of ⟨e, hm, hk⟩
    obtain ⟨h1, h2⟩ := PS.get_mem he'
    rw [he', nodup_key nd e' h1 e hm (h2.trans hk.symm)]

theorem get_upd (S : PS) (k k' : Int × Int) (f : PE → PE) (hf : ∀ e, (f e).key = e.key) : (S.upd k f).get k' = if k' = k then (S.get k').map f else S.get k' := by
  unfold PS.get PS.upd
  simp only
  generalize S.es = es
  induction es with
  | nil => simp
  | cons e es ih =>
    rw [List.map_cons]
    by_cases hk : e.key = k
    · rw [if_pos hk]
      by_cases hk' : e.key = k'
      · rw [List.find?_cons_of_pos (by simp [hf, hk']), List.find?_cons_of_pos (by simp [hk']), if_pos (hk'.symm.trans hk)]; rfl
      · rw [List.find?_cons_of_neg (by simp [hf, hk']), List.find?_cons_of_neg (by simp [hk'])]; exact ih
    · rw [if_neg hk]
      by_cases hk' : e.key = k'
      · rw [List.find?_cons_of_pos (by simp [hk']), List.find?_cons_of_pos (by simp [hk']), if_neg (fun h => hk (hk'.trans h))]
      · rw [List.find?_cons_of_neg (by simp [hk']), List.find?_cons_of_neg (by simp [hk'])]; exact ih

theorem get_upd_at (S : PS) (k : Int × Int) (f : PE → PE) (hf : ∀ e, (f e).key = e.key) : (S.upd k f).get k = (S.get k).map f := by rw [get_upd S k k f hf, if_pos rfl]
theorem get_upd_ne (S : PS) {k k' : Int × Int} (f : PE → PE) (hf : ∀ e, (f e).key = e.key) (h : k' ≠ k) : (S.upd k f).get k' = S.get k' := by rw [get_upd S k k' f hf, if_neg h]

theorem get_expire (S : PS) (now : Int) (k : Int × Int) : (S.expire now).get k = (S.get k).map (PE.exp now) := by
  unfold PS.get PS.expire
  simp only
  rw [List.find?_map]
  congr 2
  funext e
  show decide ((PE.exp now e).key = k) = decide (e.key = k)
  rw [PE.exp_key]

theorem get_grown {S : PS} {l r n : Int} (hg : S.get (l, r) = none) (k : Int × Int) : (S.grown l r n).get k = if k = (l, r) then some ⟨l, r, ⟨#[]⟩, 0, n, 0, false⟩ else S.get k := by
  unfold PS.get PS.grown at *
  simp only at *
  rw [List.find?_append]
  by_cases hk : k = (l, r)
  · subst hk
    rw [hg, if_pos rfl]
    simp [PE.key]
  · rw [if_neg hk]
    have : [(⟨l, r, ⟨#[]⟩, 0, n, 0, false⟩ : PE)].find? (fun e => decide (e.key = k)) = none := by
      rw [List.find?_cons_of_neg (by intro h; exact hk (of_decide_eq_true h).symm)]
      rfl
    rw [this, Option.or_none]

theorem room_get {S : PS} (hn : S.nd) (k : Int × Int) : S.room.2.get k = S.get k ∨ (S.room.2.get k = none ∧ ∃ e, S.get k = some e ∧ e.ok = false ∧ k ≠ S.act) := by
  unfold PS.room
  split
  · exact .inl rfl
  · split
    · next i hv =>
      unfold PS.vic at hv
      rw [List.findIdx?_eq_some_iff_getElem] at hv
      obtain ⟨hi, hc, _⟩ := hv
      have hx : S.es[i]? = some S.es[i] := List.getElem?_eq_getElem hi
      by_cases hk : S.es[i].key = k
      · refine .inr ⟨?_, S.es[i], (get_iff hn).2 ⟨List.getElem_mem hi, hk⟩, ?_, ?_⟩
        · cases hgg : (S.erase i).get k with
          | none => rfl
          | some e =>
            obtain ⟨hm, hke⟩ := PS.get_mem hgg
            have hm' : e ∈ S.es.eraseIdx i := hm
            rw [List.mem_eraseIdx_iff_getElem] at hm'
            obtain ⟨j, hj, hji, hje⟩ := hm'
            have : i = j := by
              apply (List.getElem?_inj (l := S.es.map PE.key) (by rw [List.length_map]; exact hi) hn).1
              rw [List.getElem?_map, List.getElem?_map, hx, List.getElem?_eq_getElem hj, hje]
              simp [hk, hke]
            exact absurd this.symm hji
        · unfold PS.cand at hc
          rw [Bool.and_eq_true] at hc
          simpa using hc.2
        · unfold PS.cand at hc
          rw [Bool.and_eq_true] at hc
          rw [← hk]
          simpa using hc.1
      · refine .inl ?_
        cases hg : S.get k with
        | none =>
          cases hgg : (S.erase i).get k with
          | none => rfl
          | some e =>
            obtain ⟨hm, hke⟩ := PS.get_mem hgg
            exact absurd hke (PS.get_none hg e (List.mem_of_mem_eraseIdx hm))
        | some e =>
          obtain ⟨hm, hke⟩ := PS.get_mem hg
          exact (get_iff (S := S.erase i) (keys_erase S.es i hn)).2 ⟨erase_mem hx hm (fun h => hk (by rw [← h]; exact hke)), hke⟩
    · exact .inl rfl
theorem room_act (S : PS) : S.room.2.act = S.act := by
  unfold PS.room
  split
  · rfl
  · split <;> rfl
theorem room_prev (S : PS) : S.room.2.prev = S.prev := by
  unfold PS.room
  split
  · rfl
  · split <;> rfl

theorem valid_def (S : PS) (k : Int × Int) : S.valid k = true ↔ ∃ e, S.get k = some e ∧ e.ok = true := by
  unfold PS.valid
  cases S.get k with
  | none => simp
  | some e => simp
theorem valid_of {S : PS} {k : Int × Int} {e : PE} (h : S.get k = some e) : S.valid k = e.ok := by unfold PS.valid; rw [h]
theorem valid_none {S : PS} {k : Int × Int} (h : S.get k = none) : S.valid k = false := by unfold PS.valid; rw [h]

/-! ### Received, key by key -/
def newE (l r n : Int) : PE := ⟨l, r, ⟨#[]⟩, 0, n, 0, false⟩
def PE.recv (n : Int) (e : PE) : PE := { e with rcv := e.rcv + n }
def PE.send (n : Int) (e : PE) : PE := { e with snt := e.snt + n }

structure RecvIs (S S' : PS) (l r n : Int) : Prop where
  n0 : 0 ≤ n
  n1 : n ≤ 65536
  addr : addrsOk l r = true
  here : ∃ e', S'.get (l, r) = some e' ∧ ((∃ e, S.get (l, r) = some e ∧ e' = e.recv n) ∨ (S.get (l, r) = none ∧ e' = newE l r n))
  there : ∀ k, k ≠ (l, r) → S'.get k = S.get k ∨ (S'.get k = none ∧ ∃ e, S.get k = some e ∧ e.ok = false ∧ k ≠ S.act)
  act : S'.act = S.act
  prev : S'.prev = S.prev

theorem within_ge {lo hi n : Int} (h : within lo hi n = true) : lo ≤ n := by
  unfold within at h
  rw [Bool.and_eq_true] at h
  exact of_decide_eq_true h.1

theorem received_is {S : PS} (hn : S.nd) (now l r n : Int) : ((S.received now l r n).1 ≠ 0 ∧ (S.received now l r n).2 = S) ∨ ((S.received now l r n).1 = 0 ∧ within 0 1000000000 now = true ∧ RecvIs S (S.received now l r n).2 l r n) := by
  unfold PS.received
  by_cases hok : recvOk now l r n = true
  · rw [if_pos hok]
    unfold recvOk at hok
    rw [Bool.and_eq_true, Bool.and_eq_true] at hok
    cases hg : S.get (l, r) with
    | some e =>
      refine .inr ⟨rfl, hok.1.1, within_ge hok.2, within_le hok.2, hok.1.2, ⟨e.recv n, ?_, .inl ⟨e, hg, rfl⟩⟩, fun k hk => .inl ?_, rfl, rfl⟩
      · show (S.upd (l, r) (PE.recv n)).get (l, r) = _
        rw [get_upd_at _ _ (PE.recv n) (fun _ => rfl), hg]; rfl
      · exact get_upd_ne S (PE.recv n) (fun _ => rfl) hk
    | none =>
      show (_ ∧ _) ∨ _
      cases hr : S.room.1 with
      | false => exact .inl ⟨by simp, by simp⟩
      | true =>
        have hg2 : S.room.2.get (l, r) = none := by
          rcases room_get hn (l, r) with h | h
          · rw [h, hg]
          · exact h.1
        refine .inr ⟨rfl, hok.1.1, within_ge hok.2, within_le hok.2, hok.1.2, ⟨newE l r n, ?_, .inr ⟨hg, rfl⟩⟩, fun k hk => ?_, room_act S, room_prev S⟩
        · show (S.room.2.grown l r n).get (l, r) = _
          rw [get_grown hg2, if_pos rfl]; rfl
        · show (S.room.2.grown l r n).get k = _ ∨ ((S.room.2.grown l r n).get k = none ∧ _)
          rw [get_grown hg2, if_neg hk]
          exact room_get hn k
  · rw [if_neg hok]
    exact .inl ⟨by simp, rfl⟩

/-! ### What a call does to a path -/
/-- A path that was there: what may have become of it. -/
structure PE.To (e e' : PE) : Prop where
  l : e'.key = e.key
  rcv : e.rcv ≤ e'.rcv ∧ e'.rcv ≤ e.rcv + 65536
  snt : e.snt ≤ e'.snt ∧ e'.snt ≤ e.snt + 65536
  ok : e.ok = true → e'.ok = true
  amp : (e.ok = true ∨ e.snt ≤ 3 * e.rcv) → (e'.ok = true ∨ e'.snt ≤ 3 * e'.rcv)

theorem PE.To.refl (e : PE) : e.To e := ⟨rfl, ⟨Int.le_refl _, by omega⟩, ⟨Int.le_refl _, by omega⟩, id, id⟩

structure PS.To (S S' : PS) : Prop where
  get : ∀ k e', S'.get k = some e' → (∃ e, S.get k = some e ∧ e.To e') ∨ (S.get k = none ∧ ∃ n, 0 ≤ n ∧ n ≤ 65536 ∧ e' = newE k.1 k.2 n)
  back : ∀ k e, S.get k = some e → S'.get k = none → e.ok = false
  act : S'.act = S.act ∨ (∃ e, S.get S'.act = some e) ∨ S.prev = some S'.act
  prev : ∀ k, S'.prev = some k → S.prev = some k ∨ (k = S.act ∧ S.valid k = true)

theorem PS.To.refl (S : PS) : S.To S := ⟨fun _ e h => .inl ⟨e, h, PE.To.refl e⟩, fun _ _ h h' => (by rw [h] at h'; cases h'), .inl rfl, fun _ h => .inl h⟩

theorem PS.To.upd (S : PS) (k : Int × Int) (f : PE → PE) (hf : ∀ e, (f e).key = e.key) (ht : ∀ e, S.get k = some e → e.To (f e)) : S.To (S.upd k f) := by
  refine ⟨fun k' e' h => ?_, fun k' e h h' => ?_, .inl rfl, fun _ h => .inl h⟩
  · by_cases hk : k' = k
    · subst hk
      rw [get_upd_at S k' f hf] at h
      obtain ⟨e, he, rfl⟩ := Option.map_eq_some_iff.1 h
      exact .inl ⟨e, he, ht e he⟩
    · rw [get_upd_ne S f hf hk] at h
      exact .inl ⟨e', h, PE.To.refl e'⟩
  · by_cases hk : k' = k
    · subst hk
      rw [get_upd_at S k' f hf, h] at h'
      cases h'
    · rw [get_upd_ne S f hf hk, h] at h'
      cases h'

theorem RecvIs.to {S S' : PS} {l r n : Int} (h : RecvIs S S' l r n) : S.To S' := by
  have h0 := h.n0
  have h1 := h.n1
  obtain ⟨e1, he1, hc⟩ := h.here
  refine ⟨fun k e' hk => ?_, fun k e hk hk' => ?_, .inl h.act, fun k hk => .inl (by rw [← h.prev]; exact hk)⟩
  · by_cases hkk : k = (l, r)
    · subst hkk
      rw [he1] at hk
      injection hk with hk
      subst hk
      rcases hc with ⟨e, he, rfl⟩ | ⟨hno, rfl⟩
      · refine .inl ⟨e, he, rfl, ⟨?_, ?_⟩, ⟨Int.le_refl _, ?_⟩, id, ?_⟩
        · show e.rcv ≤ e.rcv + n; omega
        · show e.rcv + n ≤ e.rcv + 65536; omega
        · show e.snt ≤ e.snt + 65536; omega
        · intro hh
          rcases hh with hh | hh
          · exact .inl hh
          · exact .inr (by show e.snt ≤ 3 * (e.rcv + n); omega)
      · exact .inr ⟨hno, n, h0, h1, rfl⟩
    · rcases h.there k hkk with h2 | ⟨h2, _⟩
      · rw [h2] at hk; exact .inl ⟨e', hk, PE.To.refl e'⟩
      · rw [h2] at hk; cases hk
  · by_cases hkk : k = (l, r)
    · subst hkk; rw [he1] at hk'; cases hk'
    · rcases h.there k hkk with h2 | ⟨_, e2, h3, h4, _⟩
      · rw [h2, hk] at hk'; cases hk'
      · rw [hk] at h3; injection h3 with h3; subst h3; exact h4

theorem received_to {S : PS} (hn : S.nd) (now l r n : Int) : S.To (S.received now l r n).2 := by
  rcases received_is hn now l r n with ⟨_, h⟩ | ⟨_, _, h⟩
  · rw [h]; exact PS.To.refl S
  · exact h.to

theorem allows_split {S : PS} {k : Int × Int} {n : Int} : S.allows k n = true ↔ ∃ e, S.get k = some e ∧ within 0 65536 n = true ∧ e.allows n = true := by
  unfold PS.allows
  cases S.get k with
  | none => simp
  | some e => simp

theorem sent_is (S : PS) (k : Int × Int) (n : Int) : ((S.sent k n).1 ≠ 0 ∧ (S.sent k n).2 = S ∧ S.allows k n = false) ∨ ((S.sent k n).1 = 0 ∧ S.allows k n = true ∧ (S.sent k n).2 = S.upd k (PE.send n)) := by
  unfold PS.sent
  by_cases h1 : within 0 65536 n = false
  · rw [if_pos h1]
    refine .inl ⟨by simp, rfl, ?_⟩
    cases ha : S.allows k n with
    | false => rfl
    | true => obtain ⟨_, _, h2, _⟩ := allows_split.1 ha; rw [h1] at h2; cases h2
  · rw [if_neg h1]
    by_cases h2 : S.allows k n = false
    · rw [if_pos h2]; exact .inl ⟨by simp, rfl, h2⟩
    · rw [if_neg h2]; exact .inr ⟨rfl, by simpa using h2, rfl⟩

theorem sent_to (S : PS) (k : Int × Int) (n : Int) : S.To (S.sent k n).2 := by
  rcases sent_is S k n with ⟨_, h, _⟩ | ⟨_, ha, h⟩
  · rw [h]; exact PS.To.refl S
  · rw [h]
    refine PS.To.upd S k _ (fun _ => rfl) (fun e he => ?_)
    obtain ⟨e2, he2, hw, hal⟩ := allows_split.1 ha
    rw [he] at he2
    injection he2 with he2
    subst he2
    have h0 := within_ge hw
    have h1 := within_le hw
    refine ⟨rfl, ⟨Int.le_refl _, ?_⟩, ⟨?_, ?_⟩, id, fun _ => ?_⟩
    · show e.rcv ≤ e.rcv + 65536; omega
    · show e.snt ≤ e.snt + n; omega
    · show e.snt + n ≤ e.snt + 65536; omega
    · unfold PE.allows at hal
      rw [Bool.or_eq_true] at hal
      rcases hal with h | h
      · exact .inl h
      · exact .inr (of_decide_eq_true h)

theorem PE.To.of_same {e e' : PE} (h1 : e'.key = e.key) (h2 : e'.rcv = e.rcv) (h3 : e'.snt = e.snt) (h4 : e.ok = true → e'.ok = true) : e.To e' :=
  ⟨h1, by omega, by omega, h4, fun h => h.elim (fun h => .inl (h4 h)) (fun h => .inr (by omega))⟩

theorem challenge_is (S : PS) (t : Int) (k : Int × Int) (d : ByteArray) : ((S.challenge t k d).1 ≠ 0 ∧ (S.challenge t k d).2 = S) ∨ ((S.challenge t k d).1 = 0 ∧ (∃ e, S.get k = some e) ∧ within 0 1000000000 t = true ∧ d.size = 8 ∧ (S.challenge t k d).2 = S.upd k (PE.ask d t)) := by
  unfold PS.challenge
  by_cases h : within 0 1000000000 t = false ∨ d.size ≠ 8
  · rw [if_pos h]; exact .inl ⟨by simp, rfl⟩
  · rw [if_neg h]
    cases hg : S.get k with
    | none => exact .inl ⟨by simp, rfl⟩
    | some e => exact .inr ⟨rfl, ⟨e, rfl⟩, by simpa using fun h2 => h (.inl h2), Classical.byContradiction fun h2 => h (.inr h2), rfl⟩
theorem challenge_to (S : PS) (t : Int) (k : Int × Int) (d : ByteArray) : S.To (S.challenge t k d).2 := by
  rcases challenge_is S t k d with ⟨_, h⟩ | ⟨_, _, _, _, h⟩
  · rw [h]; exact PS.To.refl S
  · rw [h]; exact PS.To.upd S k _ (fun _ => rfl) (fun e _ => PE.To.of_same rfl rfl rfl id)

theorem respond_is (S : PS) (k : Int × Int) (d : ByteArray) : ((S.respond k d).1 = false ∧ (S.respond k d).2 = S) ∨ ((S.respond k d).1 = true ∧ (∃ e, S.get k = some e ∧ e.idle = false ∧ e.data = d) ∧ (S.respond k d).2 = S.upd k PE.answer) := by
  unfold PS.respond
  cases hg : S.get k with
  | none => exact .inl ⟨rfl, rfl⟩
  | some e =>
    show ((if e.idle = true ∨ e.data ≠ d then ((false, S) : Bool × PS) else (true, S.upd k PE.answer)).1 = false ∧ (if e.idle = true ∨ e.data ≠ d then ((false, S) : Bool × PS) else (true, S.upd k PE.answer)).2 = S) ∨ ((if e.idle = true ∨ e.data ≠ d then ((false, S) : Bool × PS) else (true, S.upd k PE.answer)).1 = true ∧ _ ∧ (if e.idle = true ∨ e.data ≠ d then ((false, S) : Bool × PS) else (true, S.upd k PE.answer)).2 = S.upd k PE.answer)
    by_cases h : e.idle = true ∨ e.data ≠ d
    · rw [if_pos h]; exact .inl ⟨rfl, rfl⟩
    · rw [if_neg h]
      exact .inr ⟨rfl, ⟨e, rfl, by simpa using fun h2 => h (.inl h2), Classical.byContradiction fun h2 => h (.inr h2)⟩, rfl⟩
theorem respond_to (S : PS) (k : Int × Int) (d : ByteArray) : S.To (S.respond k d).2 := by
  rcases respond_is S k d with ⟨_, h⟩ | ⟨_, _, h⟩
  · rw [h]; exact PS.To.refl S
  · rw [h]; exact PS.To.upd S k _ (fun _ => rfl) (fun e _ => PE.To.of_same rfl rfl rfl (fun _ => rfl))

theorem validate_is (S : PS) (k : Int × Int) : ((S.validate k).1 ≠ 0 ∧ (S.validate k).2 = S) ∨ ((S.validate k).1 = 0 ∧ (∃ e, S.get k = some e) ∧ (S.validate k).2 = S.upd k PE.validate) := by
  unfold PS.validate
  cases hg : S.get k with
  | none => exact .inl ⟨by simp, rfl⟩
  | some e => exact .inr ⟨rfl, ⟨e, rfl⟩, rfl⟩
theorem validate_to (S : PS) (k : Int × Int) : S.To (S.validate k).2 := by
  rcases validate_is S k with ⟨_, h⟩ | ⟨_, _, h⟩
  · rw [h]; exact PS.To.refl S
  · rw [h]; exact PS.To.upd S k _ (fun _ => rfl) (fun e _ => PE.To.of_same rfl rfl rfl (fun _ => rfl))

theorem migrate_es (S : PS) (k : Int × Int) : (S.migrate k).2.es = S.es := by
  unfold PS.migrate
  split
  · split <;> rfl
  · rfl
theorem migrate_get (S : PS) (k k' : Int × Int) : (S.migrate k).2.get k' = S.get k' := by unfold PS.get; rw [migrate_es]
theorem migrate_to (S : PS) (k : Int × Int) : S.To (S.migrate k).2 := by
  refine ⟨fun k' e h => .inl ⟨e, (by rw [← migrate_get S k k']; exact h), PE.To.refl e⟩, fun k' e h h' => (by rw [migrate_get, h] at h'; cases h'), ?_, ?_⟩
  · unfold PS.migrate
    cases hg : S.get k with
    | none => exact .inl rfl
    | some e =>
      by_cases hk : k = S.act
      · simp only [if_pos hk]; exact .inl (by trivial)
      · simp only [if_neg hk]; exact .inr (.inl ⟨e, hg⟩)
  · unfold PS.migrate
    cases hg : S.get k with
    | none => exact fun _ h => .inl h
    | some e =>
      by_cases hk : k = S.act
      · simp only [if_pos hk]; exact fun _ h => .inl h
      · simp only [if_neg hk]
        intro k' h
        by_cases hv : S.valid S.act = true
        · rw [if_pos hv] at h
          injection h with h
          subst h
          exact .inr ⟨rfl, hv⟩
        · rw [if_neg hv] at h
          exact .inl h

theorem exp_to (now : Int) (e : PE) : e.To (e.exp now) := by
  unfold PE.exp
  split
  · exact PE.To.of_same rfl rfl rfl id
  · exact PE.To.refl e

theorem tick_get (S : PS) (now : Int) (k : Int × Int) : (S.tick now).2.get k = (S.get k).map (PE.exp now) := by
  rw [← get_expire]
  unfold PS.tick
  split
  · rfl
  · split <;> rfl
theorem tick_to (S : PS) (now : Int) : S.To (S.tick now).2 := by
  refine ⟨fun k e' h => ?_, fun k e h h' => ?_, ?_, ?_⟩
  · rw [tick_get] at h
    obtain ⟨e, he, rfl⟩ := Option.map_eq_some_iff.1 h
    exact .inl ⟨e, he, exp_to now e⟩
  · rw [tick_get, h] at h'
    cases h'
  · unfold PS.tick
    split
    · exact .inl rfl
    · split
      · next k hk => exact .inr (.inr hk)
      · exact .inl rfl
  · unfold PS.tick
    split
    · exact fun _ h => .inl h
    · split
      · intro k h; cases h
      · exact fun _ h => .inl h

theorem doo_to {S : PS} (hn : S.nd) (now : Int) (c : Call24) : S.To (S.doo now c).2 := by
  unfold PS.doo
  split
  · exact received_to hn _ _ _ _
  split
  · exact sent_to _ _ _
  split
  · exact challenge_to _ _ _ _
  split
  · exact respond_to _ _ _
  split
  · exact migrate_to _ _
  split
  · exact validate_to _ _
  split
  · exact tick_to _ _
  exact received_to hn _ _ _ _

/-! ### What the calls keep -/
structure PS.good (S : PS) (m : Nat) : Prop where
  rcv : ∀ k e, S.get k = some e → e.rcv ≤ m * 65536
  snt : ∀ k e, S.get k = some e → e.snt ≤ m * 65536
  amp : ∀ k e, S.get k = some e → e.ok = true ∨ e.snt ≤ 3 * e.rcv
  prev : ∀ k, S.prev = some k → S.valid k = true

theorem PS.To.valid {S S' : PS} (h : S.To S') {k : Int × Int} (hv : S.valid k = true) : S'.valid k = true := by
  obtain ⟨e, he, hok⟩ := (valid_def S k).1 hv
  cases hg : S'.get k with
  | none => rw [h.back k e he hg] at hok; cases hok
  | some e' =>
    rcases h.get k e' hg with ⟨e2, he2, ht⟩ | ⟨hno, _⟩
    · rw [he] at he2
      injection he2 with he2
      subst he2
      exact (valid_def S' k).2 ⟨e', hg, ht.ok hok⟩
    · rw [he] at hno; cases hno

theorem PS.To.good {S S' : PS} {m : Nat} (h : S.To S') (hg : S.good m) : S'.good (m + 1) := by
  refine ⟨fun k e' hk => ?_, fun k e' hk => ?_, fun k e' hk => ?_, fun k hk => ?_⟩
  · rcases h.get k e' hk with ⟨e, he, ht⟩ | ⟨_, n, h0, h1, rfl⟩
    · have := hg.rcv k e he; have := ht.rcv; omega
    · show n ≤ _; omega
  · rcases h.get k e' hk with ⟨e, he, ht⟩ | ⟨_, n, h0, h1, rfl⟩
    · have := hg.snt k e he; have := ht.snt; omega
    · show (0 : Int) ≤ _; omega
  · rcases h.get k e' hk with ⟨e, he, ht⟩ | ⟨_, n, h0, h1, rfl⟩
    · exact ht.amp (hg.amp k e he)
    · exact .inr (by show (0 : Int) ≤ 3 * n; omega)
  · rcases h.prev k hk with h1 | ⟨_, h1⟩
    · exact h.valid (hg.prev k h1)
    · exact h.valid h1
theorem PS.good.mono {S : PS} {m m' : Nat} (h : S.good m) (hm : m ≤ m') : S.good m' :=
  ⟨fun k e hk => by have := h.rcv k e hk; omega, fun k e hk => by have := h.snt k e hk; omega, h.amp, h.prev⟩

theorem get_PS1 (l r : Int) (ok : Bool) (k : Int × Int) : (PS1 l r ok).get k = if k = (l, r) then some ⟨l, r, ⟨#[]⟩, 0, 0, 0, ok⟩ else none := by
  unfold PS.get PS1
  simp only
  by_cases hk : k = (l, r)
  · subst hk
    rw [if_pos rfl]
    simp [PE.key]
  · rw [if_neg hk, List.find?_cons_of_neg (by intro h; exact hk (of_decide_eq_true h).symm)]
    rfl
theorem good_PS1 (l r : Int) (ok : Bool) (m : Nat) : (PS1 l r ok).good m := by
  refine ⟨fun k e h => ?_, fun k e h => ?_, fun k e h => ?_, fun k h => by cases h⟩
  all_goals
    rw [get_PS1] at h
    split at h
    · injection h with h
      subst h
      first | exact .inr (Int.le_refl _) | (show (0 : Int) ≤ _; omega)
    · cases h

/-- What is bounded by the count is small enough for the calls. -/
theorem PS.good.rcvs {S : PS} {m : Nat} (h : S.good m) (hn : S.nd) (hm : m ≤ 1000000) (n : Int) : ∀ e ∈ S.es, n ≤ 65536 → e.rcv + n ≤ 1000000000000 := fun e he hn1 => by
  have := h.rcv e.key e ((get_iff hn).2 ⟨he, rfl⟩)
  omega
theorem PS.good.snts {S : PS} {m : Nat} (h : S.good m) (hn : S.nd) (hm : m ≤ 1000000) (n : Int) (hn1 : n ≤ 65536) : ∀ e ∈ S.es, e.snt + n ≤ 1000000000000 := fun e he => by
  have := h.snt e.key e ((get_iff hn).2 ⟨he, rfl⟩)
  omega

end Go.Proofs.YtmdfpknhfkgfoaaDoor
