/- Merged: PSaneP PSane PGood PLoop PLine PDo PDoN PArgs PLineW PCard. -/
import Derived.Test.YtmdfpknhfkgfoaaDoorPRecv3
import Derived.Deep.Slices
import Derived.Deep.Fields
import Derived.ChangeSame
import Derived.Carry
import Derived.OpenShut
import Derived.StillTailTactics
import Derived.Test.YtmdfpknhfkgfoaaDoorTie
import Derived.Stop.LaidTwo
import Derived.LaidMore
import Derived.ProofKit
import Derived.Stop.Joined
/- law24.sane: what it computes on the model. No walk. -/
namespace Go.Proofs.YtmdfpknhfkgfoaaDoor
open Go.RowKit Go.Shelf

def sn1 : PE := ⟨100, 1, ⟨#[]⟩, 0, 0, 0, true⟩
def sn2 (d : ByteArray) (t : Int) (ok : Bool) : PE := ⟨100, 2, d, t, 40, 0, ok⟩
def snA : ByteArray := ⟨#[49, 50, 51, 52, 53, 54, 55, 56]⟩
def snB : ByteArray := ⟨#[97, 98, 99, 100, 101, 102, 103, 104]⟩
def snS1 : PS := ⟨[sn1, sn2 ⟨#[]⟩ 0 false], (100, 1), none⟩
def snS2 : PS := ⟨[sn1, sn2 snA 5 false], (100, 1), none⟩
def snS3 : PS := ⟨[sn1, sn2 snA 5 false], (100, 2), some (100, 1)⟩
def snS5 : PS := ⟨[sn1, sn2 snB 7 false], (100, 1), none⟩
def snS6 : PS := ⟨[sn1, sn2 ⟨#[]⟩ 0 true], (100, 1), none⟩

theorem sn_recv : (PS1 100 1 true).received 5 100 2 40 = (0, snS1) := by rfl
theorem sn_alw1 : snS1.allows (100, 2) 120 = true := by rfl
theorem sn_alw2 : snS1.allows (100, 2) 121 = false := by rfl
theorem sn_chal : snS1.challenge 5 (100, 2) snA = (0, snS2) := by rfl
theorem sn_migr : snS2.migrate (100, 2) = (0, snS3) := by rfl
theorem sn_resp : snS3.respond (100, 2) ⟨#[49, 50, 51, 52, 53, 54, 55, 57]⟩ = (false, snS3) := by rfl
theorem sn_tick1 : snS3.tick 205 = (false, snS3) := by rfl
theorem sn_tick2 : snS3.tick 206 = (true, snS1) := by rfl
theorem sn_migr2 : snS1.migrate (100, 3) = (240, snS1) := by rfl
theorem sn_sent : snS1.sent (100, 2) 121 = (240, snS1) := by rfl
theorem sn_chal2 : snS1.challenge 7 (100, 2) snB = (0, snS5) := by rfl
theorem sn_resp2 : snS5.respond (100, 2) snB = (true, snS6) := by rfl
theorem sn_val1 : snS6.valid (100, 2) = true := by rfl
theorem sn_val2 : snS6.valid (100, 1) = true := by rfl
theorem sn_len : snS6.es.length = 2 := by rfl
end Go.Proofs.YtmdfpknhfkgfoaaDoor


/- law24.sane: the walk. Printed by gensane.py. -/
namespace Go.Proofs.YtmdfpknhfkgfoaaDoor
open Go.RowKit Go.Shelf

theorem turn_of {w0 : World} {B : Nat} {β : Int × Int → Nat} {S S' : PS} {v x : Value} {w w' : World} {e : Ending} (h : TurnPost w0 B β S v x S' w e w') : e = .returned x ∧ ∃ β' v', PAt w0 B β' S' v' w' := ⟨h.1, let ⟨b, u, hG⟩ := h.2; ⟨b, u, hG.now⟩⟩

set_option maxRecDepth 100000 in
set_option maxHeartbeats 4000000 in
theorem sane24_any (aA aP : Addr) (w : World) (hE : Errs aA aP w) : Calls Tryd.prog 12 #[] w (SomeB (.bool true) w) := by
  have HE := Lib.hid hE; clear hE
  go_enter Tryd.func12, Tryd.ntmps12
  go_wp2_with (fail)
  refine (pnew_yes 100 1 true _ rfl).mono ?_
  rintro e w1 ⟨B, β1, v1, rfl, hA⟩
  have HA1 := Lib.hid hA; clear hA
  go_wp2_with (fail)
  refine (pnew_no 100 0 true _ rfl).mono ?_
  rintro e w2 ⟨rfl, hb⟩
  have HA2 := Lib.hid (HA1.out.of_below hb); clear hb HA1
  go_wp2_with (fail)
  refine (received_any aA aP w B β1 _ v1 5 100 2 40 _ HE.out HA2.out (by intro k hk; cases hk) (by intro e he; simp [PS1] at he; subst he; decide)).mono ?_
  rintro e w3 h
  rw [sn_recv] at h
  obtain ⟨rfl, β3, v3, hA⟩ := turn_of h
  have HA3 := Lib.hid hA; clear hA h HA2
  go_wp2_with (fail)
  refine (allows_any aA aP w B β3 _ v3 100 2 120 _ (HE.out.below HA3.out.below) HA3.out).mono ?_
  rintro e w4 ⟨rfl, hb⟩
  rw [sn_alw1]
  have HA4 := Lib.hid (HA3.out.of_below hb); clear hb HA3
  go_wp2_with (fail)
  refine (allows_any aA aP w B β3 _ v3 100 2 121 _ (HE.out.below HA4.out.below) HA4.out).mono ?_
  rintro e w5 ⟨rfl, hb⟩
  rw [sn_alw2]
  have HA5 := Lib.hid (HA4.out.of_below hb); clear hb HA4
  go_wp2_with (fail)
  refine (challenge_any aA aP w B β3 _ v3 5 100 2 snA _ (HE.out.below HA5.out.below) HA5.out).mono ?_
  rintro e w6 h
  rw [sn_chal] at h
  obtain ⟨rfl, β6, v6, hA⟩ := turn_of h
  have HA6 := Lib.hid hA; clear hA h HA5
  go_wp2_with (fail)
  refine (migrate_any aA aP w B β6 _ v6 100 2 _ (HE.out.below HA6.out.below) HA6.out).mono ?_
  rintro e w7 h
  rw [sn_migr] at h
  obtain ⟨rfl, β7, v7, hA⟩ := turn_of h
  have HA7 := Lib.hid hA; clear hA h HA6
  go_wp2_with (fail)
  refine (respond_any aA aP w B β7 _ v7 6 100 2 _ _ (HE.out.below HA7.out.below) HA7.out).mono ?_
  rintro e w8 h
  rw [sn_resp] at h
  obtain ⟨rfl, β8, v8, hA⟩ := turn_of h
  have HA8 := Lib.hid hA; clear hA h HA7
  go_wp2_with (fail)
  refine (tick_any w B β8 _ v8 205 _ HA8.out).mono ?_
  rintro e w9 h
  rw [sn_tick1] at h
  obtain ⟨rfl, β9, v9, hA⟩ := turn_of h
  have HA9 := Lib.hid hA; clear hA h HA8
  go_wp2_with (fail)
  refine (tick_any w B β9 _ v9 206 _ HA9.out).mono ?_
  rintro e w10 h
  rw [sn_tick2] at h
  obtain ⟨rfl, β10, v10, hA⟩ := turn_of h
  have HA10 := Lib.hid hA; clear hA h HA9
  go_wp2_with (fail)
  refine (pactive_any B β10 _ v10 _ HA10.out.is).mono ?_
  rintro e w11 ⟨rfl, hb⟩
  have HA11 := Lib.hid (HA10.out.of_below hb); clear hb HA10
  go_wp2_with (fail)
  refine (migrate_any aA aP w B β10 _ v10 100 3 _ (HE.out.below HA11.out.below) HA11.out).mono ?_
  rintro e w12 h
  rw [sn_migr2] at h
  obtain ⟨rfl, β12, v12, hA⟩ := turn_of h
  have HA12 := Lib.hid hA; clear hA h HA11
  go_wp2_with (fail)
  refine (sent_any aA aP w B β12 _ v12 100 2 121 _ (HE.out.below HA12.out.below) HA12.out (by intro e he; simp [snS1, sn1, sn2] at he; rcases he with rfl | rfl <;> decide)).mono ?_
  rintro e w13 h
  rw [sn_sent] at h
  obtain ⟨rfl, β13, v13, hA⟩ := turn_of h
  have HA13 := Lib.hid hA; clear hA h HA12
  go_wp2_with (fail)
  refine (challenge_any aA aP w B β13 _ v13 7 100 2 snB _ (HE.out.below HA13.out.below) HA13.out).mono ?_
  rintro e w14 h
  rw [sn_chal2] at h
  obtain ⟨rfl, β14, v14, hA⟩ := turn_of h
  have HA14 := Lib.hid hA; clear hA h HA13
  go_wp2_with (fail)
  refine (respond_any aA aP w B β14 _ v14 8 100 2 snB _ (HE.out.below HA14.out.below) HA14.out).mono ?_
  rintro e w15 h
  rw [sn_resp2] at h
  obtain ⟨rfl, β15, v15, hA⟩ := turn_of h
  have HA15 := Lib.hid hA; clear hA h HA14
  go_wp2_with (fail)
  refine (valid_any aA aP B β15 _ v15 100 2 _ (HE.out.below HA15.out.below) HA15.out.is).mono ?_
  rintro e w16 ⟨rfl, hb⟩
  rw [sn_val1]
  have HA16 := Lib.hid (HA15.out.of_below hb); clear hb HA15
  go_wp2_with (fail)
  refine (valid_any aA aP B β15 _ v15 100 1 _ (HE.out.below HA16.out.below) HA16.out.is).mono ?_
  rintro e w17 ⟨rfl, hb⟩
  rw [sn_val2]
  have HA17 := Lib.hid (HA16.out.of_below hb); clear hb HA16
  go_wp2_with (fail)
  refine (len_any B β15 _ v15 _ HA17.out.is).mono ?_
  rintro e w18 ⟨rfl, hb⟩
  rw [sn_len]
  have HA18 := Lib.hid (HA17.out.of_below hb); clear hb HA17
  go_wp2
  go_ret
  exact ⟨rfl, HA18.out.below⟩

end Go.Proofs.YtmdfpknhfkgfoaaDoor


/- path's model, key by key: what each call does to a path. No walk. -/
namespace Go.Proofs.YtmdfpknhfkgfoaaDoor
open Go.RowKit Go.Shelf

/-- What pick gives. -/
def pkN (c : Int) (n : Nat) : Nat := ((if c < 0 then -(c + 1) else c) % (n : Int)).toNat
theorem pkN_lt (c : Int) (n : Nat) (h : 0 < n) : pkN c n < n := by
  unfold pkN
  have := Int.emod_lt_of_pos (if c < 0 then -(c + 1) else c) (show (0 : Int) < n by omega)
  have := Int.emod_nonneg (if c < 0 then -(c + 1) else c) (show (n : Int) ≠ 0 by omega)
  omega
/-- What remote gives. -/
def rmN (c : Int) : Int := 1 + (pkN c 7 : Nat)
theorem rmN_in (c : Int) : 1 ≤ rmN c ∧ rmN c ≤ 7 := by
  have := pkN_lt c 7 (by decide)
  unfold rmN
  omega
def dA : ByteArray := ⟨#[97, 97, 97, 97, 97, 97, 97, 97]⟩
def dB : ByteArray := ⟨#[98, 98, 98, 98, 98, 98, 98, 98]⟩
def dC : ByteArray := ⟨#[99, 99, 99, 99, 99, 99, 99, 99]⟩
def datOf (k : Nat) : ByteArray := match k with | 0 => dA | 1 => dB | _ => dC
/-- What data gives. -/
def datN (c : Int) : ByteArray := datOf (pkN c 3)
theorem datOf_size (k : Nat) : (datOf k).size = 8 := by unfold datOf; split <;> rfl
theorem datOf_ne (k : Nat) : datOf k ≠ ⟨#[]⟩ := by unfold datOf; split <;> decide
theorem datN_size (c : Int) : (datN c).size = 8 := datOf_size _
theorem datN_ne (c : Int) : datN c ≠ ⟨#[]⟩ := datOf_ne _

structure Call24 where
  kind : Int
  later : Int
  remote : Int
  n : Int
  loc : Int
abbrev Call24.key (c : Call24) : Int × Int := (100, rmN c.remote)

def b2i (b : Bool) : Int := if b then 1 else 0

/-- What do computes. -/
def PS.doo (S : PS) (now : Int) (c : Call24) : Int × PS :=
  if c.kind = 0 then S.received now 100 (rmN c.remote) (pkN c.n 600 : Nat)
  else if c.kind = 1 then S.sent c.key (pkN c.n 600 : Nat)
  else if c.kind = 2 then S.challenge now c.key (datN c.n)
  else if c.kind = 3 then (b2i (S.respond c.key (datN c.n)).1, (S.respond c.key (datN c.n)).2)
  else if c.kind = 4 then S.migrate c.key
  else if c.kind = 5 then S.validate c.key
  else if c.kind = 6 then (b2i (S.tick now).1, (S.tick now).2)
  else S.received c.later c.loc c.remote c.n

/-! ### What lies at a key -/
abbrev PS.nd (S : PS) : Prop := (S.es.map PE.key).Nodup

theorem get_iff {S : PS} (nd : S.nd) {k : Int × Int} {e : PE} : S.get k = some e ↔ e ∈ S.es ∧ e.key = k := by
  constructor
  · exact PS.get_mem
  · rintro ⟨hm, hk⟩
    obtain ⟨e', he'⟩ := PS.get_of ⟨e, hm, hk⟩
    obtain ⟨h1, h2⟩ := PS.get_mem he'
    rw [he', nodup_key nd e' h1 e hm (h2.trans hk.symm)]

theorem get_upd (S : PS) (k k' : Int × Int) (f : PE → PE) (hf : ∀ e, (f e).key = e.key) : (S.upd k f).get k' = if k' = k then (S.get k').map f else S.get k' := by
  unfold PS.get PS.upd
  simp only
  generalize S.es = es
  induction es with
  | nil => simp
  | cons e es ih =>
    rw [List.map_cons]
    by_cases hk : e.key = k
    · rw [if_pos hk]
      by_cases hk' : e.key = k'
      · rw [List.find?_cons_of_pos (by simp [hf, hk']), List.find?_cons_of_pos (by simp [hk']), if_pos (hk'.symm.trans hk)]; rfl
      · rw [List.find?_cons_of_neg (by simp [hf, hk']), List.find?_cons_of_neg (by simp [hk'])]; exact ih
    · rw [if_neg hk]
      by_cases hk' : e.key = k'
      · rw [List.find?_cons_of_pos (by simp [hk']), List.find?_cons_of_pos (by simp [hk']), if_neg (fun h => hk (hk'.trans h))]
      · rw [List.find?_cons_of_neg (by simp [hk']), List.find?_cons_of_neg (by simp [hk'])]; exact ih

theorem get_upd_at (S : PS) (k : Int × Int) (f : PE → PE) (hf : ∀ e, (f e).key = e.key) : (S.upd k f).get k = (S.get k).map f := by rw [get_upd S k k f hf, if_pos rfl]
theorem get_upd_ne (S : PS) {k k' : Int × Int} (f : PE → PE) (hf : ∀ e, (f e).key = e.key) (h : k' ≠ k) : (S.upd k f).get k' = S.get k' := by rw [get_upd S k k' f hf, if_neg h]

theorem get_expire (S : PS) (now : Int) (k : Int × Int) : (S.expire now).get k = (S.get k).map (PE.exp now) := by
  unfold PS.get PS.expire
  simp only
  rw [List.find?_map]
  congr 2
  funext e
  show decide ((PE.exp now e).key = k) = decide (e.key = k)
  rw [PE.exp_key]

theorem get_grown {S : PS} {l r n : Int} (hg : S.get (l, r) = none) (k : Int × Int) : (S.grown l r n).get k = if k = (l, r) then some ⟨l, r, ⟨#[]⟩, 0, n, 0, false⟩ else S.get k := by
  unfold PS.get PS.grown at *
  simp only at *
  rw [List.find?_append]
  by_cases hk : k = (l, r)
  · subst hk
    rw [hg, if_pos rfl]
    simp [PE.key]
  · rw [if_neg hk]
    have : [(⟨l, r, ⟨#[]⟩, 0, n, 0, false⟩ : PE)].find? (fun e => decide (e.key = k)) = none := by
      rw [List.find?_cons_of_neg (by intro h; exact hk (of_decide_eq_true h).symm)]
      rfl
    rw [this, Option.or_none]

theorem room_get {S : PS} (hn : S.nd) (k : Int × Int) : S.room.2.get k = S.get k ∨ (S.room.2.get k = none ∧ ∃ e, S.get k = some e ∧ e.ok = false ∧ k ≠ S.act) := by
  unfold PS.room
  split
  · exact .inl rfl
  · split
    · next i hv =>
      unfold PS.vic at hv
      rw [List.findIdx?_eq_some_iff_getElem] at hv
      obtain ⟨hi, hc, _⟩ := hv
      have hx : S.es[i]? = some S.es[i] := List.getElem?_eq_getElem hi
      by_cases hk : S.es[i].key = k
      · refine .inr ⟨?_, S.es[i], (get_iff hn).2 ⟨List.getElem_mem hi, hk⟩, ?_, ?_⟩
        · cases hgg : (S.erase i).get k with
          | none => rfl
          | some e =>
            obtain ⟨hm, hke⟩ := PS.get_mem hgg
            have hm' : e ∈ S.es.eraseIdx i := hm
            rw [List.mem_eraseIdx_iff_getElem] at hm'
            obtain ⟨j, hj, hji, hje⟩ := hm'
            have : i = j := by
              apply (List.getElem?_inj (l := S.es.map PE.key) (by rw [List.length_map]; exact hi) hn).1
              rw [List.getElem?_map, List.getElem?_map, hx, List.getElem?_eq_getElem hj, hje]
              simp [hk, hke]
            exact absurd this.symm hji
        · unfold PS.cand at hc
          rw [Bool.and_eq_true] at hc
          simpa using hc.2
        · unfold PS.cand at hc
          rw [Bool.and_eq_true] at hc
          rw [← hk]
          simpa using hc.1
      · refine .inl ?_
        cases hg : S.get k with
        | none =>
          cases hgg : (S.erase i).get k with
          | none => rfl
          | some e =>
            obtain ⟨hm, hke⟩ := PS.get_mem hgg
            exact absurd hke (PS.get_none hg e (List.mem_of_mem_eraseIdx hm))
        | some e =>
          obtain ⟨hm, hke⟩ := PS.get_mem hg
          exact (get_iff (S := S.erase i) (keys_erase S.es i hn)).2 ⟨erase_mem hx hm (fun h => hk (by rw [← h]; exact hke)), hke⟩
    · exact .inl rfl
theorem room_act (S : PS) : S.room.2.act = S.act := by
  unfold PS.room
  split
  · rfl
  · split <;> rfl
theorem room_prev (S : PS) : S.room.2.prev = S.prev := by
  unfold PS.room
  split
  · rfl
  · split <;> rfl

theorem valid_def (S : PS) (k : Int × Int) : S.valid k = true ↔ ∃ e, S.get k = some e ∧ e.ok = true := by
  unfold PS.valid
  cases S.get k with
  | none => simp
  | some e => simp
theorem valid_of {S : PS} {k : Int × Int} {e : PE} (h : S.get k = some e) : S.valid k = e.ok := by unfold PS.valid; rw [h]
theorem valid_none {S : PS} {k : Int × Int} (h : S.get k = none) : S.valid k = false := by unfold PS.valid; rw [h]

/-! ### Received, key by key -/
def newE (l r n : Int) : PE := ⟨l, r, ⟨#[]⟩, 0, n, 0, false⟩
def PE.recv (n : Int) (e : PE) : PE := { e with rcv := e.rcv + n }
def PE.send (n : Int) (e : PE) : PE := { e with snt := e.snt + n }

structure RecvIs (S S' : PS) (l r n : Int) : Prop where
  n0 : 0 ≤ n
  n1 : n ≤ 65536
  addr : addrsOk l r = true
  here : ∃ e', S'.get (l, r) = some e' ∧ ((∃ e, S.get (l, r) = some e ∧ e' = e.recv n) ∨ (S.get (l, r) = none ∧ e' = newE l r n))
  there : ∀ k, k ≠ (l, r) → S'.get k = S.get k ∨ (S'.get k = none ∧ ∃ e, S.get k = some e ∧ e.ok = false ∧ k ≠ S.act)
  act : S'.act = S.act
  prev : S'.prev = S.prev

theorem within_ge {lo hi n : Int} (h : within lo hi n = true) : lo ≤ n := by
  unfold within at h
  rw [Bool.and_eq_true] at h
  exact of_decide_eq_true h.1

theorem received_is {S : PS} (hn : S.nd) (now l r n : Int) : ((S.received now l r n).1 ≠ 0 ∧ (S.received now l r n).2 = S) ∨ ((S.received now l r n).1 = 0 ∧ within 0 1000000000 now = true ∧ RecvIs S (S.received now l r n).2 l r n) := by
  unfold PS.received
  by_cases hok : recvOk now l r n = true
  · rw [if_pos hok]
    unfold recvOk at hok
    rw [Bool.and_eq_true, Bool.and_eq_true] at hok
    cases hg : S.get (l, r) with
    | some e =>
      refine .inr ⟨rfl, hok.1.1, within_ge hok.2, within_le hok.2, hok.1.2, ⟨e.recv n, ?_, .inl ⟨e, hg, rfl⟩⟩, fun k hk => .inl ?_, rfl, rfl⟩
      · show (S.upd (l, r) (PE.recv n)).get (l, r) = _
        rw [get_upd_at _ _ (PE.recv n) (fun _ => rfl), hg]; rfl
      · exact get_upd_ne S (PE.recv n) (fun _ => rfl) hk
    | none =>
      show (_ ∧ _) ∨ _
      cases hr : S.room.1 with
      | false => exact .inl ⟨by simp, by simp⟩
      | true =>
        have hg2 : S.room.2.get (l, r) = none := by
          rcases room_get hn (l, r) with h | h
          · rw [h, hg]
          · exact h.1
        refine .inr ⟨rfl, hok.1.1, within_ge hok.2, within_le hok.2, hok.1.2, ⟨newE l r n, ?_, .inr ⟨hg, rfl⟩⟩, fun k hk => ?_, room_act S, room_prev S⟩
        · show (S.room.2.grown l r n).get (l, r) = _
          rw [get_grown hg2, if_pos rfl]; rfl
        · show (S.room.2.grown l r n).get k = _ ∨ ((S.room.2.grown l r n).get k = none ∧ _)
          rw [get_grown hg2, if_neg hk]
          exact room_get hn k
  · rw [if_neg hok]
    exact .inl ⟨by simp, rfl⟩

/-! ### What a call does to a path -/
/-- A path that was there: what may have become of it. -/
structure PE.To (e e' : PE) : Prop where
  l : e'.key = e.key
  rcv : e.rcv ≤ e'.rcv ∧ e'.rcv ≤ e.rcv + 65536
  snt : e.snt ≤ e'.snt ∧ e'.snt ≤ e.snt + 65536
  ok : e.ok = true → e'.ok = true
  amp : (e.ok = true ∨ e.snt ≤ 3 * e.rcv) → (e'.ok = true ∨ e'.snt ≤ 3 * e'.rcv)

theorem PE.To.refl (e : PE) : e.To e := ⟨rfl, ⟨Int.le_refl _, by omega⟩, ⟨Int.le_refl _, by omega⟩, id, id⟩

structure PS.To (S S' : PS) : Prop where
  get : ∀ k e', S'.get k = some e' → (∃ e, S.get k = some e ∧ e.To e') ∨ (S.get k = none ∧ ∃ n, 0 ≤ n ∧ n ≤ 65536 ∧ e' = newE k.1 k.2 n)
  back : ∀ k e, S.get k = some e → S'.get k = none → e.ok = false
  act : S'.act = S.act ∨ (∃ e, S.get S'.act = some e) ∨ S.prev = some S'.act
  prev : ∀ k, S'.prev = some k → S.prev = some k ∨ (k = S.act ∧ S.valid k = true)

theorem PS.To.refl (S : PS) : S.To S := ⟨fun _ e h => .inl ⟨e, h, PE.To.refl e⟩, fun _ _ h h' => (by rw [h] at h'; cases h'), .inl rfl, fun _ h => .inl h⟩

theorem PS.To.upd (S : PS) (k : Int × Int) (f : PE → PE) (hf : ∀ e, (f e).key = e.key) (ht : ∀ e, S.get k = some e → e.To (f e)) : S.To (S.upd k f) := by
  refine ⟨fun k' e' h => ?_, fun k' e h h' => ?_, .inl rfl, fun _ h => .inl h⟩
  · by_cases hk : k' = k
    · subst hk
      rw [get_upd_at S k' f hf] at h
      obtain ⟨e, he, rfl⟩ := Option.map_eq_some_iff.1 h
      exact .inl ⟨e, he, ht e he⟩
    · rw [get_upd_ne S f hf hk] at h
      exact .inl ⟨e', h, PE.To.refl e'⟩
  · by_cases hk : k' = k
    · subst hk
      rw [get_upd_at S k' f hf, h] at h'
      cases h'
    · rw [get_upd_ne S f hf hk, h] at h'
      cases h'

theorem RecvIs.to {S S' : PS} {l r n : Int} (h : RecvIs S S' l r n) : S.To S' := by
  have h0 := h.n0
  have h1 := h.n1
  obtain ⟨e1, he1, hc⟩ := h.here
  refine ⟨fun k e' hk => ?_, fun k e hk hk' => ?_, .inl h.act, fun k hk => .inl (by rw [← h.prev]; exact hk)⟩
  · by_cases hkk : k = (l, r)
    · subst hkk
      rw [he1] at hk
      injection hk with hk
      subst hk
      rcases hc with ⟨e, he, rfl⟩ | ⟨hno, rfl⟩
      · refine .inl ⟨e, he, rfl, ⟨?_, ?_⟩, ⟨Int.le_refl _, ?_⟩, id, ?_⟩
        · show e.rcv ≤ e.rcv + n; omega
        · show e.rcv + n ≤ e.rcv + 65536; omega
        · show e.snt ≤ e.snt + 65536; omega
        · intro hh
          rcases hh with hh | hh
          · exact .inl hh
          · exact .inr (by show e.snt ≤ 3 * (e.rcv + n); omega)
      · exact .inr ⟨hno, n, h0, h1, rfl⟩
    · rcases h.there k hkk with h2 | ⟨h2, _⟩
      · rw [h2] at hk; exact .inl ⟨e', hk, PE.To.refl e'⟩
      · rw [h2] at hk; cases hk
  · by_cases hkk : k = (l, r)
    · subst hkk; rw [he1] at hk'; cases hk'
    · rcases h.there k hkk with h2 | ⟨_, e2, h3, h4, _⟩
      · rw [h2, hk] at hk'; cases hk'
      · rw [hk] at h3; injection h3 with h3; subst h3; exact h4

theorem received_to {S : PS} (hn : S.nd) (now l r n : Int) : S.To (S.received now l r n).2 := by
  rcases received_is hn now l r n with ⟨_, h⟩ | ⟨_, _, h⟩
  · rw [h]; exact PS.To.refl S
  · exact h.to

theorem allows_split {S : PS} {k : Int × Int} {n : Int} : S.allows k n = true ↔ ∃ e, S.get k = some e ∧ within 0 65536 n = true ∧ e.allows n = true := by
  unfold PS.allows
  cases S.get k with
  | none => simp
  | some e => simp

theorem sent_is (S : PS) (k : Int × Int) (n : Int) : ((S.sent k n).1 ≠ 0 ∧ (S.sent k n).2 = S ∧ S.allows k n = false) ∨ ((S.sent k n).1 = 0 ∧ S.allows k n = true ∧ (S.sent k n).2 = S.upd k (PE.send n)) := by
  unfold PS.sent
  by_cases h1 : within 0 65536 n = false
  · rw [if_pos h1]
    refine .inl ⟨by simp, rfl, ?_⟩
    cases ha : S.allows k n with
    | false => rfl
    | true => obtain ⟨_, _, h2, _⟩ := allows_split.1 ha; rw [h1] at h2; cases h2
  · rw [if_neg h1]
    by_cases h2 : S.allows k n = false
    · rw [if_pos h2]; exact .inl ⟨by simp, rfl, h2⟩
    · rw [if_neg h2]; exact .inr ⟨rfl, by simpa using h2, rfl⟩

theorem sent_to (S : PS) (k : Int × Int) (n : Int) : S.To (S.sent k n).2 := by
  rcases sent_is S k n with ⟨_, h, _⟩ | ⟨_, ha, h⟩
  · rw [h]; exact PS.To.refl S
  · rw [h]
    refine PS.To.upd S k _ (fun _ => rfl) (fun e he => ?_)
    obtain ⟨e2, he2, hw, hal⟩ := allows_split.1 ha
    rw [he] at he2
    injection he2 with he2
    subst he2
    have h0 := within_ge hw
    have h1 := within_le hw
    refine ⟨rfl, ⟨Int.le_refl _, ?_⟩, ⟨?_, ?_⟩, id, fun _ => ?_⟩
    · show e.rcv ≤ e.rcv + 65536; omega
    · show e.snt ≤ e.snt + n; omega
    · show e.snt + n ≤ e.snt + 65536; omega
    · unfold PE.allows at hal
      rw [Bool.or_eq_true] at hal
      rcases hal with h | h
      · exact .inl h
      · exact .inr (of_decide_eq_true h)

theorem PE.To.of_same {e e' : PE} (h1 : e'.key = e.key) (h2 : e'.rcv = e.rcv) (h3 : e'.snt = e.snt) (h4 : e.ok = true → e'.ok = true) : e.To e' :=
  ⟨h1, by omega, by omega, h4, fun h => h.elim (fun h => .inl (h4 h)) (fun h => .inr (by omega))⟩

theorem challenge_is (S : PS) (t : Int) (k : Int × Int) (d : ByteArray) : ((S.challenge t k d).1 ≠ 0 ∧ (S.challenge t k d).2 = S) ∨ ((S.challenge t k d).1 = 0 ∧ (∃ e, S.get k = some e) ∧ within 0 1000000000 t = true ∧ d.size = 8 ∧ (S.challenge t k d).2 = S.upd k (PE.ask d t)) := by
  unfold PS.challenge
  by_cases h : within 0 1000000000 t = false ∨ d.size ≠ 8
  · rw [if_pos h]; exact .inl ⟨by simp, rfl⟩
  · rw [if_neg h]
    cases hg : S.get k with
    | none => exact .inl ⟨by simp, rfl⟩
    | some e => exact .inr ⟨rfl, ⟨e, rfl⟩, by simpa using fun h2 => h (.inl h2), Classical.byContradiction fun h2 => h (.inr h2), rfl⟩
theorem challenge_to (S : PS) (t : Int) (k : Int × Int) (d : ByteArray) : S.To (S.challenge t k d).2 := by
  rcases challenge_is S t k d with ⟨_, h⟩ | ⟨_, _, _, _, h⟩
  · rw [h]; exact PS.To.refl S
  · rw [h]; exact PS.To.upd S k _ (fun _ => rfl) (fun e _ => PE.To.of_same rfl rfl rfl id)

theorem respond_is (S : PS) (k : Int × Int) (d : ByteArray) : ((S.respond k d).1 = false ∧ (S.respond k d).2 = S) ∨ ((S.respond k d).1 = true ∧ (∃ e, S.get k = some e ∧ e.idle = false ∧ e.data = d) ∧ (S.respond k d).2 = S.upd k PE.answer) := by
  unfold PS.respond
  cases hg : S.get k with
  | none => exact .inl ⟨rfl, rfl⟩
  | some e =>
    show ((if e.idle = true ∨ e.data ≠ d then ((false, S) : Bool × PS) else (true, S.upd k PE.answer)).1 = false ∧ (if e.idle = true ∨ e.data ≠ d then ((false, S) : Bool × PS) else (true, S.upd k PE.answer)).2 = S) ∨ ((if e.idle = true ∨ e.data ≠ d then ((false, S) : Bool × PS) else (true, S.upd k PE.answer)).1 = true ∧ _ ∧ (if e.idle = true ∨ e.data ≠ d then ((false, S) : Bool × PS) else (true, S.upd k PE.answer)).2 = S.upd k PE.answer)
    by_cases h : e.idle = true ∨ e.data ≠ d
    · rw [if_pos h]; exact .inl ⟨rfl, rfl⟩
    · rw [if_neg h]
      exact .inr ⟨rfl, ⟨e, rfl, by simpa using fun h2 => h (.inl h2), Classical.byContradiction fun h2 => h (.inr h2)⟩, rfl⟩
theorem respond_to (S : PS) (k : Int × Int) (d : ByteArray) : S.To (S.respond k d).2 := by
  rcases respond_is S k d with ⟨_, h⟩ | ⟨_, _, h⟩
  · rw [h]; exact PS.To.refl S
  · rw [h]; exact PS.To.upd S k _ (fun _ => rfl) (fun e _ => PE.To.of_same rfl rfl rfl (fun _ => rfl))

theorem validate_is (S : PS) (k : Int × Int) : ((S.validate k).1 ≠ 0 ∧ (S.validate k).2 = S) ∨ ((S.validate k).1 = 0 ∧ (∃ e, S.get k = some e) ∧ (S.validate k).2 = S.upd k PE.validate) := by
  unfold PS.validate
  cases hg : S.get k with
  | none => exact .inl ⟨by simp, rfl⟩
  | some e => exact .inr ⟨rfl, ⟨e, rfl⟩, rfl⟩
theorem validate_to (S : PS) (k : Int × Int) : S.To (S.validate k).2 := by
  rcases validate_is S k with ⟨_, h⟩ | ⟨_, _, h⟩
  · rw [h]; exact PS.To.refl S
  · rw [h]; exact PS.To.upd S k _ (fun _ => rfl) (fun e _ => PE.To.of_same rfl rfl rfl (fun _ => rfl))

theorem migrate_es (S : PS) (k : Int × Int) : (S.migrate k).2.es = S.es := by
  unfold PS.migrate
  split
  · split <;> rfl
  · rfl
theorem migrate_get (S : PS) (k k' : Int × Int) : (S.migrate k).2.get k' = S.get k' := by unfold PS.get; rw [migrate_es]
theorem migrate_to (S : PS) (k : Int × Int) : S.To (S.migrate k).2 := by
  refine ⟨fun k' e h => .inl ⟨e, (by rw [← migrate_get S k k']; exact h), PE.To.refl e⟩, fun k' e h h' => (by rw [migrate_get, h] at h'; cases h'), ?_, ?_⟩
  · unfold PS.migrate
    cases hg : S.get k with
    | none => exact .inl rfl
    | some e =>
      by_cases hk : k = S.act
      · simp only [if_pos hk]; exact .inl (by trivial)
      · simp only [if_neg hk]; exact .inr (.inl ⟨e, hg⟩)
  · unfold PS.migrate
    cases hg : S.get k with
    | none => exact fun _ h => .inl h
    | some e =>
      by_cases hk : k = S.act
      · simp only [if_pos hk]; exact fun _ h => .inl h
      · simp only [if_neg hk]
        intro k' h
        by_cases hv : S.valid S.act = true
        · rw [if_pos hv] at h
          injection h with h
          subst h
          exact .inr ⟨rfl, hv⟩
        · rw [if_neg hv] at h
          exact .inl h

theorem exp_to (now : Int) (e : PE) : e.To (e.exp now) := by
  unfold PE.exp
  split
  · exact PE.To.of_same rfl rfl rfl id
  · exact PE.To.refl e

theorem tick_get (S : PS) (now : Int) (k : Int × Int) : (S.tick now).2.get k = (S.get k).map (PE.exp now) := by
  rw [← get_expire]
  unfold PS.tick
  split
  · rfl
  · split <;> rfl
theorem tick_to (S : PS) (now : Int) : S.To (S.tick now).2 := by
  refine ⟨fun k e' h => ?_, fun k e h h' => ?_, ?_, ?_⟩
  · rw [tick_get] at h
    obtain ⟨e, he, rfl⟩ := Option.map_eq_some_iff.1 h
    exact .inl ⟨e, he, exp_to now e⟩
  · rw [tick_get, h] at h'
    cases h'
  · unfold PS.tick
    split
    · exact .inl rfl
    · split
      · next k hk => exact .inr (.inr hk)
      · exact .inl rfl
  · unfold PS.tick
    split
    · exact fun _ h => .inl h
    · split
      · intro k h; cases h
      · exact fun _ h => .inl h

theorem doo_to {S : PS} (hn : S.nd) (now : Int) (c : Call24) : S.To (S.doo now c).2 := by
  unfold PS.doo
  split
  · exact received_to hn _ _ _ _
  split
  · exact sent_to _ _ _
  split
  · exact challenge_to _ _ _ _
  split
  · exact respond_to _ _ _
  split
  · exact migrate_to _ _
  split
  · exact validate_to _ _
  split
  · exact tick_to _ _
  exact received_to hn _ _ _ _

/-! ### What the calls keep -/
structure PS.good (S : PS) (m : Nat) : Prop where
  rcv : ∀ k e, S.get k = some e → e.rcv ≤ m * 65536
  snt : ∀ k e, S.get k = some e → e.snt ≤ m * 65536
  amp : ∀ k e, S.get k = some e → e.ok = true ∨ e.snt ≤ 3 * e.rcv
  prev : ∀ k, S.prev = some k → S.valid k = true

theorem PS.To.valid {S S' : PS} (h : S.To S') {k : Int × Int} (hv : S.valid k = true) : S'.valid k = true := by
  obtain ⟨e, he, hok⟩ := (valid_def S k).1 hv
  cases hg : S'.get k with
  | none => rw [h.back k e he hg] at hok; cases hok
  | some e' =>
    rcases h.get k e' hg with ⟨e2, he2, ht⟩ | ⟨hno, _⟩
    · rw [he] at he2
      injection he2 with he2
      subst he2
      exact (valid_def S' k).2 ⟨e', hg, ht.ok hok⟩
    · rw [he] at hno; cases hno

theorem PS.To.good {S S' : PS} {m : Nat} (h : S.To S') (hg : S.good m) : S'.good (m + 1) := by
  refine ⟨fun k e' hk => ?_, fun k e' hk => ?_, fun k e' hk => ?_, fun k hk => ?_⟩
  · rcases h.get k e' hk with ⟨e, he, ht⟩ | ⟨_, n, h0, h1, rfl⟩
    · have := hg.rcv k e he; have := ht.rcv; omega
    · show n ≤ _; omega
  · rcases h.get k e' hk with ⟨e, he, ht⟩ | ⟨_, n, h0, h1, rfl⟩
    · have := hg.snt k e he; have := ht.snt; omega
    · show (0 : Int) ≤ _; omega
  · rcases h.get k e' hk with ⟨e, he, ht⟩ | ⟨_, n, h0, h1, rfl⟩
    · exact ht.amp (hg.amp k e he)
    · exact .inr (by show (0 : Int) ≤ 3 * n; omega)
  · rcases h.prev k hk with h1 | ⟨_, h1⟩
    · exact h.valid (hg.prev k h1)
    · exact h.valid h1
theorem PS.good.mono {S : PS} {m m' : Nat} (h : S.good m) (hm : m ≤ m') : S.good m' :=
  ⟨fun k e hk => by have := h.rcv k e hk; omega, fun k e hk => by have := h.snt k e hk; omega, h.amp, h.prev⟩

theorem get_PS1 (l r : Int) (ok : Bool) (k : Int × Int) : (PS1 l r ok).get k = if k = (l, r) then some ⟨l, r, ⟨#[]⟩, 0, 0, 0, ok⟩ else none := by
  unfold PS.get PS1
  simp only
  by_cases hk : k = (l, r)
  · subst hk
    rw [if_pos rfl]
    simp [PE.key]
  · rw [if_neg hk, List.find?_cons_of_neg (by intro h; exact hk (of_decide_eq_true h).symm)]
    rfl
theorem good_PS1 (l r : Int) (ok : Bool) (m : Nat) : (PS1 l r ok).good m := by
  refine ⟨fun k e h => ?_, fun k e h => ?_, fun k e h => ?_, fun k h => by cases h⟩
  all_goals
    rw [get_PS1] at h
    split at h
    · injection h with h
      subst h
      first | exact .inr (Int.le_refl _) | (show (0 : Int) ≤ _; omega)
    · cases h

/-- What is bounded by the count is small enough for the calls. -/
theorem PS.good.rcvs {S : PS} {m : Nat} (h : S.good m) (hn : S.nd) (hm : m ≤ 1000000) (n : Int) : ∀ e ∈ S.es, n ≤ 65536 → e.rcv + n ≤ 1000000000000 := fun e he hn1 => by
  have := h.rcv e.key e ((get_iff hn).2 ⟨he, rfl⟩)
  omega
theorem PS.good.snts {S : PS} {m : Nat} (h : S.good m) (hn : S.nd) (hm : m ≤ 1000000) (n : Int) (hn1 : n ≤ 65536) : ∀ e ∈ S.es, e.snt + n ≤ 1000000000000 := fun e he => by
  have := h.snt e.key e ((get_iff hn).2 ⟨he, rfl⟩)
  omega

end Go.Proofs.YtmdfpknhfkgfoaaDoor


/- law24's loops: the plain laws. No walk. -/
namespace Go.Proofs.YtmdfpknhfkgfoaaDoor
open Go.RowKit Go.Shelf

theorem get_of_upd {S : PS} {k k' : Int × Int} {f : PE → PE} (hf : ∀ e, (f e).key = e.key) {e' : PE} (h : (S.upd k f).get k' = some e') : ∃ e, S.get k' = some e ∧ ((k' = k ∧ e' = f e) ∨ (k' ≠ k ∧ e' = e)) := by
  by_cases hk : k' = k
  · subst hk
    rw [get_upd_at S k' f hf] at h
    obtain ⟨e, he, rfl⟩ := Option.map_eq_some_iff.1 h
    exact ⟨e, he, .inl ⟨rfl, rfl⟩⟩
  · rw [get_upd_ne S f hf hk] at h
    exact ⟨e', h, .inr ⟨hk, rfl⟩⟩

/-- The calls whose addresses are the laws' own. -/
def Call24.tame (c : Call24) : Prop := 0 ≤ c.kind ∧ c.kind ≤ 6

/-- What a tame call does. -/
def Did (S : PS) (now : Int) (c : Call24) (x : Int) (S' : PS) : Prop :=
  (S' = S ∧ (x ≠ 0 ∨ c.kind = 3) ∧ (c.kind = 3 → x = 0) ∧ c.kind ≠ 6)
  ∨ (c.kind = 0 ∧ x = 0 ∧ RecvIs S S' 100 (rmN c.remote) (pkN c.n 600 : Nat))
  ∨ (c.kind = 1 ∧ x = 0 ∧ S.allows c.key (pkN c.n 600 : Nat) = true ∧ S' = S.upd c.key (PE.send (pkN c.n 600 : Nat)))
  ∨ (c.kind = 2 ∧ x = 0 ∧ S' = S.upd c.key (PE.ask (datN c.n) now))
  ∨ (c.kind = 3 ∧ x = 1 ∧ (∃ e, S.get c.key = some e ∧ e.idle = false ∧ e.data = datN c.n) ∧ S' = S.upd c.key PE.answer)
  ∨ (c.kind = 4 ∧ ∀ k, S'.get k = S.get k)
  ∨ (c.kind = 5 ∧ x = 0 ∧ S' = S.upd c.key PE.validate)
  ∨ (c.kind = 6 ∧ ∀ k, S'.get k = (S.get k).map (PE.exp now))

theorem doo_did {S : PS} (hn : S.nd) (now : Int) (c : Call24) (ht : c.tame) : Did S now c (S.doo now c).1 (S.doo now c).2 := by
  obtain ⟨h0, h6⟩ := ht
  have hk : c.kind = 0 ∨ c.kind = 1 ∨ c.kind = 2 ∨ c.kind = 3 ∨ c.kind = 4 ∨ c.kind = 5 ∨ c.kind = 6 := by omega
  unfold Did
  rcases hk with hk | hk | hk | hk | hk | hk | hk
  · have e : S.doo now c = S.received now 100 (rmN c.remote) (pkN c.n 600 : Nat) := by unfold PS.doo; simp [hk]
    rw [e]
    rcases received_is hn now 100 (rmN c.remote) (pkN c.n 600 : Nat) with ⟨h1, h2⟩ | ⟨h1, _, h2⟩
    · exact .inl ⟨h2, .inl h1, fun h => by omega, by omega⟩
    · exact .inr (.inl ⟨hk, h1, h2⟩)
  · have e : S.doo now c = S.sent c.key (pkN c.n 600 : Nat) := by unfold PS.doo; simp [hk]
    rw [e]
    rcases sent_is S c.key (pkN c.n 600 : Nat) with ⟨h1, h2, _⟩ | ⟨h1, h2, h3⟩
    · exact .inl ⟨h2, .inl h1, fun h => by omega, by omega⟩
    · exact .inr (.inr (.inl ⟨hk, h1, h2, h3⟩))
  · have e : S.doo now c = S.challenge now c.key (datN c.n) := by unfold PS.doo; simp [hk]
    rw [e]
    rcases challenge_is S now c.key (datN c.n) with ⟨h1, h2⟩ | ⟨h1, _, _, _, h2⟩
    · exact .inl ⟨h2, .inl h1, fun h => by omega, by omega⟩
    · exact .inr (.inr (.inr (.inl ⟨hk, h1, h2⟩)))
  · have e : S.doo now c = (b2i (S.respond c.key (datN c.n)).1, (S.respond c.key (datN c.n)).2) := by unfold PS.doo; simp [hk]
    rw [e]
    rcases respond_is S c.key (datN c.n) with ⟨h1, h2⟩ | ⟨h1, h2, h3⟩
    · refine .inl ⟨h2, .inr hk, fun _ => ?_, by omega⟩
      show b2i (S.respond c.key (datN c.n)).1 = 0
      rw [h1]; rfl
    · refine .inr (.inr (.inr (.inr (.inl ⟨hk, ?_, h2, h3⟩))))
      show b2i (S.respond c.key (datN c.n)).1 = 1
      rw [h1]; rfl
  · have e : S.doo now c = S.migrate c.key := by unfold PS.doo; simp [hk]
    rw [e]
    exact .inr (.inr (.inr (.inr (.inr (.inl ⟨hk, migrate_get S c.key⟩)))))
  · have e : S.doo now c = S.validate c.key := by unfold PS.doo; simp [hk]
    rw [e]
    rcases validate_is S c.key with ⟨h1, h2⟩ | ⟨h1, _, h2⟩
    · exact .inl ⟨h2, .inl h1, fun h => by omega, by omega⟩
    · exact .inr (.inr (.inr (.inr (.inr (.inr (.inl ⟨hk, h1, h2⟩))))))
  · have e : S.doo now c = (b2i (S.tick now).1, (S.tick now).2) := by unfold PS.doo; simp [hk]
    rw [e]
    exact .inr (.inr (.inr (.inr (.inr (.inr (.inr ⟨hk, tick_get S now⟩))))))

section
variable {S S' : PS} {now : Int} {c : Call24} {x : Int}

theorem Did.keys (h : Did S now c x S') (k : Int × Int) (e' : PE) (hk : S'.get k = some e') : k = c.key ∨ ∃ e, S.get k = some e := by
  rcases h with ⟨rfl, _⟩ | ⟨_, _, h⟩ | ⟨_, _, _, rfl⟩ | ⟨_, _, rfl⟩ | ⟨_, _, _, rfl⟩ | ⟨_, h⟩ | ⟨_, _, rfl⟩ | ⟨_, h⟩
  · exact .inr ⟨e', hk⟩
  · by_cases hq : k = c.key
    · exact .inl hq
    · rcases h.there k hq with h1 | ⟨h1, _⟩
      · exact .inr ⟨e', by rw [← h1]; exact hk⟩
      · rw [h1] at hk; cases hk
  · obtain ⟨e, he, _⟩ := get_of_upd (by intro _; rfl) hk; exact .inr ⟨e, he⟩
  · obtain ⟨e, he, _⟩ := get_of_upd (by intro _; rfl) hk; exact .inr ⟨e, he⟩
  · obtain ⟨e, he, _⟩ := get_of_upd (by intro _; rfl) hk; exact .inr ⟨e, he⟩
  · exact .inr ⟨e', by rw [← h]; exact hk⟩
  · obtain ⟨e, he, _⟩ := get_of_upd (by intro _; rfl) hk; exact .inr ⟨e, he⟩
  · rw [h] at hk
    obtain ⟨e, he, _⟩ := Option.map_eq_some_iff.1 hk
    exact .inr ⟨e, he⟩

/-! ### PathBounded -/
/-- All paths have the laws' addresses. -/
def PS.near (S : PS) : Prop := ∀ k e, S.get k = some e → k.1 = 100 ∧ 1 ≤ k.2 ∧ k.2 ≤ 7
theorem PS.near.did (h : S.near) (hd : Did S now c x S') : S'.near := fun k e' hk => by
  rcases hd.keys k e' hk with rfl | ⟨e, he⟩
  · exact ⟨rfl, rmN_in c.remote⟩
  · exact h k e he
theorem near_PS1 (r : Int) (ok : Bool) (hr : 1 ≤ r ∧ r ≤ 7) : (PS1 100 r ok).near := fun k e h => by
  rw [get_PS1] at h
  split at h
  · next hk => subst hk; exact ⟨rfl, hr⟩
  · cases h
theorem good_allows0 {m : Nat} (hg : S.good m) {k : Int × Int} {e : PE} (he : S.get k = some e) : S.allows k 0 = true := by
  refine allows_split.2 ⟨e, he, rfl, ?_⟩
  unfold PE.allows
  rw [Bool.or_eq_true]
  rcases hg.amp k e he with h | h
  · exact .inl h
  · exact .inr (decide_eq_true (by omega))

/-! ### PathAmplification -/
def AmpInv (k : Int × Int) (S : PS) (rc sn : Int) : Prop := S.valid k = true ∨ ((∀ e, S.get k = some e → sn - e.snt ≤ 3 * (rc - e.rcv)) ∧ (S.get k = none → sn ≤ 3 * rc))

theorem amp_le {k : Int × Int} {rc sn : Int} {m : Nat} (h : AmpInv k S rc sn) (hg : S.good m) (hv : S.valid k = false) : sn ≤ 3 * rc := by
  rcases h with h | ⟨h1, h2⟩
  · rw [hv] at h; cases h
  · cases he : S.get k with
    | none => exact h2 he
    | some e =>
      have h3 := h1 e he
      rcases hg.amp k e he with h4 | h4
      · rw [valid_of he, h4] at hv; cases hv
      · omega

theorem amp_init (k : Int × Int) (S : PS) (h : S.get k = none) : AmpInv k S 0 0 := .inr ⟨fun e he => (by rw [h] at he; cases he), fun _ => (by omega)⟩

theorem amp_send {k : Int × Int} {rc sn n : Int} (h : AmpInv k S rc sn) (ha : S.allows k n = true) : AmpInv k (S.upd k (PE.send n)) rc (if (S.upd k (PE.send n)).valid k = true then sn else sn + n) := by
  obtain ⟨e0, he0, _⟩ := allows_split.1 ha
  by_cases hv : (S.upd k (PE.send n)).valid k = true
  · exact .inl hv
  · rw [if_neg hv]
    refine .inr ⟨fun e' he' => ?_, fun hno => ?_⟩
    · obtain ⟨e, he, hc⟩ := get_of_upd (by intro _; rfl) he'
      rcases hc with ⟨_, rfl⟩ | ⟨h1, _⟩
      · rcases h with h | ⟨h1, _⟩
        · rw [valid_of he] at h
          exact absurd ((valid_def _ _).2 ⟨_, he', h⟩) hv
        · have := h1 e he
          show sn + n - (e.snt + n) ≤ 3 * (rc - e.rcv)
          omega
      · exact absurd rfl h1
    · rw [get_upd_at S k (PE.send n) (fun _ => rfl), he0] at hno
      cases hno

theorem amp_other {k : Int × Int} {rc sn : Int} {m : Nat} (h : AmpInv k S rc sn) (hg : S.good m) (hto : S.To S') (hd : Did S now c x S') (hc : ¬ (c.key = k ∧ c.kind = 1)) :
    AmpInv k S' (if x = 0 ∧ c.kind = 0 ∧ c.key = k then rc + (pkN c.n 600 : Nat) else rc) sn := by
  cases hv : S.valid k with
  | true => exact .inl (hto.valid hv)
  | false =>
    have hle := amp_le h hg hv
    rcases h with h | ⟨h1, h2⟩
    · rw [hv] at h; cases h
    have fin : (c.kind ≠ 0 ∨ x ≠ 0 ∨ c.key ≠ k) → (∀ e', S'.get k = some e' → ∃ e, S.get k = some e ∧ e'.snt = e.snt ∧ e'.rcv = e.rcv) → AmpInv k S' (if x = 0 ∧ c.kind = 0 ∧ c.key = k then rc + (pkN c.n 600 : Nat) else rc) sn := fun hne hk => by
      rw [if_neg (by rintro ⟨q1, q2, q3⟩; rcases hne with hne | hne | hne <;> exact hne (by assumption))]
      refine .inr ⟨fun e' he' => ?_, fun _ => hle⟩
      obtain ⟨e, he, e1, e2⟩ := hk e' he'
      rw [e1, e2]
      exact h1 e he
    rcases hd with ⟨rfl, hx, _⟩ | ⟨hk, hx, hr⟩ | ⟨hk, _, _, rfl⟩ | ⟨hk, _, rfl⟩ | ⟨hk, _, _, rfl⟩ | ⟨hk, hs⟩ | ⟨hk, _, rfl⟩ | ⟨hk, hs⟩
    · exact fin (hx.elim (fun hx => .inr (.inl hx)) (fun hx => .inl (by omega))) (fun e' he' => ⟨e', he', rfl, rfl⟩)
    · by_cases hq : c.key = k
      · rw [if_pos ⟨hx, hk, hq⟩]
        subst hq
        obtain ⟨e1, he1, hcase⟩ := hr.here
        refine .inr ⟨fun e' he' => ?_, fun _ => by omega⟩
        rw [show S'.get c.key = some e1 from he1] at he'
        injection he' with he'
        subst he'
        rcases hcase with ⟨e, he, rfl⟩ | ⟨_, rfl⟩
        · have := h1 e he
          show sn - e.snt ≤ 3 * (rc + (pkN c.n 600 : Nat) - (e.rcv + (pkN c.n 600 : Nat)))
          omega
        · show sn - 0 ≤ 3 * (rc + (pkN c.n 600 : Nat) - (pkN c.n 600 : Nat))
          omega
      · refine fin (.inr (.inr hq)) (fun e' he' => ?_)
        rcases hr.there k (fun e => hq e.symm) with h3 | ⟨h3, _⟩
        · exact ⟨e', by rw [← h3]; exact he', rfl, rfl⟩
        · rw [h3] at he'; cases he'
    · have hq : c.key ≠ k := fun e => hc ⟨e, hk⟩
      refine fin (.inr (.inr hq)) (fun e' he' => ?_)
      rw [get_upd_ne S (PE.send (pkN c.n 600 : Nat)) (fun _ => rfl) (fun e => hq e.symm)] at he'
      exact ⟨e', he', rfl, rfl⟩
    · refine fin (.inl (by omega)) (fun e' he' => ?_)
      obtain ⟨e, he, ⟨_, rfl⟩ | ⟨_, rfl⟩⟩ := get_of_upd (by intro _; rfl) he' <;> exact ⟨_, he, rfl, rfl⟩
    · refine fin (.inl (by omega)) (fun e' he' => ?_)
      obtain ⟨e, he, ⟨_, rfl⟩ | ⟨_, rfl⟩⟩ := get_of_upd (by intro _; rfl) he' <;> exact ⟨_, he, rfl, rfl⟩
    · exact fin (.inl (by omega)) (fun e' he' => ⟨e', by rw [← hs]; exact he', rfl, rfl⟩)
    · refine fin (.inl (by omega)) (fun e' he' => ?_)
      obtain ⟨e, he, ⟨_, rfl⟩ | ⟨_, rfl⟩⟩ := get_of_upd (by intro _; rfl) he' <;> exact ⟨_, he, rfl, rfl⟩
    · refine fin (.inl (by omega)) (fun e' he' => ?_)
      rw [hs] at he'
      obtain ⟨e, he, rfl⟩ := Option.map_eq_some_iff.1 he'
      refine ⟨e, he, ?_, ?_⟩ <;> (unfold PE.exp; split <;> rfl)

/-! ### PathValidation -/
/-- What the law's tables say of the challenges. -/
def AskInv (S : PS) (A : Nat → ByteArray) (T : Nat → Int) : Prop := ∀ r : Nat, 1 ≤ r → r ≤ 7 → ∀ e, S.get (100, (r : Int)) = some e → e.data ≠ ⟨#[]⟩ → A r = e.data ∧ T r = e.tick
/-- No challenge has failed. -/
def Fresh (S : PS) (now : Int) : Prop := ∀ k e, S.get k = some e → e.data ≠ ⟨#[]⟩ → now ≤ e.tick + 200
def put {α : Type} (A : Nat → α) (r : Nat) (x : α) : Nat → α := fun i => if i = r then x else A i

theorem ask_clear {A : Nat → ByteArray} {T : Nat → Int} (h : AskInv S A T) (hf : Fresh S now) (r : Nat) (hr : T r + 200 < now) : AskInv S (put A r ⟨#[]⟩) T := fun i hi1 hi7 e he hd => by
  obtain ⟨h1, h2⟩ := h i hi1 hi7 e he hd
  have h3 := hf _ e he hd
  unfold put
  rw [if_neg (by rintro rfl; omega)]
  exact ⟨h1, h2⟩

theorem ask_init (l r : Int) (ok : Bool) (A : Nat → ByteArray) (T : Nat → Int) : AskInv (PS1 l r ok) A T := fun i _ _ e he hd => by
  rw [get_PS1] at he
  split at he
  · injection he with he; subst he; exact absurd rfl hd
  · cases he

theorem ask_set {A : Nat → ByteArray} {T : Nat → Int} (h : AskInv S A T) (r : Nat) (d : ByteArray) (hd : Did S now c 0 S') (hk : c.kind = 2) (hr : c.key = (100, (r : Int))) (hdd : d = datN c.n) : AskInv S' (put A r d) (put T r now) := by
  have hS : S' = S.upd c.key (PE.ask (datN c.n) now) := by
    rcases hd with ⟨_, hx, _⟩ | ⟨hk', _⟩ | ⟨hk', _⟩ | ⟨_, _, h⟩ | ⟨hk', _⟩ | ⟨hk', _⟩ | ⟨hk', _⟩ | ⟨hk', _⟩
    · rcases hx with hx | hx <;> omega
    all_goals first | exact h | omega
  subst hS
  intro i hi1 hi7 e' he' hne
  obtain ⟨e, he, hc⟩ := get_of_upd (by intro _; rfl) he'
  unfold put
  rcases hc with ⟨hkk, rfl⟩ | ⟨hkk, rfl⟩
  · have : i = r := by
      rw [hr] at hkk
      injection hkk with _ h2
      omega
    rw [if_pos this, if_pos this, hdd]
    exact ⟨rfl, rfl⟩
  · have : i ≠ r := by
      rintro rfl
      exact hkk hr.symm
    rw [if_neg this, if_neg this]
    exact h i hi1 hi7 _ he hne

theorem ask_keep {A : Nat → ByteArray} {T : Nat → Int} (h : AskInv S A T) (hd : Did S now c x S') (hk : ¬ (c.kind = 2 ∧ x = 0)) : AskInv S' A T := by
  intro i hi1 hi7 e' he' hne
  rcases hd with ⟨rfl, _⟩ | ⟨_, _, hr⟩ | ⟨_, _, _, rfl⟩ | ⟨h1, h2, _⟩ | ⟨_, _, _, rfl⟩ | ⟨_, hs⟩ | ⟨_, _, rfl⟩ | ⟨_, hs⟩
  · exact h i hi1 hi7 e' he' hne
  · by_cases hq : (100, (i : Int)) = c.key
    · obtain ⟨e1, he1, hcase⟩ := hr.here
      rw [hq, show S'.get c.key = some e1 from he1] at he'
      injection he' with he'
      subst he'
      rcases hcase with ⟨e, he, rfl⟩ | ⟨_, rfl⟩
      · exact h i hi1 hi7 e (by rw [hq]; exact he) hne
      · exact absurd rfl hne
    · rcases hr.there _ hq with h3 | ⟨h3, _⟩
      · exact h i hi1 hi7 e' (by rw [← h3]; exact he') hne
      · rw [h3] at he'; cases he'
  · obtain ⟨e, he, hc⟩ := get_of_upd (by intro _; rfl) he'
    rcases hc with ⟨_, hc⟩ | ⟨_, hc⟩
    · subst hc; exact h i hi1 hi7 e he hne
    · subst hc; exact h i hi1 hi7 _ he hne
  · exact absurd ⟨h1, h2⟩ hk
  · obtain ⟨e, he, ⟨_, rfl⟩ | ⟨_, rfl⟩⟩ := get_of_upd (by intro _; rfl) he'
    · exact absurd rfl hne
    · exact h i hi1 hi7 _ he hne
  · exact h i hi1 hi7 e' (by rw [← hs]; exact he') hne
  · obtain ⟨e, he, hc⟩ := get_of_upd (by intro _; rfl) he'
    rcases hc with ⟨_, hc⟩ | ⟨_, hc⟩
    · subst hc; exact h i hi1 hi7 e he hne
    · subst hc; exact h i hi1 hi7 _ he hne
  · rw [hs] at he'
    obtain ⟨e, he, rfl⟩ := Option.map_eq_some_iff.1 he'
    unfold PE.exp at hne ⊢
    split at hne
    · exact absurd rfl hne
    · next hl => rw [if_neg hl]; exact h i hi1 hi7 e he hne

theorem ask_fresh (hd : Did S now c x S') (hk : c.kind = 6) : Fresh S' now := by
  have hs : ∀ k, S'.get k = (S.get k).map (PE.exp now) := by
    rcases hd with ⟨_, _, _, h⟩ | ⟨h, _⟩ | ⟨h, _⟩ | ⟨h, _⟩ | ⟨h, _⟩ | ⟨h, _⟩ | ⟨h, _⟩ | ⟨_, h⟩
    all_goals first | exact h | omega
  intro k e' he' hne
  rw [hs] at he'
  obtain ⟨e, he, rfl⟩ := Option.map_eq_some_iff.1 he'
  unfold PE.exp at hne ⊢
  split at hne
  · exact absurd rfl hne
  · next hl =>
    rw [if_neg hl]
    unfold PE.late at hl
    rw [Bool.and_eq_true, Bool.not_eq_true', decide_eq_true_iff] at hl
    have hi : e.idle = false := by unfold PE.idle; rw [decide_eq_false hne]; rfl
    apply Classical.byContradiction
    intro hlt
    exact hl ⟨hi, by omega⟩

/-- A true Respond. -/
theorem ask_right {A : Nat → ByteArray} {T : Nat → Int} (h : AskInv S A T) (hd : Did S now c x S') (hk : c.kind = 3) (r : Nat) (h1 : 1 ≤ r) (h7 : r ≤ 7) (hr : c.key = (100, (r : Int))) (hx : x ≠ 0) : x = 1 ∧ A r = datN c.n ∧ S'.valid c.key = true := by
  rcases hd with ⟨_, _, h, _⟩ | ⟨h, _⟩ | ⟨h, _⟩ | ⟨h, _⟩ | ⟨_, hx1, ⟨e, he, _, hdat⟩, rfl⟩ | ⟨h, _⟩ | ⟨h, _⟩ | ⟨h, _⟩
  · exact absurd (h hk) hx
  · omega
  · omega
  · omega
  · refine ⟨hx1, ?_, ?_⟩
    · rw [← hdat]
      exact (h r h1 h7 e (by rw [← hr]; exact he) (by rw [hdat]; exact datN_ne _)).1
    · exact (valid_def _ _).2 ⟨e.answer, by rw [get_upd_at S c.key PE.answer (fun _ => rfl), he]; rfl, rfl⟩
  · omega
  · omega
  · omega

/-- It is cleared then. -/
theorem ask_used {A : Nat → ByteArray} {T : Nat → Int} (h : AskInv S A T) (hd : Did S now c 1 S') (hk : c.kind = 3) (r : Nat) (hr : c.key = (100, (r : Int))) : AskInv S' (put A r ⟨#[]⟩) T := by
  have hS : S' = S.upd c.key PE.answer := by
    rcases hd with ⟨_, _, h, _⟩ | ⟨h, _⟩ | ⟨h, _⟩ | ⟨h, _⟩ | ⟨_, _, _, h⟩ | ⟨h, _⟩ | ⟨h, _⟩ | ⟨h, _⟩
    · have := h hk; omega
    all_goals first | exact h | omega
  subst hS
  intro i hi1 hi7 e' he' hne
  obtain ⟨e, he, hc⟩ := get_of_upd (by intro _; rfl) he'
  unfold put
  rcases hc with ⟨_, rfl⟩ | ⟨hkk, rfl⟩
  · exact absurd rfl hne
  · rw [if_neg (by rintro rfl; exact hkk hr.symm)]
    exact h i hi1 hi7 _ he hne

theorem became_by (hd : Did S now c x S') (k : Int × Int) (h0 : S.valid k = false) (h1 : S'.valid k = true) : (c.kind = 3 ∧ x = 1) ∨ (c.kind = 5 ∧ x = 0) := by
  obtain ⟨e', he', hok⟩ := (valid_def _ _).1 h1
  have no : ∀ e, S.get k = some e → e.ok = true → False := fun e he ho => by rw [valid_of he, ho] at h0; cases h0
  rcases hd with ⟨rfl, _⟩ | ⟨_, _, hr⟩ | ⟨_, _, _, rfl⟩ | ⟨_, _, rfl⟩ | ⟨h2, h3, _, rfl⟩ | ⟨_, hs⟩ | ⟨h2, h3, rfl⟩ | ⟨_, hs⟩
  · exact (no e' he' hok).elim
  · by_cases hq : k = c.key
    · obtain ⟨e1, he1, hcase⟩ := hr.here
      subst hq
      rw [show S'.get c.key = some e1 from he1] at he'
      injection he' with he'
      subst he'
      rcases hcase with ⟨e, he, rfl⟩ | ⟨_, rfl⟩
      · exact (no e he hok).elim
      · cases hok
    · rcases hr.there _ hq with h3 | ⟨h3, _⟩
      · exact (no e' (by rw [← h3]; exact he') hok).elim
      · rw [h3] at he'; cases he'
  · obtain ⟨e, he, ⟨_, rfl⟩ | ⟨_, rfl⟩⟩ := get_of_upd (by intro _; rfl) he' <;> exact (no _ he hok).elim
  · obtain ⟨e, he, ⟨_, rfl⟩ | ⟨_, rfl⟩⟩ := get_of_upd (by intro _; rfl) he' <;> exact (no _ he hok).elim
  · exact .inl ⟨h2, h3⟩
  · exact (no e' (by rw [← hs]; exact he') hok).elim
  · exact .inr ⟨h2, h3⟩
  · rw [hs] at he'
    obtain ⟨e, he, rfl⟩ := Option.map_eq_some_iff.1 he'
    refine (no e he ?_).elim
    unfold PE.exp at hok
    split at hok <;> exact hok
end

end Go.Proofs.YtmdfpknhfkgfoaaDoor


/- law24's straight statements: what they compute on the model. No walk. -/
namespace Go.Proofs.YtmdfpknhfkgfoaaDoor
open Go.RowKit Go.Shelf

theorem pair_ne_r {l a b : Int} (h : a ≠ b) : ¬ ((l, a) = (l, b)) := fun e => h (by injection e)
theorem pair_ne_l {r a b : Int} (h : a ≠ b) : ¬ ((a, r) = (b, r)) := fun e => h (by injection e)

theorem upd2 {e1 e2 : PE} {k : Int × Int} {f : PE → PE} {act : Int × Int} {prev : Option (Int × Int)} (h1 : e1.key ≠ k) (h2 : e2.key = k) : (PS.mk [e1, e2] act prev).upd k f = ⟨[e1, f e2], act, prev⟩ := by
  unfold PS.upd
  simp only [List.map_cons, List.map_nil]
  rw [if_neg h1, if_pos h2]
theorem upd3 {e1 e2 e3 : PE} {k : Int × Int} {f : PE → PE} {act : Int × Int} {prev : Option (Int × Int)} (h1 : e1.key ≠ k) (h2 : e2.key ≠ k) (h3 : e3.key = k) : (PS.mk [e1, e2, e3] act prev).upd k f = ⟨[e1, e2, f e3], act, prev⟩ := by
  unfold PS.upd
  simp only [List.map_cons, List.map_nil]
  rw [if_neg h1, if_neg h2, if_pos h3]

/-! ### PathIndependent -/
abbrev ini : PE := ⟨100, 1, ⟨#[]⟩, 0, 0, 0, true⟩
def inA (a n : Int) : PS := ⟨[ini, ⟨100, a, ⟨#[]⟩, 0, n, 0, false⟩], (100, 1), none⟩
def inS (a b n s : Int) (ok : Bool) : PS := ⟨[ini, ⟨100, a, ⟨#[]⟩, 0, n, 0, false⟩, ⟨100, b, ⟨#[]⟩, 0, 1000, s, ok⟩], (100, 1), none⟩

section
variable {a b n m : Int} (ha : 2 ≤ a ∧ a ≤ 501) (hb : 502 ≤ b ∧ b ≤ 1001) (hn : 0 ≤ n ∧ n ≤ 999) (hm : 0 ≤ m ∧ m ≤ 3000)
include ha hn in
theorem in_recv1 : (PS1 100 1 true).received 1 100 a n = (0, inA a n) := by
  have h1 : recvOk 1 100 a n = true := by
    unfold recvOk addrsOk
    rw [within_yes (by omega) (by omega), within_yes (by omega) (by omega), within_yes (by omega) (by omega), within_yes (by omega) (by omega)]; rfl
  have h2 : (PS1 100 1 true).get (100, a) = none := by rw [get_PS1, if_neg (pair_ne_r (by omega))]
  unfold PS.received
  rw [if_pos h1, h2]
  rfl
include ha in
theorem inA_a : (inA a n).get (100, a) = some ⟨100, a, ⟨#[]⟩, 0, n, 0, false⟩ := by
  unfold PS.get inA
  simp only
  rw [List.find?_cons_of_neg (by simp [PE.key]; omega), List.find?_cons_of_pos (by simp [PE.key])]
include ha hb in
theorem inA_b : (inA a n).get (100, b) = none := by
  unfold PS.get inA
  simp only
  rw [List.find?_cons_of_neg (by simp [PE.key]; omega), List.find?_cons_of_neg (by simp [PE.key]; omega)]
  rfl
include ha in
theorem inS_a {s : Int} {ok : Bool} : (inS a b n s ok).get (100, a) = some ⟨100, a, ⟨#[]⟩, 0, n, 0, false⟩ := by
  unfold PS.get inS
  simp only
  rw [List.find?_cons_of_neg (by simp [PE.key]; omega), List.find?_cons_of_pos (by simp [PE.key])]
include ha hb in
theorem inS_b {s : Int} {ok : Bool} : (inS a b n s ok).get (100, b) = some ⟨100, b, ⟨#[]⟩, 0, 1000, s, ok⟩ := by
  unfold PS.get inS
  simp only
  rw [List.find?_cons_of_neg (by simp [PE.key]; omega), List.find?_cons_of_neg (by simp [PE.key]; omega), List.find?_cons_of_pos (by simp [PE.key])]
include ha hm in
theorem in_alw : (inA a n).allows (100, a) m = decide (m ≤ 3 * n) := by
  unfold PS.allows
  rw [inA_a ha]
  show (within 0 65536 m && (false || decide (0 + m ≤ 3 * n))) = _
  rw [within_yes (by omega) (by omega), Bool.true_and, Bool.false_or, Int.zero_add]
include ha hm in
theorem in_alw2 {s : Int} {ok : Bool} : (inS a b n s ok).allows (100, a) m = decide (m ≤ 3 * n) := by
  unfold PS.allows
  rw [inS_a ha]
  show (within 0 65536 m && (false || decide (0 + m ≤ 3 * n))) = _
  rw [within_yes (by omega) (by omega), Bool.true_and, Bool.false_or, Int.zero_add]
include ha hb in
theorem in_recv2 : (inA a n).received 2 100 b 1000 = (0, inS a b n 0 false) := by
  have h1 : recvOk 2 100 b 1000 = true := by
    unfold recvOk addrsOk
    rw [within_yes (by omega) (by omega), within_yes (by omega) (by omega), within_yes (by omega) (by omega), within_yes (by omega) (by omega)]; rfl
  unfold PS.received
  rw [if_pos h1, inA_b ha hb]
  rfl
include ha hb in
theorem inS_upd {s : Int} {ok : Bool} (f : PE → PE) (s' : Int) (ok' : Bool) (hf : f ⟨100, b, ⟨#[]⟩, 0, 1000, s, ok⟩ = ⟨100, b, ⟨#[]⟩, 0, 1000, s', ok'⟩) : (inS a b n s ok).upd (100, b) f = inS a b n s' ok' := by
  unfold inS
  refine Eq.trans (upd3 ?_ ?_ ?_) ?_
  · exact pair_ne_r (l := 100) (a := 1) (b := b) (by omega)
  · exact pair_ne_r (l := 100) (a := a) (b := b) (by omega)
  · rfl
  · rw [hf]
include ha hb in
theorem in_sent : (inS a b n 0 false).sent (100, b) 3000 = (0, inS a b n 3000 false) := by
  have h1 : (inS a b n 0 false).allows (100, b) 3000 = true := by unfold PS.allows; rw [inS_b ha hb]; rfl
  unfold PS.sent
  rw [if_neg (by decide), if_neg (by rw [h1]; decide), inS_upd ha hb _ 3000 false rfl]
include ha hb in
theorem in_vld : (inS a b n 3000 false).validate (100, b) = (0, inS a b n 3000 true) := by
  unfold PS.validate
  rw [inS_b ha hb]
  show (0, (inS a b n 3000 false).upd (100, b) PE.validate) = _
  rw [inS_upd ha hb _ 3000 true rfl]
include ha in
theorem in_val {s : Int} {ok : Bool} : (inS a b n s ok).valid (100, a) = false := by rw [valid_of (inS_a ha)]
include ha hb in
theorem in_alw3 {ok : Bool} : (inS a b n 3000 ok).allows (100, b) 1 = ok := by
  unfold PS.allows
  rw [inS_b ha hb]
  show (within 0 65536 1 && (ok || decide ((3000 : Int) + 1 ≤ 3 * 1000))) = _
  cases ok <;> rfl
end

/-! ### PathFallback -/
def fbS (a b : Int) (d : ByteArray) (t : Int) (ok : Bool) (act : Int × Int) (prev : Option (Int × Int)) : PS := ⟨[⟨a, 7, ⟨#[]⟩, 0, 0, 0, true⟩, ⟨b, 7, d, t, 50, 0, ok⟩], act, prev⟩
section
variable {a b now later : Int} (ha : 1 ≤ a ∧ a ≤ 1000) (hb : 1001 ≤ b ∧ b ≤ 2000) (hnow : 0 ≤ now ∧ now ≤ 999999) (hl : 0 ≤ later ∧ later ≤ 399)
include ha hb hnow in
theorem fb_recv : (PS1 a 7 true).received now b 7 50 = (0, fbS a b ⟨#[]⟩ 0 false (a, 7) none) := by
  have h1 : recvOk now b 7 50 = true := by
    unfold recvOk addrsOk
    rw [within_yes (by omega) (by omega), within_yes (by omega) (by omega), within_yes (by omega) (by omega), within_yes (by omega) (by omega)]; rfl
  have h2 : (PS1 a 7 true).get (b, 7) = none := by rw [get_PS1, if_neg (pair_ne_l (by omega))]
  unfold PS.received
  rw [if_pos h1, h2]
  rfl
theorem fb_a {d : ByteArray} {t : Int} {ok : Bool} {act : Int × Int} {prev : Option (Int × Int)} : (fbS a b d t ok act prev).get (a, 7) = some ⟨a, 7, ⟨#[]⟩, 0, 0, 0, true⟩ := by
  unfold PS.get fbS
  simp only
  rw [List.find?_cons_of_pos (by simp [PE.key])]
include ha hb in
theorem fb_b {d : ByteArray} {t : Int} {ok : Bool} {act : Int × Int} {prev : Option (Int × Int)} : (fbS a b d t ok act prev).get (b, 7) = some ⟨b, 7, d, t, 50, 0, ok⟩ := by
  unfold PS.get fbS
  simp only
  rw [List.find?_cons_of_neg (by simp [PE.key]; omega), List.find?_cons_of_pos (by simp [PE.key])]
include ha hb in
theorem fb_upd {d d' : ByteArray} {t t' : Int} {ok ok' : Bool} {act : Int × Int} {prev : Option (Int × Int)} (f : PE → PE) (hf : f ⟨b, 7, d, t, 50, 0, ok⟩ = ⟨b, 7, d', t', 50, 0, ok'⟩) : (fbS a b d t ok act prev).upd (b, 7) f = fbS a b d' t' ok' act prev := by
  unfold fbS
  refine Eq.trans (upd2 ?_ ?_) ?_
  · exact pair_ne_l (r := 7) (a := a) (b := b) (by omega)
  · rfl
  · rw [hf]
include ha hb hnow in
theorem fb_chal : (fbS a b ⟨#[]⟩ 0 false (a, 7) none).challenge now (b, 7) snA = (0, fbS a b snA now false (a, 7) none) := by
  unfold PS.challenge
  rw [if_neg (by rw [within_yes (by omega) (by omega)]; decide), fb_b ha hb]
  show (0, _) = _
  rw [fb_upd ha hb _ rfl]
include ha hb in
theorem fb_migr : (fbS a b snA now false (a, 7) none).migrate (b, 7) = (0, fbS a b snA now false (b, 7) (some (a, 7))) := by
  have h1 : (b, (7 : Int)) ≠ (fbS a b snA now false (a, 7) none).act := pair_ne_l (by omega)
  have h2 : (fbS a b snA now false (a, 7) none).valid (fbS a b snA now false (a, 7) none).act = true := by
    show (fbS a b snA now false (a, 7) none).valid (a, 7) = true
    rw [valid_of fb_a]
  unfold PS.migrate
  rw [fb_b ha hb]
  simp only
  rw [if_neg h1, if_pos h2]
  rfl
include ha hb in
theorem fb_resp : (fbS a b snA now false (b, 7) (some (a, 7))).respond (b, 7) snA = (true, fbS a b ⟨#[]⟩ 0 true (b, 7) (some (a, 7))) := by
  unfold PS.respond
  rw [fb_b ha hb]
  show (if (PE.mk b 7 snA now 50 0 false).idle = true ∨ snA ≠ snA then _ else _) = _
  have : (PE.mk b 7 snA now 50 0 false).idle = false := by unfold PE.idle; rw [decide_eq_false (show ¬ (snA = ⟨#[]⟩) by decide)]; rfl
  rw [if_neg (by rw [this]; simp), fb_upd ha hb _ rfl]
theorem fb_tick1 {n : Int} : (fbS a b ⟨#[]⟩ 0 true (b, 7) (some (a, 7))).tick n = (false, fbS a b ⟨#[]⟩ 0 true (b, 7) (some (a, 7))) := by
  have h1 : (fbS a b ⟨#[]⟩ 0 true (b, 7) (some (a, 7))).failed n = false := rfl
  unfold PS.tick
  rw [if_pos (.inl h1)]
  rfl
theorem fb_late {n : Int} : (PE.mk b 7 snA now 50 0 false).late n = decide (now + 200 < n) := by
  unfold PE.late PE.idle
  rw [decide_eq_false (show ¬ (snA = ⟨#[]⟩) by decide)]
  rfl
theorem fb_tick2 {n : Int} (h : n ≤ now + 200) : (fbS a b snA now false (b, 7) (some (a, 7))).tick n = (false, fbS a b snA now false (b, 7) (some (a, 7))) := by
  have h0 : (PE.mk b 7 snA now 50 0 false).late n = false := by rw [fb_late, decide_eq_false (by omega)]
  have h1 : (fbS a b snA now false (b, 7) (some (a, 7))).failed n = false := by
    unfold PS.failed fbS
    simp only [List.any_cons, List.any_nil, h0]
    rfl
  unfold PS.tick
  rw [if_pos (.inl h1)]
  unfold PS.expire fbS
  simp only [List.map_cons, List.map_nil]
  rw [show (PE.mk b 7 snA now 50 0 false).exp n = PE.mk b 7 snA now 50 0 false by unfold PE.exp; rw [h0]; rfl]
  rfl
include ha hb in
theorem fb_tick3 {n : Int} (h : now + 200 < n) : (fbS a b snA now false (b, 7) (some (a, 7))).tick n = (true, fbS a b ⟨#[]⟩ 0 false (a, 7) none) := by
  have h0 : (PE.mk b 7 snA now 50 0 false).late n = true := by rw [fb_late, decide_eq_true h]
  have h1 : (fbS a b snA now false (b, 7) (some (a, 7))).failed n = true := by
    unfold PS.failed fbS
    simp only [List.any_cons, List.any_nil, h0]
    simp [PE.key]
  have h2 : (fbS a b snA now false (b, 7) (some (a, 7))).expire n = fbS a b ⟨#[]⟩ 0 false (b, 7) (some (a, 7)) := by
    unfold PS.expire fbS
    simp only [List.map_cons, List.map_nil]
    rw [show (PE.mk b 7 snA now 50 0 false).exp n = PE.mk b 7 ⟨#[]⟩ 0 50 0 false by unfold PE.exp; rw [h0]; rfl]
    rfl
  have h3 : ((fbS a b snA now false (b, 7) (some (a, 7))).expire n).valid (b, 7) = false := by rw [h2, valid_of (fb_b ha hb)]
  unfold PS.tick
  rw [if_neg (by
    intro h4
    rcases h4 with h4 | h4
    · rw [h1] at h4; cases h4
    · have h5 : ((fbS a b snA now false (b, 7) (some (a, 7))).expire n).valid (b, 7) = true := h4
      rw [h3] at h5; cases h5), h2]
  rfl
theorem fb_tick4 {n : Int} : (fbS a b ⟨#[]⟩ 0 false (a, 7) none).tick n = (false, fbS a b ⟨#[]⟩ 0 false (a, 7) none) := by
  have h1 : (fbS a b ⟨#[]⟩ 0 false (a, 7) none).failed n = false := rfl
  unfold PS.tick
  rw [if_pos (.inl h1)]
  rfl
theorem fb_val1 : (fbS a b ⟨#[]⟩ 0 false (a, 7) none).valid (a, 7) = true := by rw [valid_of fb_a]
include ha hb in
theorem fb_val2 : (fbS a b ⟨#[]⟩ 0 false (a, 7) none).valid (b, 7) = false := by rw [valid_of (fb_b ha hb)]
end

/-! ### PathBadArguments -/
def baS (d : ByteArray) (t r : Int) : PS := ⟨[⟨100, 1, d, t, r, 0, false⟩], (100, 1), none⟩
theorem ba_1 {d : ByteArray} {t r : Int} : (baS d t r).get (100, 1) = some ⟨100, 1, d, t, r, 0, false⟩ := rfl
theorem ba_2 {d : ByteArray} {t r : Int} : (baS d t r).get (100, 2) = none := rfl
theorem ba_chal_yes {d s : ByteArray} {t r now : Int} (h1 : 0 ≤ now ∧ now ≤ 1000000000) (h2 : s.size = 8) : (baS d t r).challenge now (100, 1) s = (0, baS s now r) := by
  unfold PS.challenge
  rw [if_neg (by rw [within_yes h1.1 h1.2, h2]; decide), ba_1]
  rfl
theorem ba_chal_no {d s : ByteArray} {t r now : Int} (h : ¬ ((0 ≤ now ∧ now ≤ 1000000000) ∧ s.size = 8)) : (baS d t r).challenge now (100, 1) s = (2, baS d t r) := by
  unfold PS.challenge
  rw [if_pos (by
    by_cases hs : s.size = 8
    · exact .inl (within_no (by omega))
    · exact .inr hs)]
theorem ba_chal2 {d : ByteArray} {t r : Int} : (baS d t r).challenge 5 (100, 2) snA = (240, baS d t r) := rfl
theorem ba_sent {d : ByteArray} {t r n : Int} (hn : 0 ≤ n ∧ n ≤ 99) : (baS d t r).sent (100, 2) n = (240, baS d t r) := by
  unfold PS.sent
  rw [if_neg (by rw [within_yes (by omega) (by omega)]; decide), if_pos (by unfold PS.allows; rw [ba_2])]
theorem ba_sent2 {d : ByteArray} {t r n : Int} (hn : n < 0) : (baS d t r).sent (100, 1) n = (2, baS d t r) := by
  unfold PS.sent
  rw [if_pos (within_no (by omega))]
theorem ba_recv_yes {d : ByteArray} {t r now n : Int} (hn : 0 ≤ n ∧ n ≤ 99) (h1 : 0 ≤ now ∧ now ≤ 1000000000) : (baS d t r).received now 100 1 n = (0, baS d t (r + n)) := by
  have h2 : recvOk now 100 1 n = true := by
    unfold recvOk addrsOk
    rw [within_yes (by omega) (by omega), within_yes (by omega) (by omega), within_yes (by omega) (by omega), within_yes (by omega) (by omega)]; rfl
  unfold PS.received
  rw [if_pos h2, ba_1]
  rfl
theorem ba_recv_no {d : ByteArray} {t r now n : Int} (h1 : ¬ (0 ≤ now ∧ now ≤ 1000000000)) : (baS d t r).received now 100 1 n = (2, baS d t r) := by
  have h2 : recvOk now 100 1 n = false := by
    unfold recvOk
    rw [within_no (by omega)]; rfl
  unfold PS.received
  rw [if_neg (by rw [h2]; decide)]
theorem ba_recv2 {d : ByteArray} {t r n : Int} (hn : 0 ≤ n) : (baS d t r).received 5 100 (65536 + n) 1 = (2, baS d t r) := by
  have h2 : recvOk 5 100 (65536 + n) 1 = false := by
    unfold recvOk addrsOk
    rw [within_no (n := 65536 + n) (by omega), Bool.and_false, Bool.and_false]; rfl
  unfold PS.received
  rw [if_neg (by rw [h2]; decide)]
theorem ba_val {d : ByteArray} {t r : Int} : (baS d t r).valid (100, 1) = false := rfl

end Go.Proofs.YtmdfpknhfkgfoaaDoor


/- law24: pick, remote, data, do. Printed by gendo.py. -/
namespace Go.Proofs.YtmdfpknhfkgfoaaDoor
open Go.RowKit Go.Shelf
set_option linter.unusedVariables false

def in63 (z : Int) : Prop := -9223372036854775808 ≤ z ∧ z ≤ 9223372036854775807

set_option maxHeartbeats 400000 in
theorem pick24_any (c : Int) (n : Nat) (w : World) (h0 : 0 < n) (h1 : n ≤ 10000000000) (hlo : -9223372036854775808 ≤ c) (hhi : c ≤ 9223372036854775807) :
    Calls Tryd.prog 16 #[.int .i64 c, .int .i64 n] w fun e w' => e = .returned (.int .i64 (pkN c n : Nat)) ∧ w = w' := by
  have hv : ((pkN c n : Nat) : Int) = (if c < 0 then -(c + 1) else c) % (n : Int) := by
    unfold pkN
    exact Int.toNat_of_nonneg (Int.emod_nonneg _ (by omega))
  by_cases hc : c < 0
  · rw [if_pos hc, ← Int.tmod_eq_emod_of_nonneg (by omega), Int.neg_tmod] at hv
    have Hv := Lib.hid hv; clear hv
    go_enter Tryd.func16, Tryd.ntmps16
    go_wp2
    go_ret
    exact ⟨congrArg (fun z : Int => Ending.returned (.int .i64 z)) Hv.out.symm, rfl⟩
  · rw [if_neg hc] at hv
    have Hv := Lib.hid hv; clear hv
    go_enter Tryd.func16, Tryd.ntmps16
    go_wp2
    go_ret
    exact ⟨congrArg (fun z : Int => Ending.returned (.int .i64 z)) Hv.out.symm, rfl⟩

theorem remote24_any (c : Int) (w : World) (hc : in63 c) :
    Calls Tryd.prog 30 #[.int .i64 c] w fun e w' => e = .returned (.int .i64 (rmN c)) ∧ w = w' := by
  have h1 := hc.1
  have h2 := hc.2
  have hlt := pkN_lt c 7 (by decide)
  rw [show rmN c = 1 + ((pkN c 7 : Nat) : Int) from rfl]
  obtain ⟨p, hp⟩ : ∃ p, Hid (pkN c 7 = p) := ⟨_, rfl⟩
  rw [hp.out] at hlt ⊢
  go_enter Tryd.func30, Tryd.ntmps30
  go_wp2_with (fail)
  refine (pick24_any c 7 _ (by decide) (by decide) h1 h2).mono ?_
  rintro e w1 ⟨rfl, rfl⟩
  rw [hp.out]
  go_wp2
  go_ret
  exact ⟨rfl, rfl⟩

set_option maxHeartbeats 400000 in
theorem data24_any (c : Int) (w : World) (hc : in63 c) :
    Calls Tryd.prog 31 #[.int .i64 c] w (SomeB (.string (datN c)) w) := by
  have h1 := hc.1
  have h2 := hc.2
  have hlt := pkN_lt c 3 (by decide)
  rw [show datN c = datOf (pkN c 3) from rfl]
  go_enter Tryd.func31, Tryd.ntmps31
  go_wp2_with (fail)
  refine (pick24_any c 3 _ (by decide) (by decide) h1 h2).mono ?_
  rintro e w1 ⟨rfl, rfl⟩
  generalize pkN c 3 = p at *
  have hp : p = 0 ∨ p = 1 ∨ p = 2 := by omega
  rcases hp with rfl | rfl | rfl
  all_goals
    go_wp2
    go_ret
    exact ⟨rfl, (Below.refl _ w).alloc (Nat.le_refl _) _⟩

structure Call24.ok (c : Call24) : Prop where
  kind : in63 c.kind
  later : in63 c.later
  remote : in63 c.remote
  n : in63 c.n
  loc : in63 c.loc
abbrev Call24.val (c : Call24) : Value := .agg #[.int .i64 c.kind, .int .i64 c.later, .int .i64 c.remote, .int .i64 c.n, .int .i64 c.loc]
abbrev Call24.cells (c : Call24) : Array Value := #[.int .i64 c.kind, .int .i64 c.later, .int .i64 c.remote, .int .i64 c.n, .int .i64 c.loc]

set_option maxRecDepth 100000 in
set_option maxHeartbeats 1600000 in
theorem do_0 (aA aP : Addr) (w0 : World) (B : Nat) (β : Int × Int → Nat) (S : PS) (v : Value) (now : Int) (c : Call24) (w : World) (hE : Errs aA aP w0) (hS : PAt w0 B β S v w) (m : Nat) (hg : S.good m) (hm : m ≤ 1000000) (hc : c.ok) (hk : c.kind = 0) :
    Calls Tryd.prog 25 #[.pointer (some ⟨B, 0, none⟩), .int .i64 now, c.val] w (TurnPost w0 B β S v (.int .i64 (S.doo now c).1) (S.doo now c).2 w) := by
  have hr := hc.remote
  have hn := hc.n
  have Hv := Lib.hid (show S.doo now c = S.received now 100 (rmN c.remote) (pkN c.n 600 : Nat) by unfold PS.doo; simp [hk])
  rw [Hv.out]
  clear Hv
  have HS := Lib.hid hS
  have HE := Lib.hid hE
  have HG := Lib.hid hg
  have hnd := Lib.hid hS.is.nd
  clear hS hE hg
  obtain ⟨kd, lt, rm, n, lc⟩ := c
  simp only at hk hr hn ⊢
  subst hk
  have HB : Hid (Below w.heap.size w (w.alloc (.cells #[.int .i64 0, .int .i64 lt, .int .i64 rm, .int .i64 n, .int .i64 lc] 45))) := (Below.refl _ w).alloc (Nat.le_refl _) _
  have HA := Lib.hid (HS.out.of_below HB.out)
  have HG0 := Lib.hid (HS.out.go_same HB.out)
  clear HB
  go_enter Tryd.func25, Tryd.ntmps25
  go_wp2_with (fail)
  refine (remote24_any rm _ hr).mono ?_
  rintro e w1 ⟨rfl, rfl⟩
  have hrm := rmN_in rm
  generalize rmN rm = r at *
  go_wp2_with (fail)
  refine (pick24_any n 600 _ (by decide) (by decide) hn.1 hn.2).mono ?_
  rintro e w1 ⟨rfl, rfl⟩
  have hpk := pkN_lt n 600 (by decide)
  generalize pkN n 600 = p at *
  go_wp2_with (fail)
  refine (received_any aA aP w0 B β S v now 100 r (p : Nat) _ HE.out HA.out HG.out.prev (HG.out.rcvs hnd.out hm _)).mono ?_
  rintro e w2 ⟨rfl, β2, v2, hG⟩
  have HG2 := Lib.hid (HG0.out.trans hG)
  clear hG
  go_wp2
  go_ret
  exact ⟨rfl, β2, v2, HG2.out⟩

set_option maxRecDepth 100000 in
set_option maxHeartbeats 1600000 in
theorem do_1 (aA aP : Addr) (w0 : World) (B : Nat) (β : Int × Int → Nat) (S : PS) (v : Value) (now : Int) (c : Call24) (w : World) (hE : Errs aA aP w0) (hS : PAt w0 B β S v w) (m : Nat) (hg : S.good m) (hm : m ≤ 1000000) (hc : c.ok) (hk : c.kind = 1) :
    Calls Tryd.prog 25 #[.pointer (some ⟨B, 0, none⟩), .int .i64 now, c.val] w (TurnPost w0 B β S v (.int .i64 (S.doo now c).1) (S.doo now c).2 w) := by
  have hr := hc.remote
  have hn := hc.n
  have Hv := Lib.hid (show S.doo now c = S.sent (100, rmN c.remote) (pkN c.n 600 : Nat) by unfold PS.doo; simp [hk])
  rw [Hv.out]
  clear Hv
  have HS := Lib.hid hS
  have HE := Lib.hid hE
  have HG := Lib.hid hg
  have hnd := Lib.hid hS.is.nd
  clear hS hE hg
  obtain ⟨kd, lt, rm, n, lc⟩ := c
  simp only at hk hr hn ⊢
  subst hk
  have HB : Hid (Below w.heap.size w (w.alloc (.cells #[.int .i64 1, .int .i64 lt, .int .i64 rm, .int .i64 n, .int .i64 lc] 45))) := (Below.refl _ w).alloc (Nat.le_refl _) _
  have HA := Lib.hid (HS.out.of_below HB.out)
  have HG0 := Lib.hid (HS.out.go_same HB.out)
  clear HB
  go_enter Tryd.func25, Tryd.ntmps25
  go_wp2_with (fail)
  refine (remote24_any rm _ hr).mono ?_
  rintro e w1 ⟨rfl, rfl⟩
  have hrm := rmN_in rm
  generalize rmN rm = r at *
  go_wp2_with (fail)
  refine (pick24_any n 600 _ (by decide) (by decide) hn.1 hn.2).mono ?_
  rintro e w1 ⟨rfl, rfl⟩
  have hpk := pkN_lt n 600 (by decide)
  generalize pkN n 600 = p at *
  go_wp2_with (fail)
  refine (sent_any aA aP w0 B β S v 100 r (p : Nat) _ (HE.out.below HA.out.below) HA.out (HG.out.snts hnd.out hm _ (by omega))).mono ?_
  rintro e w2 ⟨rfl, β2, v2, hG⟩
  have HG2 := Lib.hid (HG0.out.trans hG)
  clear hG
  go_wp2
  go_ret
  exact ⟨rfl, β2, v2, HG2.out⟩

set_option maxRecDepth 100000 in
set_option maxHeartbeats 1600000 in
theorem do_2 (aA aP : Addr) (w0 : World) (B : Nat) (β : Int × Int → Nat) (S : PS) (v : Value) (now : Int) (c : Call24) (w : World) (hE : Errs aA aP w0) (hS : PAt w0 B β S v w) (m : Nat) (hg : S.good m) (hm : m ≤ 1000000) (hc : c.ok) (hk : c.kind = 2) :
    Calls Tryd.prog 25 #[.pointer (some ⟨B, 0, none⟩), .int .i64 now, c.val] w (TurnPost w0 B β S v (.int .i64 (S.doo now c).1) (S.doo now c).2 w) := by
  have hr := hc.remote
  have hn := hc.n
  have Hv := Lib.hid (show S.doo now c = S.challenge now (100, rmN c.remote) (datN c.n) by unfold PS.doo; simp [hk])
  rw [Hv.out]
  clear Hv
  have HS := Lib.hid hS
  have HE := Lib.hid hE
  have HG := Lib.hid hg
  have hnd := Lib.hid hS.is.nd
  clear hS hE hg
  obtain ⟨kd, lt, rm, n, lc⟩ := c
  simp only at hk hr hn ⊢
  subst hk
  have HB : Hid (Below w.heap.size w (w.alloc (.cells #[.int .i64 2, .int .i64 lt, .int .i64 rm, .int .i64 n, .int .i64 lc] 45))) := (Below.refl _ w).alloc (Nat.le_refl _) _
  have HA := Lib.hid (HS.out.of_below HB.out)
  have HG0 := Lib.hid (HS.out.go_same HB.out)
  clear HB
  go_enter Tryd.func25, Tryd.ntmps25
  go_wp2_with (fail)
  refine (remote24_any rm _ hr).mono ?_
  rintro e w1 ⟨rfl, rfl⟩
  have hrm := rmN_in rm
  generalize rmN rm = r at *
  go_wp2_with (fail)
  refine (data24_any n _ hn).mono ?_
  rintro e w1 ⟨rfl, hb1⟩
  have HA1 := Lib.hid (HA.out.of_below hb1)
  have HG1 := Lib.hid (HG0.out.trans (HA.out.go_same hb1))
  clear hb1 HA HG0
  generalize datN n = d at *
  go_wp2_with (fail)
  refine (challenge_any aA aP w0 B β S v now 100 r d _ (HE.out.below HA1.out.below) HA1.out).mono ?_
  rintro e w2 ⟨rfl, β2, v2, hG⟩
  have HG2 := Lib.hid (HG1.out.trans hG)
  clear hG
  go_wp2
  go_ret
  exact ⟨rfl, β2, v2, HG2.out⟩

set_option maxRecDepth 100000 in
set_option maxHeartbeats 1600000 in
theorem do_3 (aA aP : Addr) (w0 : World) (B : Nat) (β : Int × Int → Nat) (S : PS) (v : Value) (now : Int) (c : Call24) (w : World) (hE : Errs aA aP w0) (hS : PAt w0 B β S v w) (m : Nat) (hg : S.good m) (hm : m ≤ 1000000) (hc : c.ok) (hk : c.kind = 3) :
    Calls Tryd.prog 25 #[.pointer (some ⟨B, 0, none⟩), .int .i64 now, c.val] w (TurnPost w0 B β S v (.int .i64 (S.doo now c).1) (S.doo now c).2 w) := by
  have hr := hc.remote
  have hn := hc.n
  have Hv := Lib.hid (show S.doo now c = (b2i (S.respond (100, rmN c.remote) (datN c.n)).1, (S.respond (100, rmN c.remote) (datN c.n)).2) by unfold PS.doo; simp [hk])
  rw [Hv.out]
  clear Hv
  have HS := Lib.hid hS
  have HE := Lib.hid hE
  have HG := Lib.hid hg
  have hnd := Lib.hid hS.is.nd
  clear hS hE hg
  obtain ⟨kd, lt, rm, n, lc⟩ := c
  simp only at hk hr hn ⊢
  subst hk
  have HB : Hid (Below w.heap.size w (w.alloc (.cells #[.int .i64 3, .int .i64 lt, .int .i64 rm, .int .i64 n, .int .i64 lc] 45))) := (Below.refl _ w).alloc (Nat.le_refl _) _
  have HA := Lib.hid (HS.out.of_below HB.out)
  have HG0 := Lib.hid (HS.out.go_same HB.out)
  clear HB
  go_enter Tryd.func25, Tryd.ntmps25
  go_wp2_with (fail)
  refine (remote24_any rm _ hr).mono ?_
  rintro e w1 ⟨rfl, rfl⟩
  have hrm := rmN_in rm
  generalize rmN rm = r at *
  go_wp2_with (fail)
  refine (data24_any n _ hn).mono ?_
  rintro e w1 ⟨rfl, hb1⟩
  have HA1 := Lib.hid (HA.out.of_below hb1)
  have HG1 := Lib.hid (HG0.out.trans (HA.out.go_same hb1))
  clear hb1 HA HG0
  generalize datN n = d at *
  go_wp2_with (fail)
  refine (respond_any aA aP w0 B β S v now 100 r d _ (HE.out.below HA1.out.below) HA1.out).mono ?_
  rintro e w2 ⟨rfl, β2, v2, hG⟩
  have HG2 := Lib.hid (HG1.out.trans hG)
  clear hG
  generalize S.respond (100, r) d = X at *
  obtain ⟨b, S2⟩ := X
  cases b with
  | true =>
    go_wp2
    go_ret
    exact ⟨rfl, β2, v2, HG2.out⟩
  | false =>
    go_wp2
    go_ret
    exact ⟨rfl, β2, v2, HG2.out⟩

set_option maxRecDepth 100000 in
set_option maxHeartbeats 1600000 in
theorem do_4 (aA aP : Addr) (w0 : World) (B : Nat) (β : Int × Int → Nat) (S : PS) (v : Value) (now : Int) (c : Call24) (w : World) (hE : Errs aA aP w0) (hS : PAt w0 B β S v w) (m : Nat) (hg : S.good m) (hm : m ≤ 1000000) (hc : c.ok) (hk : c.kind = 4) :
    Calls Tryd.prog 25 #[.pointer (some ⟨B, 0, none⟩), .int .i64 now, c.val] w (TurnPost w0 B β S v (.int .i64 (S.doo now c).1) (S.doo now c).2 w) := by
  have hr := hc.remote
  have hn := hc.n
  have Hv := Lib.hid (show S.doo now c = S.migrate (100, rmN c.remote) by unfold PS.doo; simp [hk])
  rw [Hv.out]
  clear Hv
  have HS := Lib.hid hS
  have HE := Lib.hid hE
  have HG := Lib.hid hg
  have hnd := Lib.hid hS.is.nd
  clear hS hE hg
  obtain ⟨kd, lt, rm, n, lc⟩ := c
  simp only at hk hr hn ⊢
  subst hk
  have HB : Hid (Below w.heap.size w (w.alloc (.cells #[.int .i64 4, .int .i64 lt, .int .i64 rm, .int .i64 n, .int .i64 lc] 45))) := (Below.refl _ w).alloc (Nat.le_refl _) _
  have HA := Lib.hid (HS.out.of_below HB.out)
  have HG0 := Lib.hid (HS.out.go_same HB.out)
  clear HB
  go_enter Tryd.func25, Tryd.ntmps25
  go_wp2_with (fail)
  refine (remote24_any rm _ hr).mono ?_
  rintro e w1 ⟨rfl, rfl⟩
  have hrm := rmN_in rm
  generalize rmN rm = r at *
  go_wp2_with (fail)
  refine (migrate_any aA aP w0 B β S v 100 r _ (HE.out.below HA.out.below) HA.out).mono ?_
  rintro e w2 ⟨rfl, β2, v2, hG⟩
  have HG2 := Lib.hid (HG0.out.trans hG)
  clear hG
  go_wp2
  go_ret
  exact ⟨rfl, β2, v2, HG2.out⟩

set_option maxRecDepth 100000 in
set_option maxHeartbeats 1600000 in
theorem do_5 (aA aP : Addr) (w0 : World) (B : Nat) (β : Int × Int → Nat) (S : PS) (v : Value) (now : Int) (c : Call24) (w : World) (hE : Errs aA aP w0) (hS : PAt w0 B β S v w) (m : Nat) (hg : S.good m) (hm : m ≤ 1000000) (hc : c.ok) (hk : c.kind = 5) :
    Calls Tryd.prog 25 #[.pointer (some ⟨B, 0, none⟩), .int .i64 now, c.val] w (TurnPost w0 B β S v (.int .i64 (S.doo now c).1) (S.doo now c).2 w) := by
  have hr := hc.remote
  have hn := hc.n
  have Hv := Lib.hid (show S.doo now c = S.validate (100, rmN c.remote) by unfold PS.doo; simp [hk])
  rw [Hv.out]
  clear Hv
  have HS := Lib.hid hS
  have HE := Lib.hid hE
  have HG := Lib.hid hg
  have hnd := Lib.hid hS.is.nd
  clear hS hE hg
  obtain ⟨kd, lt, rm, n, lc⟩ := c
  simp only at hk hr hn ⊢
  subst hk
  have HB : Hid (Below w.heap.size w (w.alloc (.cells #[.int .i64 5, .int .i64 lt, .int .i64 rm, .int .i64 n, .int .i64 lc] 45))) := (Below.refl _ w).alloc (Nat.le_refl _) _
  have HA := Lib.hid (HS.out.of_below HB.out)
  have HG0 := Lib.hid (HS.out.go_same HB.out)
  clear HB
  go_enter Tryd.func25, Tryd.ntmps25
  go_wp2_with (fail)
  refine (remote24_any rm _ hr).mono ?_
  rintro e w1 ⟨rfl, rfl⟩
  have hrm := rmN_in rm
  generalize rmN rm = r at *
  go_wp2_with (fail)
  refine (validate_any aA aP w0 B β S v 100 r _ (HE.out.below HA.out.below) HA.out).mono ?_
  rintro e w2 ⟨rfl, β2, v2, hG⟩
  have HG2 := Lib.hid (HG0.out.trans hG)
  clear hG
  go_wp2
  go_ret
  exact ⟨rfl, β2, v2, HG2.out⟩

set_option maxRecDepth 100000 in
set_option maxHeartbeats 1600000 in
theorem do_6 (aA aP : Addr) (w0 : World) (B : Nat) (β : Int × Int → Nat) (S : PS) (v : Value) (now : Int) (c : Call24) (w : World) (hE : Errs aA aP w0) (hS : PAt w0 B β S v w) (m : Nat) (hg : S.good m) (hm : m ≤ 1000000) (hc : c.ok) (hk : c.kind = 6) :
    Calls Tryd.prog 25 #[.pointer (some ⟨B, 0, none⟩), .int .i64 now, c.val] w (TurnPost w0 B β S v (.int .i64 (S.doo now c).1) (S.doo now c).2 w) := by
  have hr := hc.remote
  have hn := hc.n
  have Hv := Lib.hid (show S.doo now c = (b2i (S.tick now).1, (S.tick now).2) by unfold PS.doo; simp [hk])
  rw [Hv.out]
  clear Hv
  have HS := Lib.hid hS
  have HE := Lib.hid hE
  have HG := Lib.hid hg
  have hnd := Lib.hid hS.is.nd
  clear hS hE hg
  obtain ⟨kd, lt, rm, n, lc⟩ := c
  simp only at hk hr hn ⊢
  subst hk
  have HB : Hid (Below w.heap.size w (w.alloc (.cells #[.int .i64 6, .int .i64 lt, .int .i64 rm, .int .i64 n, .int .i64 lc] 45))) := (Below.refl _ w).alloc (Nat.le_refl _) _
  have HA := Lib.hid (HS.out.of_below HB.out)
  have HG0 := Lib.hid (HS.out.go_same HB.out)
  clear HB
  go_enter Tryd.func25, Tryd.ntmps25
  go_wp2_with (fail)
  refine (remote24_any rm _ hr).mono ?_
  rintro e w1 ⟨rfl, rfl⟩
  have hrm := rmN_in rm
  generalize rmN rm = r at *
  go_wp2_with (fail)
  refine (tick_any w0 B β S v now _ HA.out).mono ?_
  rintro e w2 ⟨rfl, β2, v2, hG⟩
  have HG2 := Lib.hid (HG0.out.trans hG)
  clear hG
  generalize S.tick now = X at *
  obtain ⟨b, S2⟩ := X
  cases b with
  | true =>
    go_wp2
    go_ret
    exact ⟨rfl, β2, v2, HG2.out⟩
  | false =>
    go_wp2
    go_ret
    exact ⟨rfl, β2, v2, HG2.out⟩

set_option maxRecDepth 100000 in
set_option maxHeartbeats 1600000 in
theorem do_x (aA aP : Addr) (w0 : World) (B : Nat) (β : Int × Int → Nat) (S : PS) (v : Value) (now : Int) (c : Call24) (w : World) (hE : Errs aA aP w0) (hS : PAt w0 B β S v w) (m : Nat) (hg : S.good m) (hm : m ≤ 1000000) (hc : c.ok) (h0 : c.kind ≠ 0) (h1 : c.kind ≠ 1) (h2 : c.kind ≠ 2) (h3 : c.kind ≠ 3) (h4 : c.kind ≠ 4) (h5 : c.kind ≠ 5) (h6 : c.kind ≠ 6) :
    Calls Tryd.prog 25 #[.pointer (some ⟨B, 0, none⟩), .int .i64 now, c.val] w (TurnPost w0 B β S v (.int .i64 (S.doo now c).1) (S.doo now c).2 w) := by
  have hr := hc.remote
  have hn := hc.n
  have Hv := Lib.hid (show S.doo now c = S.received c.later c.loc c.remote c.n by unfold PS.doo; simp [h0, h1, h2, h3, h4, h5, h6])
  rw [Hv.out]
  clear Hv
  have HS := Lib.hid hS
  have HE := Lib.hid hE
  have HG := Lib.hid hg
  have hnd := Lib.hid hS.is.nd
  clear hS hE hg
  obtain ⟨kd, lt, rm, n, lc⟩ := c
  simp only at h0 h1 h2 h3 h4 h5 h6 hr hn ⊢
  have q0 : ((kd : Int) == 0) = false := by rw [beq_eq_false_iff_ne]; exact h0
  have q1 : ((kd : Int) == 1) = false := by rw [beq_eq_false_iff_ne]; exact h1
  have q2 : ((kd : Int) == 2) = false := by rw [beq_eq_false_iff_ne]; exact h2
  have q3 : ((kd : Int) == 3) = false := by rw [beq_eq_false_iff_ne]; exact h3
  have q4 : ((kd : Int) == 4) = false := by rw [beq_eq_false_iff_ne]; exact h4
  have q5 : ((kd : Int) == 5) = false := by rw [beq_eq_false_iff_ne]; exact h5
  have q6 : ((kd : Int) == 6) = false := by rw [beq_eq_false_iff_ne]; exact h6
  clear h0 h1 h2 h3 h4 h5 h6
  have HB : Hid (Below w.heap.size w (w.alloc (.cells #[.int .i64 kd, .int .i64 lt, .int .i64 rm, .int .i64 n, .int .i64 lc] 45))) := (Below.refl _ w).alloc (Nat.le_refl _) _
  have HA := Lib.hid (HS.out.of_below HB.out)
  have HG0 := Lib.hid (HS.out.go_same HB.out)
  clear HB
  go_enter Tryd.func25, Tryd.ntmps25
  go_wp2_with (fail)
  refine (remote24_any rm _ hr).mono ?_
  rintro e w1 ⟨rfl, rfl⟩
  have hrm := rmN_in rm
  generalize rmN rm = r at *
  go_wp2_with (fail)
  refine (received_any aA aP w0 B β S v lt lc rm n _ HE.out HA.out HG.out.prev (HG.out.rcvs hnd.out hm _)).mono ?_
  rintro e w2 ⟨rfl, β2, v2, hG⟩
  have HG2 := Lib.hid (HG0.out.trans hG)
  clear hG
  go_wp2
  go_ret
  exact ⟨rfl, β2, v2, HG2.out⟩

theorem do_any (aA aP : Addr) (w0 : World) (B : Nat) (β : Int × Int → Nat) (S : PS) (v : Value) (now : Int) (c : Call24) (w : World) (hE : Errs aA aP w0) (hS : PAt w0 B β S v w) (m : Nat) (hg : S.good m) (hm : m ≤ 1000000) (hc : c.ok) :
    Calls Tryd.prog 25 #[.pointer (some ⟨B, 0, none⟩), .int .i64 now, c.val] w (TurnPost w0 B β S v (.int .i64 (S.doo now c).1) (S.doo now c).2 w) := by
  by_cases h0 : c.kind = 0
  · exact do_0 aA aP w0 B β S v now c w hE hS m hg hm hc h0
  by_cases h1 : c.kind = 1
  · exact do_1 aA aP w0 B β S v now c w hE hS m hg hm hc h1
  by_cases h2 : c.kind = 2
  · exact do_2 aA aP w0 B β S v now c w hE hS m hg hm hc h2
  by_cases h3 : c.kind = 3
  · exact do_3 aA aP w0 B β S v now c w hE hS m hg hm hc h3
  by_cases h4 : c.kind = 4
  · exact do_4 aA aP w0 B β S v now c w hE hS m hg hm hc h4
  by_cases h5 : c.kind = 5
  · exact do_5 aA aP w0 B β S v now c w hE hS m hg hm hc h5
  by_cases h6 : c.kind = 6
  · exact do_6 aA aP w0 B β S v now c w hE hS m hg hm hc h6
  exact do_x aA aP w0 B β S v now c w hE hS m hg hm hc h0 h1 h2 h3 h4 h5 h6

end Go.Proofs.YtmdfpknhfkgfoaaDoor


/- law24.do at a nil Paths. Printed by gendon.py. -/
namespace Go.Proofs.YtmdfpknhfkgfoaaDoor
open Go.RowKit Go.Shelf

set_option maxRecDepth 100000 in
set_option maxHeartbeats 1600000 in
theorem don_0 (aA aP : Addr) (now : Int) (c : Call24) (w : World) (hE : Errs aA aP w) (hc : c.ok) (hk : c.kind = 0) :
    Calls Tryd.prog 25 #[.pointer none, .int .i64 now, c.val] w (SomeB (.int .i64 1) w) := by
  have hr := hc.remote
  have hn := hc.n
  obtain ⟨kd, lt, rm, n, lc⟩ := c
  simp only at hk hr hn ⊢
  subst hk
  have HB : Hid (Below w.heap.size w (w.alloc (.cells #[.int .i64 0, .int .i64 lt, .int .i64 rm, .int .i64 n, .int .i64 lc] 45))) := (Below.refl _ w).alloc (Nat.le_refl _) _
  have HE := Lib.hid hE
  clear hE
  go_enter Tryd.func25, Tryd.ntmps25
  go_wp2_with (fail)
  refine (remote24_any rm _ hr).mono ?_
  rintro e w1 ⟨rfl, rfl⟩
  have hrm := rmN_in rm
  generalize rmN rm = r at *
  go_wp2_with (fail)
  refine (pick24_any n 600 _ (by decide) (by decide) hn.1 hn.2).mono ?_
  rintro e w1 ⟨rfl, rfl⟩
  have hpk := pkN_lt n 600 (by decide)
  generalize pkN n 600 = p at *
  go_wp2_with (fail)
  refine (received_nil now 100 r (p : Nat) _).mono ?_
  rintro e w2 ⟨rfl, hb⟩
  have HB2 := Lib.hid (HB.out.trans (hb.mono HB.out.size))
  clear hb
  go_wp2
  go_ret
  exact ⟨rfl, HB2.out⟩

set_option maxRecDepth 100000 in
set_option maxHeartbeats 1600000 in
theorem don_1 (aA aP : Addr) (now : Int) (c : Call24) (w : World) (hE : Errs aA aP w) (hc : c.ok) (hk : c.kind = 1) :
    Calls Tryd.prog 25 #[.pointer none, .int .i64 now, c.val] w (SomeB (.int .i64 1) w) := by
  have hr := hc.remote
  have hn := hc.n
  obtain ⟨kd, lt, rm, n, lc⟩ := c
  simp only at hk hr hn ⊢
  subst hk
  have HB : Hid (Below w.heap.size w (w.alloc (.cells #[.int .i64 1, .int .i64 lt, .int .i64 rm, .int .i64 n, .int .i64 lc] 45))) := (Below.refl _ w).alloc (Nat.le_refl _) _
  have HE := Lib.hid hE
  clear hE
  go_enter Tryd.func25, Tryd.ntmps25
  go_wp2_with (fail)
  refine (remote24_any rm _ hr).mono ?_
  rintro e w1 ⟨rfl, rfl⟩
  have hrm := rmN_in rm
  generalize rmN rm = r at *
  go_wp2_with (fail)
  refine (pick24_any n 600 _ (by decide) (by decide) hn.1 hn.2).mono ?_
  rintro e w1 ⟨rfl, rfl⟩
  have hpk := pkN_lt n 600 (by decide)
  generalize pkN n 600 = p at *
  go_wp2_with (fail)
  refine (sent_nil 100 r (p : Nat) _).mono ?_
  rintro e w2 ⟨rfl, hb⟩
  have HB2 := Lib.hid (HB.out.trans (hb.mono HB.out.size))
  clear hb
  go_wp2
  go_ret
  exact ⟨rfl, HB2.out⟩

set_option maxRecDepth 100000 in
set_option maxHeartbeats 1600000 in
theorem don_2 (aA aP : Addr) (now : Int) (c : Call24) (w : World) (hE : Errs aA aP w) (hc : c.ok) (hk : c.kind = 2) :
    Calls Tryd.prog 25 #[.pointer none, .int .i64 now, c.val] w (SomeB (.int .i64 1) w) := by
  have hr := hc.remote
  have hn := hc.n
  obtain ⟨kd, lt, rm, n, lc⟩ := c
  simp only at hk hr hn ⊢
  subst hk
  have HB : Hid (Below w.heap.size w (w.alloc (.cells #[.int .i64 2, .int .i64 lt, .int .i64 rm, .int .i64 n, .int .i64 lc] 45))) := (Below.refl _ w).alloc (Nat.le_refl _) _
  have HE := Lib.hid hE
  clear hE
  go_enter Tryd.func25, Tryd.ntmps25
  go_wp2_with (fail)
  refine (remote24_any rm _ hr).mono ?_
  rintro e w1 ⟨rfl, rfl⟩
  have hrm := rmN_in rm
  generalize rmN rm = r at *
  go_wp2_with (fail)
  refine (data24_any n _ hn).mono ?_
  rintro e w1 ⟨rfl, hb1⟩
  have HB1 := Lib.hid (HB.out.trans (hb1.mono HB.out.size))
  clear hb1 HB
  generalize datN n = d at *
  go_wp2_with (fail)
  refine (challenge_nil now 100 r d _).mono ?_
  rintro e w2 ⟨rfl, hb⟩
  have HB2 := Lib.hid (HB1.out.trans (hb.mono HB1.out.size))
  clear hb
  go_wp2
  go_ret
  exact ⟨rfl, HB2.out⟩

set_option maxRecDepth 100000 in
set_option maxHeartbeats 1600000 in
theorem don_3 (aA aP : Addr) (now : Int) (c : Call24) (w : World) (hE : Errs aA aP w) (hc : c.ok) (hk : c.kind = 3) :
    Calls Tryd.prog 25 #[.pointer none, .int .i64 now, c.val] w (SomeB (.int .i64 0) w) := by
  have hr := hc.remote
  have hn := hc.n
  obtain ⟨kd, lt, rm, n, lc⟩ := c
  simp only at hk hr hn ⊢
  subst hk
  have HB : Hid (Below w.heap.size w (w.alloc (.cells #[.int .i64 3, .int .i64 lt, .int .i64 rm, .int .i64 n, .int .i64 lc] 45))) := (Below.refl _ w).alloc (Nat.le_refl _) _
  have HE := Lib.hid hE
  clear hE
  go_enter Tryd.func25, Tryd.ntmps25
  go_wp2_with (fail)
  refine (remote24_any rm _ hr).mono ?_
  rintro e w1 ⟨rfl, rfl⟩
  have hrm := rmN_in rm
  generalize rmN rm = r at *
  go_wp2_with (fail)
  refine (data24_any n _ hn).mono ?_
  rintro e w1 ⟨rfl, hb1⟩
  have HB1 := Lib.hid (HB.out.trans (hb1.mono HB.out.size))
  clear hb1 HB
  generalize datN n = d at *
  go_wp2_with (fail)
  refine (respond_nil aA aP now 100 r d _ (HE.out.below HB1.out)).mono ?_
  rintro e w2 ⟨rfl, hb⟩
  have HB2 := Lib.hid (HB1.out.trans (hb.mono HB1.out.size))
  clear hb
  go_wp2
  go_ret
  exact ⟨rfl, HB2.out⟩

set_option maxRecDepth 100000 in
set_option maxHeartbeats 1600000 in
theorem don_4 (aA aP : Addr) (now : Int) (c : Call24) (w : World) (hE : Errs aA aP w) (hc : c.ok) (hk : c.kind = 4) :
    Calls Tryd.prog 25 #[.pointer none, .int .i64 now, c.val] w (SomeB (.int .i64 1) w) := by
  have hr := hc.remote
  have hn := hc.n
  obtain ⟨kd, lt, rm, n, lc⟩ := c
  simp only at hk hr hn ⊢
  subst hk
  have HB : Hid (Below w.heap.size w (w.alloc (.cells #[.int .i64 4, .int .i64 lt, .int .i64 rm, .int .i64 n, .int .i64 lc] 45))) := (Below.refl _ w).alloc (Nat.le_refl _) _
  have HE := Lib.hid hE
  clear hE
  go_enter Tryd.func25, Tryd.ntmps25
  go_wp2_with (fail)
  refine (remote24_any rm _ hr).mono ?_
  rintro e w1 ⟨rfl, rfl⟩
  have hrm := rmN_in rm
  generalize rmN rm = r at *
  go_wp2_with (fail)
  refine (migrate_nil 100 r _).mono ?_
  rintro e w2 ⟨rfl, hb⟩
  have HB2 := Lib.hid (HB.out.trans (hb.mono HB.out.size))
  clear hb
  go_wp2
  go_ret
  exact ⟨rfl, HB2.out⟩

set_option maxRecDepth 100000 in
set_option maxHeartbeats 1600000 in
theorem don_5 (aA aP : Addr) (now : Int) (c : Call24) (w : World) (hE : Errs aA aP w) (hc : c.ok) (hk : c.kind = 5) :
    Calls Tryd.prog 25 #[.pointer none, .int .i64 now, c.val] w (SomeB (.int .i64 1) w) := by
  have hr := hc.remote
  have hn := hc.n
  obtain ⟨kd, lt, rm, n, lc⟩ := c
  simp only at hk hr hn ⊢
  subst hk
  have HB : Hid (Below w.heap.size w (w.alloc (.cells #[.int .i64 5, .int .i64 lt, .int .i64 rm, .int .i64 n, .int .i64 lc] 45))) := (Below.refl _ w).alloc (Nat.le_refl _) _
  have HE := Lib.hid hE
  clear hE
  go_enter Tryd.func25, Tryd.ntmps25
  go_wp2_with (fail)
  refine (remote24_any rm _ hr).mono ?_
  rintro e w1 ⟨rfl, rfl⟩
  have hrm := rmN_in rm
  generalize rmN rm = r at *
  go_wp2_with (fail)
  refine (validate_nil 100 r _).mono ?_
  rintro e w2 ⟨rfl, hb⟩
  have HB2 := Lib.hid (HB.out.trans (hb.mono HB.out.size))
  clear hb
  go_wp2
  go_ret
  exact ⟨rfl, HB2.out⟩

set_option maxRecDepth 100000 in
set_option maxHeartbeats 1600000 in
theorem don_6 (aA aP : Addr) (now : Int) (c : Call24) (w : World) (hE : Errs aA aP w) (hc : c.ok) (hk : c.kind = 6) :
    Calls Tryd.prog 25 #[.pointer none, .int .i64 now, c.val] w (SomeB (.int .i64 0) w) := by
  have hr := hc.remote
  have hn := hc.n
  obtain ⟨kd, lt, rm, n, lc⟩ := c
  simp only at hk hr hn ⊢
  subst hk
  have HB : Hid (Below w.heap.size w (w.alloc (.cells #[.int .i64 6, .int .i64 lt, .int .i64 rm, .int .i64 n, .int .i64 lc] 45))) := (Below.refl _ w).alloc (Nat.le_refl _) _
  have HE := Lib.hid hE
  clear hE
  go_enter Tryd.func25, Tryd.ntmps25
  go_wp2_with (fail)
  refine (remote24_any rm _ hr).mono ?_
  rintro e w1 ⟨rfl, rfl⟩
  have hrm := rmN_in rm
  generalize rmN rm = r at *
  go_wp2_with (fail)
  refine (tick_nil now _).mono ?_
  rintro e w2 ⟨rfl, hb⟩
  have HB2 := Lib.hid (HB.out.trans (hb.mono HB.out.size))
  clear hb
  go_wp2
  go_ret
  exact ⟨rfl, HB2.out⟩

set_option maxRecDepth 100000 in
set_option maxHeartbeats 1600000 in
theorem don_x (aA aP : Addr) (now : Int) (c : Call24) (w : World) (hE : Errs aA aP w) (hc : c.ok) (h0 : c.kind ≠ 0) (h1 : c.kind ≠ 1) (h2 : c.kind ≠ 2) (h3 : c.kind ≠ 3) (h4 : c.kind ≠ 4) (h5 : c.kind ≠ 5) (h6 : c.kind ≠ 6) :
    Calls Tryd.prog 25 #[.pointer none, .int .i64 now, c.val] w (SomeB (.int .i64 1) w) := by
  have hr := hc.remote
  have hn := hc.n
  obtain ⟨kd, lt, rm, n, lc⟩ := c
  simp only at h0 h1 h2 h3 h4 h5 h6 hr hn ⊢
  have q0 : ((kd : Int) == 0) = false := by rw [beq_eq_false_iff_ne]; exact h0
  have q1 : ((kd : Int) == 1) = false := by rw [beq_eq_false_iff_ne]; exact h1
  have q2 : ((kd : Int) == 2) = false := by rw [beq_eq_false_iff_ne]; exact h2
  have q3 : ((kd : Int) == 3) = false := by rw [beq_eq_false_iff_ne]; exact h3
  have q4 : ((kd : Int) == 4) = false := by rw [beq_eq_false_iff_ne]; exact h4
  have q5 : ((kd : Int) == 5) = false := by rw [beq_eq_false_iff_ne]; exact h5
  have q6 : ((kd : Int) == 6) = false := by rw [beq_eq_false_iff_ne]; exact h6
  clear h0 h1 h2 h3 h4 h5 h6
  have HB : Hid (Below w.heap.size w (w.alloc (.cells #[.int .i64 kd, .int .i64 lt, .int .i64 rm, .int .i64 n, .int .i64 lc] 45))) := (Below.refl _ w).alloc (Nat.le_refl _) _
  have HE := Lib.hid hE
  clear hE
  go_enter Tryd.func25, Tryd.ntmps25
  go_wp2_with (fail)
  refine (remote24_any rm _ hr).mono ?_
  rintro e w1 ⟨rfl, rfl⟩
  have hrm := rmN_in rm
  generalize rmN rm = r at *
  go_wp2_with (fail)
  refine (received_nil lt lc rm n _).mono ?_
  rintro e w2 ⟨rfl, hb⟩
  have HB2 := Lib.hid (HB.out.trans (hb.mono HB.out.size))
  clear hb
  go_wp2
  go_ret
  exact ⟨rfl, HB2.out⟩

def nilOf (k : Int) : Int := if k = 3 ∨ k = 6 then 0 else 1

theorem don_any (aA aP : Addr) (now : Int) (c : Call24) (w : World) (hE : Errs aA aP w) (hc : c.ok) :
    Calls Tryd.prog 25 #[.pointer none, .int .i64 now, c.val] w (SomeB (.int .i64 (nilOf c.kind)) w) := by
  unfold nilOf
  by_cases h0 : c.kind = 0
  · have h := don_0 aA aP now c w hE hc h0
    rw [if_neg (by omega)]; exact h
  by_cases h1 : c.kind = 1
  · have h := don_1 aA aP now c w hE hc h1
    rw [if_neg (by omega)]; exact h
  by_cases h2 : c.kind = 2
  · have h := don_2 aA aP now c w hE hc h2
    rw [if_neg (by omega)]; exact h
  by_cases h3 : c.kind = 3
  · have h := don_3 aA aP now c w hE hc h3
    rw [if_pos (.inl h3)]; exact h
  by_cases h4 : c.kind = 4
  · have h := don_4 aA aP now c w hE hc h4
    rw [if_neg (by omega)]; exact h
  by_cases h5 : c.kind = 5
  · have h := don_5 aA aP now c w hE hc h5
    rw [if_neg (by omega)]; exact h
  by_cases h6 : c.kind = 6
  · have h := don_6 aA aP now c w hE hc h6
    rw [if_pos (.inr h6)]; exact h
  rw [if_neg (by omega)]
  exact don_x aA aP now c w hE hc h0 h1 h2 h3 h4 h5 h6

end Go.Proofs.YtmdfpknhfkgfoaaDoor


/- The argument of law24's statements: a slice of CallParams, as it lies in memory. -/
namespace Go.Proofs.YtmdfpknhfkgfoaaDoor
open Go.RowKit Go.Shelf Go.ChangeShapes Go.WideShapes

/-- The calls lie in memory as the slice says. -/
def ArgC (a : Option Addr) (len : Nat) (C : Nat → Call24) (w : World) : Prop :=
  ∀ i, i < len → (C i).ok ∧ ∃ b o, a = some ⟨b, o, none⟩ ∧ b < w.heap.size ∧ ∀ j, j < 5 → w.cell? ⟨b, o + i * 5 + j, none⟩ = (C i).cells[j]?

theorem ArgC.below {a : Option Addr} {len : Nat} {C : Nat → Call24} {w w' : World} (h : ArgC a len C w) (hb : Below w.heap.size w w') : ArgC a len C w' := fun i hi => by
  obtain ⟨h1, b, o, h2, h3, h4⟩ := h i hi
  exact ⟨h1, b, o, h2, Nat.lt_of_lt_of_le h3 hb.size, fun j hj => (hb.cell (p := ⟨b, _, none⟩) h3).trans (h4 j hj)⟩

theorem cells_call24 : Tryd.prog.cellsOf 45 = 5 := by kernel_rfl
theorem cells_int24 : Tryd.prog.cellsOf 3 = 1 := by kernel_rfl

theorem wf_63 {n : Int} (h : (Lit.int .i64 n).wf = true) : in63 n := bounds_i64 h

theorem drop_take24 {cs : List Value} {k : Nat} {v : Value} (h : (cs.drop k).take 1 = [v]) : cs[k]? = some v := by
  have : ((cs.drop k).take 1)[0]? = some v := by rw [h]; rfl
  simpa [List.getElem?_take, List.getElem?_drop] using this

section
variable {H : Type} {enc : TypeId × Value → H} {w : World} {base : Nat} {spare : Nat → Bool} {held : Bool}

theorem int_field24 {fs : Array Field} {xs : List (DataW H × List MemPlace)} {n : Nat} {cs : List Value} (hl : xs.length = fs.size)
    (hf : ∀ (i : Nat) (f : Field), fs[i]? = some f → DataW.trod enc Tryd.prog w base spare held n f.type ((cs.drop f.offset).take (Tryd.prog.cellsOf f.type)) = xs[i]?)
    (i : Nat) (f : Field) (hi : fs[i]? = some f) (k : IntKind) (hu : Tryd.prog.underlying f.type = some (.int k)) (hc : Tryd.prog.cellsOf f.type = 1) :
    ∃ z, cs[f.offset]? = some (.int k z) ∧ (Lit.int k z).wf = true := by
  have hlt : i < xs.length := by rw [hl]; exact (Array.getElem?_eq_some_iff.1 hi).1
  have h := hf i f hi
  rw [List.getElem?_eq_getElem hlt, hc] at h
  obtain ⟨z, h1, _, h3⟩ := DataW.trod_int hu h
  exact ⟨z, drop_take24 h1, h3⟩

/-- One element's cells. -/
theorem open_call24 {fuel : Nat} {cs : List Value} {x : DataW H × List MemPlace} (h : DataW.trod enc Tryd.prog w base spare held fuel 45 cs = some x) :
    ∃ C : Call24, C.ok ∧ cs.length = 5 ∧ ∀ j, j < 5 → cs[j]? = C.cells[j]? := by
  obtain ⟨xs, n, _, _, hlen, hxl, hf⟩ := DataW.trod_struct Tryd.underlying45 h
  rw [cells_call24] at hlen
  obtain ⟨z0, h0, w0⟩ := int_field24 hxl hf 0 _ rfl .i64 Tryd.underlying3 cells_int24
  obtain ⟨z1, h1, w1⟩ := int_field24 hxl hf 1 _ rfl .i64 Tryd.underlying3 cells_int24
  obtain ⟨z2, h2, w2⟩ := int_field24 hxl hf 2 _ rfl .i64 Tryd.underlying3 cells_int24
  obtain ⟨z3, h3, w3⟩ := int_field24 hxl hf 3 _ rfl .i64 Tryd.underlying3 cells_int24
  obtain ⟨z4, h4, w4⟩ := int_field24 hxl hf 4 _ rfl .i64 Tryd.underlying3 cells_int24
  refine ⟨⟨z0, z1, z2, z3, z4⟩, ⟨wf_63 w0, wf_63 w1, wf_63 w2, wf_63 w3, wf_63 w4⟩, hlen, fun j hj => ?_⟩
  match j, hj with
  | 0, _ => exact h0
  | 1, _ => exact h1
  | 2, _ => exact h2
  | 3, _ => exact h3
  | 4, _ => exact h4

set_option maxRecDepth 100000 in
/-- The whole argument. -/
theorem open_calls24 {W : World} {r : Reach} {b0 : Nat} {v : Value} {d : DataW H} {p : List MemPlace} (hv : Value.okWide Tryd.prog W r b0 40 v)
    (h : DataW.Trod enc Tryd.prog W 0 (fun _ => true) true 40 v d p) :
    ∃ (a : Option Addr) (len cap : Nat) (C : Nat → Call24), v = .slice a len cap ∧ len ≤ maxLen ∧ ArgC a len C W := by
  obtain ⟨a0, l0, c0, rfl⟩ := okWide_slice Tryd.underlying40 hv
  obtain ⟨fuel, hf⟩ := h
  rcases Go.Deep.open_slice Tryd.underlying40 hf with ⟨h0, _⟩ | ⟨a, len, cap, m, n, D, Pl, hcs, hb, hl, hm, hmm, hx, hi⟩
  · simp only [Value.cells, List.cons.injEq, and_true] at h0
    rw [h0]
    exact ⟨none, 0, 0, fun _ => ⟨0, 0, 0, 0, 0⟩, rfl, by unfold maxLen; omega, fun i hi => absurd hi (Nat.not_lt_zero _)⟩
  · simp only [Value.cells, List.cons.injEq, and_true] at hcs
    rw [hcs]
    simp only [if_true] at hmm
    have key : ∀ i, i < len → ∃ C : Call24, C.ok ∧ ∀ j, j < 5 → W.cell? (a.add (i * 5 + j)) = C.cells[j]? := fun i hil => by
      obtain ⟨cs', hc, ht⟩ := hi i (by omega)
      rw [cells_call24] at hc
      obtain ⟨_, _, hat⟩ := World.cells?_some hc
      obtain ⟨C, hok, _, hC⟩ := open_call24 ht
      exact ⟨C, hok, fun j hj => by rw [← Go.Deep.add_add, hat j hj, hC j hj]⟩
    haveI : Inhabited Call24 := ⟨⟨0, 0, 0, 0, 0⟩⟩
    obtain ⟨C, hC⟩ := Go.Deep.choose_lt key
    refine ⟨some a, len, cap, C, rfl, Nat.le_trans hl hm, fun i hil => ⟨(hC i hil).1, ?_⟩⟩
    have h00 : W.cell? (a.add (0 * 5 + 0)) = some (.int .i64 (C 0).kind) := (hC 0 (by omega)).2 0 (by decide)
    have hspot : a.spot = none := by
      unfold World.cell? Addr.add at h00
      simp only [Nat.zero_mul, Nat.add_zero, if_true] at h00
      cases hs : a.spot with
      | none => rfl
      | some x => rw [hs] at h00; simp at h00; split at h00 <;> simp at h00
    obtain ⟨ab, ao, sp⟩ := a
    simp only at hspot
    subst hspot
    refine ⟨ab, ao, rfl, ?_, fun j hj => ?_⟩
    · unfold World.cell? at h00
      apply Classical.byContradiction
      intro hge
      rw [show W.heap[(Addr.add ⟨ab, ao, none⟩ (0 * 5 + 0)).block]? = none from by
        simp only [Addr.add, Nat.zero_mul, Nat.add_zero, if_true]
        exact Array.getElem?_eq_none (Nat.not_lt.1 hge)] at h00
      cases h00
    · rw [← (hC i hil).2 j hj]
      unfold Addr.add
      by_cases e : i * 5 + j = 0
      · rw [if_pos e, show ao + i * 5 + j = ao by omega]
      · rw [if_neg e]
        show _ = W.cell? ⟨ab, ao + (i * 5 + j), none⟩
        rw [Nat.add_assoc]
end

end Go.Proofs.YtmdfpknhfkgfoaaDoor


/- The walks of law24's straight statements. Printed by genline.py. -/
namespace Go.Proofs.YtmdfpknhfkgfoaaDoor
open Go.RowKit Go.Shelf

theorem pick24_quiet (c : Int) (n : Nat) (w : World) (h0 : 0 < n) (h1 : n ≤ 10000000000) (hlo : -9223372036854775808 ≤ c) (hhi : c ≤ 9223372036854775807) :
    Calls Tryd.prog 16 #[.int .i64 c, .int .i64 n] w fun e w' => e = .returned (.int .i64 (pkN c n : Nat)) ∧ w' = w :=
  (pick24_any c n w h0 h1 hlo hhi).mono fun _ _ h => ⟨h.1, h.2.symm⟩

theorem pactive_is (B : Nat) (β : Int × Int → Nat) (S : PS) (v : Value) (w : World) (hS : IsPS B β S v w) (l r : Int) (h : S.act = (l, r)) :
    Calls Tryd.prog 23 #[.pointer (some ⟨B, 0, none⟩)] w (SomeB (.tuple #[.int .i64 l, .int .i64 r]) w) := by
  have h1 := pactive_any B β S v w hS
  rw [h] at h1
  exact h1

set_option maxRecDepth 100000 in
set_option maxHeartbeats 1600000 in
theorem nil_any (aA aP : Addr) (c : Call24) (w : World) (hE : Errs aA aP w) (hc : c.ok) :
    Calls Tryd.prog 10 #[c.val] w (SomeB (.bool true) w) := by
  have HE := Lib.hid hE; clear hE
  have HC := Lib.hid hc
  have hl := hc.later
  have HD := fun now W hb => don_any aA aP now c W (HE.out.below hb) HC.out
  clear hc
  have HD := Lib.hid HD
  go_enter Tryd.func10, Tryd.ntmps10
  go_wp2_with (fail)
  refine (sane24_any aA aP _ (HE.out.below ((Below.refl _ w).alloc (Nat.le_refl _) _))).mono ?_
  rintro e w0 ⟨rfl, hb0⟩
  have HB0 : Hid (Below w.heap.size w w0) := ((Below.refl _ w).alloc (Nat.le_refl _) _).trans (hb0.mono ((Below.refl _ w).alloc (Nat.le_refl _) _).size)
  have HF0 : Hid (w0.heap[w.heap.size]? = some (.cells c.cells 45 (0, 0))) := (hb0.block _ (by simp)).trans (heap_alloc_new w _)
  clear hb0
  go_wp2_with (fail)
  refine (active_nil _).mono ?_
  rintro e w1 ⟨rfl, hb⟩
  have HB1 := Lib.hid (HB0.out.trans (hb.mono HB0.out.size))
  have HF1 := Lib.hid ((hb.block _ (heap_lt HF0.out)).trans HF0.out); clear hb HB0 HF0
  have c0 := cell_of_heap HF1.out 0
  have c1 := cell_of_heap HF1.out 1
  have c2 := cell_of_heap HF1.out 2
  have c3 := cell_of_heap HF1.out 3
  have c4 := cell_of_heap HF1.out 4
  go_wp2
  refine wp_region_still_tail 5 (by kernel_rfl) (by kernel_rfl) ?_
  simp only [List.take_succ_cons, List.take_zero, List.drop_succ_cons, List.drop_zero]
  repeat still_step
  still_call (pick24_quiet c.later 100 _ (by decide) (by decide) hl.1 hl.2)
  repeat still_step
  refine wpStill_nil ?_
  go_wp2_with (fail)
  refine (HD.out _ _ (HB1.out.trans (((below_drewN w1 1).mono HB1.out.size)))).mono ?_
  rintro e w2 ⟨rfl, hb⟩
  have HB2 := Lib.hid (HB1.out.trans (((below_drewN w1 1).trans hb).mono HB1.out.size))
  have HF2 := Lib.hid ((hb.block _ (heap_lt HF1.out)).trans HF1.out); clear hb HB1 HF1
  clear c0 c1 c2 c3 c4
  have c0 := cell_of_heap HF2.out 0
  have fin : ∀ W, Below w.heap.size w W → Calls Tryd.prog 19 #[.pointer none, .int .i64 100, .int .i64 1] W (SomeB (.bool false) W) := fun W hb => valid_nil aA aP 100 1 W (HE.out.below hb)
  have fin2 : ∀ W, Below w.heap.size w W → Calls Tryd.prog 28 #[.pointer none, .int .i64 100, .int .i64 1, .int .i64 0] W (SomeB (.bool false) W) := fun W hb => allows_nil aA aP 100 1 0 W (HE.out.below hb)
  have HV := Lib.hid fin
  have HW := Lib.hid fin2
  clear fin fin2
  have hk : c.kind = 3 ∨ c.kind = 6 ∨ (c.kind ≠ 3 ∧ c.kind ≠ 6) := by omega
  rcases hk with hk | hk | hk
  · have hn : nilOf c.kind = 0 := if_pos (.inl hk)
    have q3 : ((c.kind : Int) == 3) = true := by rw [hk]; rfl
    rw [hn]
    clear hn hk
    go_wp2_with (fail)
    refine (len_nil _).mono ?_
    rintro e w3 ⟨rfl, hb⟩
    have HB3 := Lib.hid (HB2.out.trans (hb.mono HB2.out.size)); clear hb HB2
    go_wp2_with (fail)
    refine (HV.out _ HB3.out).mono ?_
    rintro e w4 ⟨rfl, hb⟩
    have HB4 := Lib.hid (HB3.out.trans (hb.mono HB3.out.size)); clear hb HB3
    go_wp2_with (fail)
    refine (HW.out _ HB4.out).mono ?_
    rintro e w5 ⟨rfl, hb⟩
    have HB5 := Lib.hid (HB4.out.trans (hb.mono HB4.out.size)); clear hb HB4
    go_wp2
    go_ret
    exact ⟨rfl, HB5.out⟩
  · have hn : nilOf c.kind = 0 := if_pos (.inr hk)
    have q3 : ((c.kind : Int) == 3) = false := by rw [hk]; rfl
    have q6 : ((c.kind : Int) == 6) = true := by rw [hk]; rfl
    rw [hn]
    clear hn hk
    go_wp2_with (fail)
    refine (len_nil _).mono ?_
    rintro e w3 ⟨rfl, hb⟩
    have HB3 := Lib.hid (HB2.out.trans (hb.mono HB2.out.size)); clear hb HB2
    go_wp2_with (fail)
    refine (HV.out _ HB3.out).mono ?_
    rintro e w4 ⟨rfl, hb⟩
    have HB4 := Lib.hid (HB3.out.trans (hb.mono HB3.out.size)); clear hb HB3
    go_wp2_with (fail)
    refine (HW.out _ HB4.out).mono ?_
    rintro e w5 ⟨rfl, hb⟩
    have HB5 := Lib.hid (HB4.out.trans (hb.mono HB4.out.size)); clear hb HB4
    go_wp2
    go_ret
    exact ⟨rfl, HB5.out⟩
  · have hn : nilOf c.kind = 1 := if_neg (by omega)
    rw [hn]
    clear hn hk
    go_wp2_with (fail)
    refine (len_nil _).mono ?_
    rintro e w3 ⟨rfl, hb⟩
    have HB3 := Lib.hid (HB2.out.trans (hb.mono HB2.out.size)); clear hb HB2
    go_wp2_with (fail)
    refine (HV.out _ HB3.out).mono ?_
    rintro e w4 ⟨rfl, hb⟩
    have HB4 := Lib.hid (HB3.out.trans (hb.mono HB3.out.size)); clear hb HB3
    go_wp2_with (fail)
    refine (HW.out _ HB4.out).mono ?_
    rintro e w5 ⟨rfl, hb⟩
    have HB5 := Lib.hid (HB4.out.trans (hb.mono HB4.out.size)); clear hb HB4
    go_wp2
    go_ret
    exact ⟨rfl, HB5.out⟩

set_option maxRecDepth 100000 in
set_option maxHeartbeats 8000000 in
theorem independent_any (aA aP : Addr) (a b n m : Int) (vd : Bool) (w : World) (hE : Errs aA aP w) (ha : in63 a) (hb : in63 b) (hn : in63 n) (hm : in63 m) :
    Calls Tryd.prog 9 #[.int .i64 a, .int .i64 b, .int .i64 n, .int .i64 m, .bool vd] w (SomeB (.bool true) w) := by
  have HE := Lib.hid hE; clear hE
  go_enter Tryd.func9, Tryd.ntmps9
  go_wp2_with (fail)
  refine (sane24_any aA aP w HE.out).mono ?_
  rintro e w0 ⟨rfl, hb0⟩
  have HB0 := Lib.hid hb0; clear hb0
  go_wp2_with (fail)
  refine (pick24_any a 500 _ (by decide) (by decide) ha.1 ha.2).mono ?_
  rintro e w1 ⟨rfl, rfl⟩
  have hpa := pkN_lt a 500 (by decide)
  generalize pkN a 500 = pa at *
  go_wp2_with (fail)
  refine (pick24_any b 500 _ (by decide) (by decide) hb.1 hb.2).mono ?_
  rintro e w1 ⟨rfl, rfl⟩
  have hpb := pkN_lt b 500 (by decide)
  generalize pkN b 500 = pb at *
  go_wp2_with (fail)
  refine (pick24_any n 1000 _ (by decide) (by decide) hn.1 hn.2).mono ?_
  rintro e w1 ⟨rfl, rfl⟩
  have hpn := pkN_lt n 1000 (by decide)
  generalize pkN n 1000 = pn at *
  go_wp2_with (fail)
  refine (pick24_any m 3001 _ (by decide) (by decide) hm.1 hm.2).mono ?_
  rintro e w1 ⟨rfl, rfl⟩
  have hpm := pkN_lt m 3001 (by decide)
  generalize pkN m 3001 = pm at *
  have HI : Hid ((2 ≤ 2 + (pa : Int) ∧ 2 + (pa : Int) ≤ 501) ∧ (502 ≤ 502 + (pb : Int) ∧ 502 + (pb : Int) ≤ 1001) ∧ (0 ≤ (pn : Int) ∧ (pn : Int) ≤ 999) ∧ (0 ≤ (pm : Int) ∧ (pm : Int) ≤ 3000)) := ⟨by omega, by omega, by omega, by omega⟩
  go_wp2_with (fail)
  refine (pnew_yes 100 1 true _ rfl).mono ?_
  rintro e w1 ⟨B, β1, v1, rfl, hA⟩
  have HA1 := Lib.hid (hA.base_mono HB0.out); clear hA HB0
  go_wp2_with (fail)
  refine (received_any aA aP w B β1 _ v1 1 100 (2 + (pa : Int)) (pn : Int) _ HE.out HA1.out (by intro k hk; cases hk) (by intro e he; simp [PS1] at he; subst he; intro h; show (0 : Int) + _ ≤ _; omega)).mono ?_
  rintro e w2 h
  rw [in_recv1 HI.out.1 HI.out.2.2.1] at h
  obtain ⟨rfl, β2, v2, hA⟩ := turn_of h
  have HA2 := Lib.hid hA; clear hA h HA1
  go_wp2_with (fail)
  refine (allows_any aA aP w B β2 _ v2 100 (2 + (pa : Int)) (pm : Int) _ (HE.out.below HA2.out.below) HA2.out).mono ?_
  rintro e w3 ⟨rfl, hb⟩
  rw [in_alw HI.out.1 HI.out.2.2.2]
  have HA3 := Lib.hid (HA2.out.of_below hb); clear hb HA2
  have Hq : Hid (decide ((pm : Int) ≤ 3 * (pn : Int)) = decide ((pm : Int) ≤ 3 * (pn : Int))) := rfl
  go_wp2_with (fail)
  refine (received_any aA aP w B β2 _ v2 2 100 (502 + (pb : Int)) 1000 _ HE.out HA3.out (by intro k hk; cases hk) (by intro e he; simp [inA] at he; rcases he with rfl | rfl <;> intro h <;> simp <;> omega)).mono ?_
  rintro e w4 h
  rw [in_recv2 HI.out.1 HI.out.2.1] at h
  obtain ⟨rfl, β4, v4, hA⟩ := turn_of h
  have HA4 := Lib.hid hA; clear hA h HA3
  go_wp2_with (fail)
  refine (sent_any aA aP w B β4 _ v4 100 (502 + (pb : Int)) 3000 _ (HE.out.below HA4.out.below) HA4.out (by intro e he; simp [inS] at he; rcases he with rfl | rfl | rfl <;> simp)).mono ?_
  rintro e w5 h
  rw [in_sent HI.out.1 HI.out.2.1] at h
  obtain ⟨rfl, β5, v5, hA⟩ := turn_of h
  have HA5 := Lib.hid hA; clear hA h HA4
  cases vd
  · go_wp2_with (fail)
    refine (allows_any aA aP w B β5 _ v5 100 (2 + (pa : Int)) (pm : Int) _ (HE.out.below HA5.out.below) HA5.out).mono ?_
    rintro e w6 ⟨rfl, hb⟩
    rw [in_alw2 HI.out.1 HI.out.2.2.2]
    have HA6 := Lib.hid (HA5.out.of_below hb); clear hb HA5
    have w3 : IntKind.i64.wrap (3 * (pn : Int)) = 3 * (pn : Int) := IntWalk.i64_in _ (by omega)
    go_wp2_with (fail)
    refine (valid_any aA aP B β5 _ v5 100 (2 + (pa : Int)) _ (HE.out.below HA6.out.below) HA6.out.is).mono ?_
    rintro e w7 ⟨rfl, hb⟩
    rw [in_val HI.out.1]
    have HA7 := Lib.hid (HA6.out.of_below hb); clear hb HA6
    go_wp2_with (fail)
    refine (allows_any aA aP w B β5 _ v5 100 (502 + (pb : Int)) 1 _ (HE.out.below HA7.out.below) HA7.out).mono ?_
    rintro e w8 ⟨rfl, hb⟩
    rw [in_alw3 HI.out.1 HI.out.2.1]
    have HA8 := Lib.hid (HA7.out.of_below hb); clear hb HA7
    go_wp2
    go_ret
    exact ⟨rfl, HA8.out.below⟩
  · go_wp2_with (fail)
    refine (validate_any aA aP w B β5 _ v5 100 (502 + (pb : Int)) _ (HE.out.below HA5.out.below) HA5.out).mono ?_
    rintro e w6 h
    rw [in_vld HI.out.1 HI.out.2.1] at h
    obtain ⟨rfl, β6, v6, hA⟩ := turn_of h
    have HA6 := Lib.hid hA; clear hA h HA5
    go_wp2_with (fail)
    refine (allows_any aA aP w B β6 _ v6 100 (2 + (pa : Int)) (pm : Int) _ (HE.out.below HA6.out.below) HA6.out).mono ?_
    rintro e w7 ⟨rfl, hb⟩
    rw [in_alw2 HI.out.1 HI.out.2.2.2]
    have HA7 := Lib.hid (HA6.out.of_below hb); clear hb HA6
    have w3 : IntKind.i64.wrap (3 * (pn : Int)) = 3 * (pn : Int) := IntWalk.i64_in _ (by omega)
    go_wp2_with (fail)
    refine (valid_any aA aP B β6 _ v6 100 (2 + (pa : Int)) _ (HE.out.below HA7.out.below) HA7.out.is).mono ?_
    rintro e w8 ⟨rfl, hb⟩
    rw [in_val HI.out.1]
    have HA8 := Lib.hid (HA7.out.of_below hb); clear hb HA7
    go_wp2_with (fail)
    refine (allows_any aA aP w B β6 _ v6 100 (502 + (pb : Int)) 1 _ (HE.out.below HA8.out.below) HA8.out).mono ?_
    rintro e w9 ⟨rfl, hb⟩
    rw [in_alw3 HI.out.1 HI.out.2.1]
    have HA9 := Lib.hid (HA8.out.of_below hb); clear hb HA8
    go_wp2
    go_ret
    exact ⟨rfl, HA9.out.below⟩

set_option maxRecDepth 100000 in
set_option maxHeartbeats 8000000 in
theorem fallback_any (aA aP : Addr) (a b now later : Int) (ans : Bool) (w : World) (hE : Errs aA aP w) (ha : in63 a) (hb : in63 b) (hnow : in63 now) (hlater : in63 later) :
    Calls Tryd.prog 4 #[.int .i64 a, .int .i64 b, .int .i64 now, .int .i64 later, .bool ans] w (SomeB (.bool true) w) := by
  have HE := Lib.hid hE; clear hE
  go_enter Tryd.func4, Tryd.ntmps4
  go_wp2_with (fail)
  refine (sane24_any aA aP w HE.out).mono ?_
  rintro e w0 ⟨rfl, hb0⟩
  have HB0 := Lib.hid hb0; clear hb0
  go_wp2_with (fail)
  refine (pick24_any a 1000 _ (by decide) (by decide) ha.1 ha.2).mono ?_
  rintro e w1 ⟨rfl, rfl⟩
  have hpa := pkN_lt a 1000 (by decide)
  generalize pkN a 1000 = pa at *
  go_wp2_with (fail)
  refine (pick24_any b 1000 _ (by decide) (by decide) hb.1 hb.2).mono ?_
  rintro e w1 ⟨rfl, rfl⟩
  have hpb := pkN_lt b 1000 (by decide)
  generalize pkN b 1000 = pb at *
  go_wp2_with (fail)
  refine (pick24_any now 1000000 _ (by decide) (by decide) hnow.1 hnow.2).mono ?_
  rintro e w1 ⟨rfl, rfl⟩
  have hpnow := pkN_lt now 1000000 (by decide)
  generalize pkN now 1000000 = pn at *
  go_wp2_with (fail)
  refine (pick24_any later 400 _ (by decide) (by decide) hlater.1 hlater.2).mono ?_
  rintro e w1 ⟨rfl, rfl⟩
  have hplater := pkN_lt later 400 (by decide)
  generalize pkN later 400 = pl at *
  have HI : Hid ((1 ≤ 1 + (pa : Int) ∧ 1 + (pa : Int) ≤ 1000) ∧ (1001 ≤ 1001 + (pb : Int) ∧ 1001 + (pb : Int) ≤ 2000) ∧ (0 ≤ (pn : Int) ∧ (pn : Int) ≤ 999999) ∧ (0 ≤ (pl : Int) ∧ (pl : Int) ≤ 399)) := ⟨by omega, by omega, by omega, by omega⟩
  go_wp2_with (fail)
  refine (pnew_yes (1 + (pa : Int)) 7 true _ (by unfold addrsOk; rw [within_yes (by omega) (by omega)]; rfl)).mono ?_
  rintro e w1 ⟨B, β1, v1, rfl, hA⟩
  have HA1 := Lib.hid (hA.base_mono HB0.out); clear hA HB0
  go_wp2_with (fail)
  refine (received_any aA aP w B β1 _ v1 (pn : Int) (1001 + (pb : Int)) 7 50 _ HE.out HA1.out (by intro k hk; cases hk) (by intro e he; simp [PS1] at he; subst he; intro h; show (0 : Int) + _ ≤ _; omega)).mono ?_
  rintro e w2 h
  rw [fb_recv HI.out.1 HI.out.2.1 HI.out.2.2.1] at h
  obtain ⟨rfl, β2, v2, hA⟩ := turn_of h
  have HA2 := Lib.hid hA; clear hA h HA1
  go_wp2_with (fail)
  refine (challenge_any aA aP w B β2 _ v2 (pn : Int) (1001 + (pb : Int)) 7 snA _ (HE.out.below HA2.out.below) HA2.out).mono ?_
  rintro e w3 h
  rw [fb_chal HI.out.1 HI.out.2.1 HI.out.2.2.1] at h
  obtain ⟨rfl, β3, v3, hA⟩ := turn_of h
  have HA3 := Lib.hid hA; clear hA h HA2
  go_wp2_with (fail)
  refine (migrate_any aA aP w B β3 _ v3 (1001 + (pb : Int)) 7 _ (HE.out.below HA3.out.below) HA3.out).mono ?_
  rintro e w4 h
  rw [fb_migr HI.out.1 HI.out.2.1] at h
  obtain ⟨rfl, β4, v4, hA⟩ := turn_of h
  have HA4 := Lib.hid hA; clear hA h HA3
  cases ans
  · by_cases hlt : 200 < (pl : Int)
    · have t1 : ((pl : Int) ≤ 200) = False := eq_false (by omega)
      go_wp2_with (fail)
      refine (tick_any w B β4 _ v4 ((pn : Int) + (pl : Int)) _ HA4.out).mono ?_
      rintro e w5 h
      rw [fb_tick3 HI.out.1 HI.out.2.1 (by omega)] at h
      obtain ⟨rfl, β5, v5, hA⟩ := turn_of h
      have HA5 := Lib.hid hA; clear hA h HA4
      go_wp2_with (fail)
      refine (pactive_is B β5 _ v5 _ HA5.out.is (1 + (pa : Int)) 7 rfl).mono ?_
      rintro e w6 ⟨rfl, hb⟩
      have HA6 := Lib.hid (HA5.out.of_below hb); clear hb HA5
      go_wp2_with (fail)
      refine (tick_any w B β5 _ v5 ((pn : Int) + 1000) _ HA6.out).mono ?_
      rintro e w7 h
      rw [fb_tick4] at h
      obtain ⟨rfl, β7, v7, hA⟩ := turn_of h
      have HA7 := Lib.hid hA; clear hA h HA6
      go_wp2_with (fail)
      refine (pactive_is B β7 _ v7 _ HA7.out.is (1 + (pa : Int)) 7 rfl).mono ?_
      rintro e w8 ⟨rfl, hb⟩
      have HA8 := Lib.hid (HA7.out.of_below hb); clear hb HA7
      go_wp2_with (fail)
      refine (valid_any aA aP B β7 _ v7 (1 + (pa : Int)) 7 _ (HE.out.below HA8.out.below) HA8.out.is).mono ?_
      rintro e w9 ⟨rfl, hb⟩
      rw [fb_val1]
      have HA9 := Lib.hid (HA8.out.of_below hb); clear hb HA8
      go_wp2_with (fail)
      refine (valid_any aA aP B β7 _ v7 (1001 + (pb : Int)) 7 _ (HE.out.below HA9.out.below) HA9.out.is).mono ?_
      rintro e w10 ⟨rfl, hb⟩
      rw [fb_val2 HI.out.1 HI.out.2.1]
      have HA10 := Lib.hid (HA9.out.of_below hb); clear hb HA9
      go_wp2
      go_ret
      exact ⟨rfl, HA10.out.below⟩
    · have t1 : ((pl : Int) ≤ 200) = True := eq_true (by omega)
      have t2 : ((200 : Int) < (pl : Int)) = False := eq_false (by omega)
      have t3 : ((1001 + (pb : Int)) == (1 + (pa : Int))) = false := by rw [beq_eq_false_iff_ne]; omega
      go_wp2_with (fail)
      refine (tick_any w B β4 _ v4 ((pn : Int) + (pl : Int)) _ HA4.out).mono ?_
      rintro e w5 h
      rw [fb_tick2 (by omega)] at h
      obtain ⟨rfl, β5, v5, hA⟩ := turn_of h
      have HA5 := Lib.hid hA; clear hA h HA4
      go_wp2_with (fail)
      refine (pactive_is B β5 _ v5 _ HA5.out.is (1001 + (pb : Int)) 7 rfl).mono ?_
      rintro e w6 ⟨rfl, hb⟩
      have HA6 := Lib.hid (HA5.out.of_below hb); clear hb HA5
      go_wp2_with (fail)
      refine (tick_any w B β5 _ v5 ((pn : Int) + 1000) _ HA6.out).mono ?_
      rintro e w7 h
      rw [fb_tick3 HI.out.1 HI.out.2.1 (by omega)] at h
      obtain ⟨rfl, β7, v7, hA⟩ := turn_of h
      have HA7 := Lib.hid hA; clear hA h HA6
      go_wp2_with (fail)
      refine (pactive_is B β7 _ v7 _ HA7.out.is (1 + (pa : Int)) 7 rfl).mono ?_
      rintro e w8 ⟨rfl, hb⟩
      have HA8 := Lib.hid (HA7.out.of_below hb); clear hb HA7
      go_wp2_with (fail)
      refine (valid_any aA aP B β7 _ v7 (1 + (pa : Int)) 7 _ (HE.out.below HA8.out.below) HA8.out.is).mono ?_
      rintro e w9 ⟨rfl, hb⟩
      rw [fb_val1]
      have HA9 := Lib.hid (HA8.out.of_below hb); clear hb HA8
      go_wp2_with (fail)
      refine (valid_any aA aP B β7 _ v7 (1001 + (pb : Int)) 7 _ (HE.out.below HA9.out.below) HA9.out.is).mono ?_
      rintro e w10 ⟨rfl, hb⟩
      rw [fb_val2 HI.out.1 HI.out.2.1]
      have HA10 := Lib.hid (HA9.out.of_below hb); clear hb HA9
      go_wp2
      go_ret
      exact ⟨rfl, HA10.out.below⟩
  · go_wp2_with (fail)
    refine (respond_any aA aP w B β4 _ v4 (pn : Int) (1001 + (pb : Int)) 7 snA _ (HE.out.below HA4.out.below) HA4.out).mono ?_
    rintro e w5 h
    rw [fb_resp HI.out.1 HI.out.2.1] at h
    obtain ⟨rfl, β5, v5, hA⟩ := turn_of h
    have HA5 := Lib.hid hA; clear hA h HA4
    go_wp2_with (fail)
    refine (tick_any w B β5 _ v5 ((pn : Int) + (pl : Int)) _ HA5.out).mono ?_
    rintro e w6 h
    rw [fb_tick1] at h
    obtain ⟨rfl, β6, v6, hA⟩ := turn_of h
    have HA6 := Lib.hid hA; clear hA h HA5
    go_wp2_with (fail)
    refine (pactive_is B β6 _ v6 _ HA6.out.is (1001 + (pb : Int)) 7 rfl).mono ?_
    rintro e w7 ⟨rfl, hb⟩
    have HA7 := Lib.hid (HA6.out.of_below hb); clear hb HA6
    go_wp2_with (fail)
    refine (tick_any w B β6 _ v6 ((pn : Int) + 1000) _ HA7.out).mono ?_
    rintro e w8 h
    rw [fb_tick1] at h
    obtain ⟨rfl, β8, v8, hA⟩ := turn_of h
    have HA8 := Lib.hid hA; clear hA h HA7
    go_wp2_with (fail)
    refine (pactive_is B β8 _ v8 _ HA8.out.is (1001 + (pb : Int)) 7 rfl).mono ?_
    rintro e w9 ⟨rfl, hb⟩
    have HA9 := Lib.hid (HA8.out.of_below hb); clear hb HA8
    go_wp2
    go_ret
    exact ⟨rfl, HA9.out.below⟩

end Go.Proofs.YtmdfpknhfkgfoaaDoor


/- What the laid variables give a walk of law24; a world that meets the condition. -/
namespace Go.Proofs.YtmdfpknhfkgfoaaDoor
open Go.ChangeShapes Go.WideShapes Go.ChangeAt Go.RowKit

theorem own24 : ownKnob Tryd.prog.godebug = none := by kernel_rfl
theorem laidOut24 : laidOutB Tryd.prog = true := by kernel_rfl
theorem gArg24 : Tryd.prog.globalNamed "peregrine/path.errArgument" = some 1 := by kernel_rfl
theorem gPth24 : Tryd.prog.globalNamed "peregrine/path.errPath" = some 0 := by kernel_rfl
theorem tArg24 : (Tryd.prog.globals[1]?).map (·.type) = some 102 := by kernel_rfl
theorem tPth24 : (Tryd.prog.globals[0]?).map (·.type) = some 102 := by kernel_rfl
theorem star24 : "*" ++ "errors.errorString" = "*errors.errorString" := by decide
theorem rowErr24 (u : TypeId) (h : Tryd.prog.typeName? 3 u = some "*errors.errorString") : u = 174 :=
  typeName_ptr_named (nm := "errors.errorString") (by rw [star24]; kernel_rfl) (by kernel_rfl) (by decide) u (by rw [star24]; exact h)

def laid24 : List (String × DataW Unit) := [("peregrine/path.errArgument", Rows.laid_peregrine_path_errArgument), ("peregrine/path.errPath", Rows.laid_peregrine_path_errPath)]

theorem errs_of_laid {W : World} (h : laidMetH Tryd.prog laid24 W) : ∃ aA aP, Errs aA aP W := by
  rw [MakeChecks.laidMetH_plain _ _ _ (by kernel_rfl)] at h
  obtain ⟨a0, a1, s0, s1, c0, c1, t0, t1, hv0, hv1, _, _, _, _, _, _, hne, hb0, hb1⟩ := laid_sentinels2 h gArg24 tArg24 gPth24 tPth24 Tryd.underlying102 rowErr24 Tryd.underlying174 Tryd.underlying199 rfl rfl Tryd.underlying9 (by kernel_rfl) (by kernel_rfl)
  have h1 : W.cell? ⟨1, 0, none⟩ = some (.iface 174 (.pointer (some a0))) := by simpa using World.var?_cell gArg24 hv0 0
  have h0 : W.cell? ⟨0, 0, none⟩ = some (.iface 174 (.pointer (some a1))) := by simpa using World.var?_cell gPth24 hv1 0
  refine ⟨a0, a1, h1, h0, hne, ⟨c0, t0, hb0⟩, ⟨c1, t1, hb1⟩, ?_⟩
  apply Classical.byContradiction
  intro hlt
  unfold World.cell? at h1
  rw [show W.heap[(⟨1, 0, none⟩ : Addr).block]? = none from Array.getElem?_eq_none (by show W.heap.size ≤ 1; omega)] at h1
  cases h1

/-- The heap that the door's own run leaves meets the condition. -/
theorem door_met24 (os : Os) (args : Array Value) : laidMetH Tryd.prog laid24 ((World.doorLaid Tryd.prog 47 os).forCall (fun _ _ => 0) ⟨#[], args, []⟩).memory :=
  laidMetH_of_parts3 (fuel := 8) (laidMet_of_run' 8 (by kernel_rfl) (by kernel_rfl)) (by kernel_rfl) (by kernel_rfl)

section
variable {H : Type} {enc : TypeId × Value → H}
set_option maxRecDepth 100000 in
/-- A call handed over as a value. -/
theorem open_one24 {W : World} {r : Reach} {b0 : Nat} {v : Value} {d : DataW H} {p : List MemPlace} (hv : Value.okWide Tryd.prog W r b0 45 v)
    (h : DataW.Trod enc Tryd.prog W 0 (fun _ => true) true 45 v d p) : ∃ C : Call24, C.ok ∧ v = C.val := by
  obtain ⟨cs, rfl, hsz⟩ := okWide_struct Tryd.underlying45 hv
  obtain ⟨fuel, hf⟩ := h
  obtain ⟨C, hok, hl, hc⟩ := open_call24 hf
  refine ⟨C, hok, ?_⟩
  have hl' : cs.toList.length = 5 := hl
  have hc' : ∀ j, j < 5 → cs.toList[j]? = C.cells[j]? := hc
  have : cs = C.cells := by
    apply Array.ext (by simpa using hl')
    intro i h1 h2
    have h5 : i < 5 := by simpa using h2
    have := hc' i h5
    rw [Array.getElem?_toList, Array.getElem?_eq_getElem h1, Array.getElem?_eq_getElem h2] at this
    exact Option.some.inj this
  rw [this]
end
end Go.Proofs.YtmdfpknhfkgfoaaDoor


