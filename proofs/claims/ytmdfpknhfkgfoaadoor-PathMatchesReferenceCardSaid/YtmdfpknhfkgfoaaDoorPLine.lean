/- law24's straight statements: what they compute on the model. No walk. -/
import Derived.Test.YtmdfpknhfkgfoaaDoorPGood
namespace Go.Proofs.YtmdfpknhfkgfoaaDoor
open Go.RowKit Go.Shelf

theorem pair_ne_r {l a b : Int} (h : a ≠ b) : ¬ ((l, a) = (l, b)) := fun e => h (by injection e)
theorem pair_ne_l {r a b : Int} (h : a ≠ b) : ¬ ((a, r) = (b, r)) := fun e => h (by injection e)

theorem upd2 {e1 e2 : PE} {k : Int × Int} {f : PE → PE} {act : Int × Int} {prev : Option (Int × Int)} (h1 : e1.key ≠ k) (h2 : e2.key = k) : (PS.mk [e1, e2] act prev).upd k f = ⟨[e1, f e2], act, prev⟩ := by
  unfold PS.upd
  simp only [List.map_cons, List.map_nil]
  rw [if_neg h1, if_pos h2]
theorem upd3 {e1 e2 e3 : PE} {k : Int × Int} {f : PE → PE} {act : Int × Int} {prev : Option (Int × Int)} (h1 : e1.key ≠ k) (h2 : e2.key ≠ k) (h3 : e3.key = k) : (PS.mk [e1, e2, e3] act prev).upd k f = ⟨[e1, e2, f e3], act, prev⟩ := by
  unfold PS.upd
  simp only [List.map_cons, List.map_nil]
  rw [if_neg h1, if_neg h2, if_pos h3]

/-! ### PathIndependent -/
abbrev ini : PE := ⟨100, 1, ⟨#[]⟩, 0, 0, 0, true⟩
def inA (a n : Int) : PS := ⟨[ini, ⟨100, a, ⟨#[]⟩, 0, n, 0, false⟩], (100, 1), none⟩
def inS (a b n s : Int) (ok : Bool) : PS := ⟨[ini, ⟨100, a, ⟨#[]⟩, 0, n, 0, false⟩, ⟨100, b, ⟨#[]⟩, 0, 1000, s, ok⟩], (100, 1), none⟩

section
variable {a b n m : Int} (ha : 2 ≤ a ∧ a ≤ 501) (hb : 502 ≤ b ∧ b ≤ 1001) (hn : 0 ≤ n ∧ n ≤ 999) (hm : 0 ≤ m ∧ m ≤ 3000)
include ha hn in
theorem in_recv1 : (PS1 100 1 true).received 1 100 a n = (0, inA a n) := by
  have h1 : recvOk 1 100 a n = true := by
    unfold recvOk addrsOk
    rw [within_yes (by omega) (by omega), within_yes (by omega) (by omega), within_yes (by omega) (by omega), within_yes (by omega) (by omega)]; rfl
  have h2 : (PS1 100 1 true).get (100, a) = none := by rw [get_PS1, if_neg (pair_ne_r (by omega))]
  unfold PS.received
  rw [if_pos h1, h2]
  rfl
include ha in
theorem inA_a : (inA a n).get (100, a) = some ⟨100, a, ⟨#[]⟩, 0, n, 0, false⟩ := by
  unfold PS.get inA
  simp only
  rw [List.find?_cons_of_neg (by simp [PE.key]; omega), List.find?_cons_of_pos (by simp [PE.key])]
include ha hb in
theorem inA_b : (inA a n).get (100, b) = none := by
  unfold PS.get inA
  simp only
  rw [List.find?_cons_of_neg (by simp [PE.key]; omega), List.find?_cons_of_neg (by simp [PE.key]; omega)]
  rfl
include ha in
theorem inS_a {s : Int} {ok : Bool} : (inS a b n s ok).get (100, a) = some ⟨100, a, ⟨#[]⟩, 0, n, 0, false⟩ := by
  unfold PS.get inS
  simp only
  rw [List.find?_cons_of_neg (by simp [PE.key]; omega), List.find?_cons_of_pos (by simp [PE.key])]
include ha hb in
theorem inS_b {s : Int} {ok : Bool} : (inS a b n s ok).get (100, b) = some ⟨100, b, ⟨#[]⟩, 0, 1000, s, ok⟩ := by
  unfold PS.get inS
  simp only
  rw [List.find?_cons_of_neg (by simp [PE.key]; omega), List.find?_cons_of_neg (by simp [PE.key]; omega), List.find?_cons_of_pos (by simp [PE.key])]
include ha hm in
theorem in_alw : (inA a n).allows (100, a) m = decide (m ≤ 3 * n) := by
  unfold PS.allows
  rw [inA_a ha]
  show (within 0 65536 m && (false || decide (0 + m ≤ 3 * n))) = _
  rw [within_yes (by omega) (by omega), Bool.true_and, Bool.false_or, Int.zero_add]
include ha hm in
theorem in_alw2 {s : Int} {ok : Bool} : (inS a b n s ok).allows (100, a) m = decide (m ≤ 3 * n) := by
  unfold PS.allows
  rw [inS_a ha]
  show (within 0 65536 m && (false || decide (0 + m ≤ 3 * n))) = _
  rw [within_yes (by omega) (by omega), Bool.true_and, Bool.false_or, Int.zero_add]
include ha hb in
theorem in_recv2 : (inA a n).received 2 100 b 1000 = (0, inS a b n 0 false) := by
  have h1 : recvOk 2 100 b 1000 = true := by
    unfold recvOk addrsOk
    rw [within_yes (by omega) (by omega), within_yes (by omega) (by omega), within_yes (by omega) (by omega), within_yes (by omega) (by omega)]; rfl
  unfold PS.received
  rw [if_pos h1, inA_b ha hb]
  rfl
include ha hb in
theorem inS_upd {s : Int} {ok : Bool} (f : PE → PE) (s' : Int) (ok' : Bool) (hf : f ⟨100, b, ⟨#[]⟩, 0, 1000, s, ok⟩ = ⟨100, b, ⟨#[]⟩, 0, 1000, s', ok'⟩) : (inS a b n s ok).upd (100, b) f = inS a b n s' ok' := by
  unfold inS
  refine Eq.trans (upd3 ?_ ?_ ?_) ?_
  · exact pair_ne_r (l := 100) (a := 1) (b := b) (by omega)
  · exact pair_ne_r (l := 100) (a := a) (b := b) (by omega)
  · rfl
  · rw [hf]
include ha hb in
theorem in_sent : (inS a b n 0 false).sent (100, b) 3000 = (0, inS a b n 3000 false) := by
  have h1 : (inS a b n 0 false).allows (100, b) 3000 = true := by unfold PS.allows; rw [inS_b ha hb]; rfl
  unfold PS.sent
  rw [if_neg (by decide), if_neg (by rw [h1]; decide), inS_upd ha hb _ 3000 false rfl]
include ha hb in
theorem in_vld : (inS a b n 3000 false).validate (100, b) = (0, inS a b n 3000 true) := by
  unfold PS.validate
  rw [inS_b ha hb]
  show (0, (inS a b n 3000 false).upd (100, b) PE.validate) = _
  rw [inS_upd ha hb _ 3000 true rfl]
include ha in
theorem in_val {s : Int} {ok : Bool} : (inS a b n s ok).valid (100, a) = false := by rw [valid_of (inS_a ha)]
include ha hb in
theorem in_alw3 {ok : Bool} : (inS a b n 3000 ok).allows (100, b) 1 = ok := by
  unfold PS.allows
  rw [inS_b ha hb]
  show (within 0 65536 1 && (ok || decide ((3000 : Int) + 1 ≤ 3 * 1000))) = _
  cases ok <;> rfl
end

/-! ### PathFallback -/
def fbS (a b : Int) (d : ByteArray) (t : Int) (ok : Bool) (act : Int × Int) (prev : Option (Int × Int)) : PS := ⟨[⟨a, 7, ⟨#[]⟩, 0, 0, 0, true⟩, ⟨b, 7, d, t, 50, 0, ok⟩], act, prev⟩
section
variable {a b now later : Int} (ha : 1 ≤ a ∧ a ≤ 1000) (hb : 1001 ≤ b ∧ b ≤ 2000) (hnow : 0 ≤ now ∧ now ≤ 999999) (hl : 0 ≤ later ∧ later ≤ 399)
include ha hb hnow in
theorem fb_recv : (PS1 a 7 true).received now b 7 50 = (0, fbS a b ⟨#[]⟩ 0 false (a, 7) none) := by
  have h1 : recvOk now b 7 50 = true := by
    unfold recvOk addrsOk
    rw [within_yes (by omega) (by omega), within_yes (by omega) (by omega), within_yes (by omega) (by omega), within_yes (by omega) (by omega)]; rfl
  have h2 : (PS1 a 7 true).get (b, 7) = none := by rw [get_PS1, if_neg (pair_ne_l (by omega))]
  unfold PS.received
  rw [if_pos h1, h2]
  rfl
theorem fb_a {d : ByteArray} {t : Int} {ok : Bool} {act : Int × Int} {prev : Option (Int × Int)} : (fbS a b d t ok act prev).get (a, 7) = some ⟨a, 7, ⟨#[]⟩, 0, 0, 0, true⟩ := by
  unfold PS.get fbS
  simp only
  rw [List.find?_cons_of_pos (by simp [PE.key])]
include ha hb in
theorem fb_b {d : ByteArray} {t : Int} {ok : Bool} {act : Int × Int} {prev : Option (Int × Int)} : (fbS a b d t ok act prev).get (b, 7) = some ⟨b, 7, d, t, 50, 0, ok⟩ := by
  unfold PS.get fbS
  simp only
  rw [List.find?_cons_of_neg (by simp [PE.key]; omega), List.find?_cons_of_pos (by simp [PE.key])]
include ha hb in
theorem fb_upd {d d' : ByteArray} {t t' : Int} {ok ok' : Bool} {act : Int × Int} {prev : Option (Int × Int)} (f : PE → PE) (hf : f ⟨b, 7, d, t, 50, 0, ok⟩ = ⟨b, 7, d', t', 50, 0, ok'⟩) : (fbS a b d t ok act prev).upd (b, 7) f = fbS a b d' t' ok' act prev := by
  unfold fbS
  refine Eq.trans (upd2 ?_ ?_) ?_
  · exact pair_ne_l (r := 7) (a := a) (b := b) (by omega)
  · rfl
  · rw [hf]
include ha hb hnow in
theorem fb_chal : (fbS a b ⟨#[]⟩ 0 false (a, 7) none).challenge now (b, 7) snA = (0, fbS a b snA now false (a, 7) none) := by
  unfold PS.challenge
  rw [if_neg (by rw [within_yes (by omega) (by omega)]; decide), fb_b ha hb]
  show (0, _) = _
  rw [fb_upd ha hb _ rfl]
include ha hb in
theorem fb_migr : (fbS a b snA now false (a, 7) none).migrate (b, 7) = (0, fbS a b snA now false (b, 7) (some (a, 7))) := by
  have h1 : (b, (7 : Int)) ≠ (fbS a b snA now false (a, 7) none).act := pair_ne_l (by omega)
  have h2 : (fbS a b snA now false (a, 7) none).valid (fbS a b snA now false (a, 7) none).act = true := by
    show (fbS a b snA now false (a, 7) none).valid (a, 7) = true
    rw [valid_of fb_a]
  unfold PS.migrate
  rw [fb_b ha hb]
  simp only
  rw [if_neg h1, if_pos h2]
  rfl
include ha hb in
theorem fb_resp : (fbS a b snA now false (b, 7) (some (a, 7))).respond (b, 7) snA = (true, fbS a b ⟨#[]⟩ 0 true (b, 7) (some (a, 7))) := by
  unfold PS.respond
  rw [fb_b ha hb]
  show (if (PE.mk b 7 snA now 50 0 false).idle = true ∨ snA ≠ snA then _ else _) = _
  have : (PE.mk b 7 snA now 50 0 false).idle = false := by unfold PE.idle; rw [decide_eq_false (show ¬ (snA = ⟨#[]⟩) by decide)]; rfl
  rw [if_neg (by rw [this]; simp), fb_upd ha hb _ rfl]
theorem fb_tick1 {n : Int} : (fbS a b ⟨#[]⟩ 0 true (b, 7) (some (a, 7))).tick n = (false, fbS a b ⟨#[]⟩ 0 true (b, 7) (some (a, 7))) := by
  have h1 : (fbS a b ⟨#[]⟩ 0 true (b, 7) (some (a, 7))).failed n = false := rfl
  unfold PS.tick
  rw [if_pos (.inl h1)]
  rfl
theorem fb_late {n : Int} : (PE.mk b 7 snA now 50 0 false).late n = decide (now + 200 < n) := by
  unfold PE.late PE.idle
  rw [decide_eq_false (show ¬ (snA = ⟨#[]⟩) by decide)]
  rfl
theorem fb_tick2 {n : Int} (h : n ≤ now + 200) : (fbS a b snA now false (b, 7) (some (a, 7))).tick n = (false, fbS a b snA now false (b, 7) (some (a, 7))) := by
  have h0 : (PE.mk b 7 snA now 50 0 false).late n = false := by rw [fb_late, decide_eq_false (by omega)]
  have h1 : (fbS a b snA now false (b, 7) (some (a, 7))).failed n = false := by
    unfold PS.failed fbS
    simp only [List.any_cons, List.any_nil, h0]
    rfl
  unfold PS.tick
  rw [if_pos (.inl h1)]
  unfold PS.expire fbS
  simp only [List.map_cons, List.map_nil]
  rw [show (PE.mk b 7 snA now 50 0 false).exp n = PE.mk b 7 snA now 50 0 false by unfold PE.exp; rw [h0]; rfl]
  rfl
include ha hb in
theorem fb_tick3 {n : Int} (h : now + 200 < n) : (fbS a b snA now false (b, 7) (some (a, 7))).tick n = (true, fbS a b ⟨#[]⟩ 0 false (a, 7) none) := by
  have h0 : (PE.mk b 7 snA now 50 0 false).late n = true := by rw [fb_late, decide_eq_true h]
  have h1 : (fbS a b snA now false (b, 7) (some (a, 7))).failed n = true := by
    unfold PS.failed fbS
    simp only [List.any_cons, List.any_nil, h0]
    simp [PE.key]
  have h2 : (fbS a b snA now false (b, 7) (some (a, 7))).expire n = fbS a b ⟨#[]⟩ 0 false (b, 7) (some (a, 7)) := by
    unfold PS.expire fbS
    simp only [List.map_cons, List.map_nil]
    rw [show (PE.mk b 7 snA now 50 0 false).exp n = PE.mk b 7 ⟨#[]⟩ 0 50 0 false by unfold PE.exp; rw [h0]; rfl]
    rfl
  have h3 : ((fbS a b snA now false (b, 7) (some (a, 7))).expire n).valid (b, 7) = false := by rw [h2, valid_of (fb_b ha hb)]
  unfold PS.tick
  rw [if_neg (by
    intro h4
    rcases h4 with h4 | h4
    · rw [h1] at h4; cases h4
    · have h5 : ((fbS a b snA now false (b, 7) (some (a, 7))).expire n).valid (b, 7) = true := h4
      rw [h3] at h5; cases h5), h2]
  rfl
theorem fb_tick4 {n : Int} : (fbS a b ⟨#[]⟩ 0 false (a, 7) none).tick n = (false, fbS a b ⟨#[]⟩ 0 false (a, 7) none) := by
  have h1 : (fbS a b ⟨#[]⟩ 0 false (a, 7) none).failed n = false := rfl
  unfold PS.tick
  rw [if_pos (.inl h1)]
  rfl
theorem fb_val1 : (fbS a b ⟨#[]⟩ 0 false (a, 7) none).valid (a, 7) = true := by rw [valid_of fb_a]
include ha hb in
theorem fb_val2 : (fbS a b ⟨#[]⟩ 0 false (a, 7) none).valid (b, 7) = false := by rw [valid_of (fb_b ha hb)]
end

/-! ### PathBadArguments -/
def baS (d : ByteArray) (t r : Int) : PS := ⟨[⟨100, 1, d, t, r, 0, false⟩], (100, 1), none⟩
theorem ba_1 {d : ByteArray} {t r : Int} : (baS d t r).get (100, 1) = some ⟨100, 1, d, t, r, 0, false⟩ := rfl
theorem ba_2 {d : ByteArray} {t r : Int} : (baS d t r).get (100, 2) = none := rfl
theorem ba_chal_yes {d s : ByteArray} {t r now : Int} (h1 : 0 ≤ now ∧ now ≤ 1000000000) (h2 : s.size = 8) : (baS d t r).challenge now (100, 1) s = (0, baS s now r) := by
  unfold PS.challenge
  rw [if_neg (by rw [within_yes h1.1 h1.2, h2]; decide), ba_1]
  rfl
theorem ba_chal_no {d s : ByteArray} {t r now : Int} (h : ¬ ((0 ≤ now ∧ now ≤ 1000000000) ∧ s.size = 8)) : (baS d t r).challenge now (100, 1) s = (2, baS d t r) := by
  unfold PS.challenge
  rw [if_pos (by
    by_cases hs : s.size = 8
    · exact .inl (within_no (by omega))
    · exact .inr hs)]
theorem ba_chal2 {d : ByteArray} {t r : Int} : (baS d t r).challenge 5 (100, 2) snA = (240, baS d t r) := rfl
theorem ba_sent {d : ByteArray} {t r n : Int} (hn : 0 ≤ n ∧ n ≤ 99) : (baS d t r).sent (100, 2) n = (240, baS d t r) := by
  unfold PS.sent
  rw [if_neg (by rw [within_yes (by omega) (by omega)]; decide), if_pos (by unfold PS.allows; rw [ba_2])]
theorem ba_sent2 {d : ByteArray} {t r n : Int} (hn : n < 0) : (baS d t r).sent (100, 1) n = (2, baS d t r) := by
  unfold PS.sent
  rw [if_pos (within_no (by omega))]
theorem ba_recv_yes {d : ByteArray} {t r now n : Int} (hn : 0 ≤ n ∧ n ≤ 99) (h1 : 0 ≤ now ∧ now ≤ 1000000000) : (baS d t r).received now 100 1 n = (0, baS d t (r + n)) := by
  have h2 : recvOk now 100 1 n = true := by
    unfold recvOk addrsOk
    rw [within_yes (by omega) (by omega), within_yes (by omega) (by omega), within_yes (by omega) (by omega), within_yes (by omega) (by omega)]; rfl
  unfold PS.received
  rw [if_pos h2, ba_1]
  rfl
theorem ba_recv_no {d : ByteArray} {t r now n : Int} (h1 : ¬ (0 ≤ now ∧ now ≤ 1000000000)) : (baS d t r).received now 100 1 n = (2, baS d t r) := by
  have h2 : recvOk now 100 1 n = false := by
    unfold recvOk
    rw [within_no (by omega)]; rfl
  unfold PS.received
  rw [if_neg (by rw [h2]; decide)]
theorem ba_recv2 {d : ByteArray} {t r n : Int} (hn : 0 ≤ n) : (baS d t r).received 5 100 (65536 + n) 1 = (2, baS d t r) := by
  have h2 : recvOk 5 100 (65536 + n) 1 = false := by
    unfold recvOk addrsOk
    rw [within_no (n := 65536 + n) (by omega), Bool.and_false, Bool.and_false]; rfl
  unfold PS.received
  rw [if_neg (by rw [h2]; decide)]
theorem ba_val {d : ByteArray} {t r : Int} : (baS d t r).valid (100, 1) = false := rfl

end Go.Proofs.YtmdfpknhfkgfoaaDoor
