/- The reference of law24: room. Printed by genroom.py. -/
import Derived.Test.YtmdfpknhfkgfoaaDoorPRef3
import Derived.Deep.RegionLaw
namespace Go.Proofs.YtmdfpknhfkgfoaaDoor
open Go.RowKit Go.Shelf
set_option linter.unusedVariables false

theorem rinfo_ptr : (Tryd.prog.info? 51).map (fun i => (i.zero, i.size, i.bytes)) = some (some (.pointer none), 1, 8) := by kernel_rfl

theorem rptr_ne_no (a : Addr) (w : World) : (binOp .neq 51 (.pointer (some a)) (.pointer (some a))).run Tryd.prog w = .ok (.bool false) w := by
  obtain ⟨j, hj, _⟩ := Option.map_eq_some_iff.1 rinfo_path
  have h : ∀ d : Nat, (Op.equalIn (d + 1) 51 (.pointer (some a)) (.pointer (some a))).run Tryd.prog w = .ok true w := fun d => by
    simp [Op.equalIn, run_underlying Tryd.underlying51, sizeOf, typeInfo, hj, run_sameAddr_same]
  simp only [binOp]
  simp [Op.equal, Op.maxDepth, h 9999]
theorem rptr_ne_yes {a b : Nat} {ea eb : PE} (w : World) (hne : a ≠ b) (ha : RE a ea w) (hb : RE b eb w) : (binOp .neq 51 (.pointer (some ⟨a, 0, none⟩)) (.pointer (some ⟨b, 0, none⟩))).run Tryd.prog w = .ok (.bool true) w := by
  obtain ⟨_, _, ha⟩ := ha
  obtain ⟨_, _, hb⟩ := hb
  obtain ⟨j, hj, hs⟩ := Option.map_eq_some_iff.1 rinfo_path
  have hne' : (⟨a, 0, none⟩ : Addr) ≠ ⟨b, 0, none⟩ := fun e => hne (by injection e)
  have h : ∀ d : Nat, (Op.equalIn (d + 1) 51 (.pointer (some ⟨a, 0, none⟩)) (.pointer (some ⟨b, 0, none⟩))).run Tryd.prog w = .ok false w := fun d => by
    have hsz : j.size ≠ 0 := by rw [hs]; decide
    simp [Op.equalIn, run_underlying Tryd.underlying51, sizeOf, typeInfo, hj, hsz, run_sameAddr_other w hne' ha hb]
  simp only [binOp]
  simp [Op.equal, Op.maxDepth, h 9999]
theorem rptr_ne_yesN {a b : Nat} {ea eb : PE} (w : World) (hne : a ≠ b) (ha : RE a ea w) (hb : RE b eb w) (n : Nat) : (binOp .neq 51 (.pointer (some ⟨a, 0, none⟩)) (.pointer (some ⟨b, 0, none⟩))).run Tryd.prog (w.drewN n) = .ok (.bool true) (w.drewN n) :=
  rptr_ne_yes _ hne (ha.keep rfl) (hb.keep rfl)

theorem cell_of_block {W W' : World} {b : Nat} (h : W'.heap[b]? = W.heap[b]?) (o : Nat) : W'.cell? ⟨b, o, none⟩ = W.cell? ⟨b, o, none⟩ := by
  unfold World.cell?
  simp only [h]
theorem grown_keep {W W' : World} {v : Value} (h : W.grownBy W' v.ownBlock) {b : Nat} (hb : b < W.heap.size) (hne : v.ownBlock ≠ some b) : W'.heap[b]? = W.heap[b]? := h.block b hb (fun e => hne e.symm)
/-- What the first of two appends leaves. -/
structure Mid (W0 W1 : World) (v1 : Value) (n : Nat) : Prop where
  keep : ∀ b, b < n → W1.heap[b]? = W0.heap[b]?
  new : ∀ b, v1.ownBlock = some b → n ≤ b
  below : Below n W0 W1
  size : n ≤ W1.heap.size
theorem Mid.of {W0 W0' W1 : World} {v v1 : Value} {n : Nat} (hb : Below n W0 W0') (hn : n ≤ W0'.heap.size) (hv : ∀ b, v.ownBlock = some b → n ≤ b) (hg : W0'.grownBy W1 v.ownBlock) (ho : OldOrNew v v1 W0'.heap.size) : Mid W0 W1 v1 n :=
  ⟨fun b h => (hg.block b (Nat.lt_of_lt_of_le h hn) (fun e => absurd h (Nat.not_lt.2 (hv b e.symm)))).trans (hb.block b h), fun b h => (ho b h).elim (hv b) (fun h2 => Nat.le_trans hn h2), hb.grown hg hn (fun i e => hv i e), Nat.le_trans hn hg.size⟩

section
variable {W W1 : World} {v1 : Value} {g n : Nat} {p0 p1 p2 p3 : Value}
theorem src0 (hM : Mid W W1 v1 n) (hg : g < n) (hc : ∀ j u, ([p0, p1, p2, p3] : List Value)[j]? = some u → W.cell? ⟨g, j, none⟩ = some u) (j : Nat) (u : Value) (hu : ([p1, p2, p3] : List Value)[j]? = some u) : W1.cell? ((⟨g, 1, none⟩ : Addr).add j) = some u := by
  rw [Addr.add_mid]
  exact (cell_of_block (hM.keep g hg) _).trans (hc (1 + j) u (by rw [Nat.add_comm]; exact hu))
theorem src1 (hM : Mid W W1 v1 n) (hg : g < n) (hc : ∀ j u, ([p0, p1, p2, p3] : List Value)[j]? = some u → W.cell? ⟨g, j, none⟩ = some u) (j : Nat) (u : Value) (hu : ([p2, p3] : List Value)[j]? = some u) : W1.cell? ((⟨g, 2, none⟩ : Addr).add j) = some u := by
  rw [Addr.add_mid]
  exact (cell_of_block (hM.keep g hg) _).trans (hc (2 + j) u (by rw [Nat.add_comm]; exact hu))
theorem src2 (hM : Mid W W1 v1 n) (hg : g < n) (hc : ∀ j u, ([p0, p1, p2, p3] : List Value)[j]? = some u → W.cell? ⟨g, j, none⟩ = some u) (j : Nat) (u : Value) (hu : ([p3] : List Value)[j]? = some u) : W1.cell? ((⟨g, 3, none⟩ : Addr).add j) = some u := by
  rw [Addr.add_mid]
  exact (cell_of_block (hM.keep g hg) _).trans (hc (3 + j) u (by rw [Nat.add_comm]; exact hu))
theorem src3 (hM : Mid W W1 v1 n) (hg : g < n) (hc : ∀ j u, ([p0, p1, p2, p3] : List Value)[j]? = some u → W.cell? ⟨g, j, none⟩ = some u) (j : Nat) (u : Value) (hu : ([] : List Value)[j]? = some u) : W1.cell? ((⟨g, 4, none⟩ : Addr).add j) = some u := by
  simp at hu
end

/-- A path is taken out, the row lies anew. -/
theorem RAt.eraseAt {w0 : World} {B : Nat} {β : Int × Int → Nat} {S : PS} {v v' : Value} {W W1 W' : World} {i : Nat} {x : PE} (h : RAt w0 B β S v W) (hprev : ∀ k, S.prev = some k → S.valid k = true) (hx : S.es[i]? = some x) (hc : S.cand x = true) (h4 : S.es.length = 4)
    (hnew : ∀ b, v'.ownBlock = some b → W.heap.size ≤ b)
    (hb1 : Below W.heap.size W W1) (hk : Keeps (fun b => b = B) W1 W') (hb : W'.heap[B]? = some (.cells #[v', ptrTo β S.act, prevV β S.prev] 53 (0, 0))) (hown : W'.ownsRow 0 51 1 v' 3 (ptrs β (S.es.eraseIdx i))) : RGo w0 B β S v β (S.erase i) v' W W' := by
  have h1 := h.of_below hb1
  have hi : i < S.es.length := (List.getElem?_eq_some_iff.1 hx).1
  have hlen : (S.es.eraseIdx i).length = 3 := by rw [List.length_eraseIdx_of_lt hi, h4]
  have hsub : ∀ e ∈ S.es.eraseIdx i, e ∈ S.es := fun e he => List.mem_of_mem_eraseIdx he
  simp only [PS.cand, Bool.and_eq_true, decide_eq_true_eq, Bool.not_eq_true'] at hc
  have hmem : ∀ b, POwn B β (S.erase i) v' b → POwn B β S v b ∨ W.heap.size ≤ b := fun b hb' => by
    rcases hb' with h2 | h2 | ⟨e, he, h2⟩
    · exact .inl (.inl h2)
    · exact .inr (hnew b h2)
    · exact .inl (.inr (.inr ⟨e, hsub e he, h2⟩))
  refine ⟨⟨⟨hb, ?_, fun e he => ?_, fun e he e' he' => h1.is.inj e (hsub e he) e' (hsub e' he'), keys_erase _ _ h1.is.nd, ?_, fun k hk' => ?_, ?_⟩, fun b hb' => ?_, ?_, fun e he => h.small e (hsub e he)⟩, ?_, hmem⟩
  · show W'.ownsRow _ _ _ _ (S.es.eraseIdx i).length _
    rw [hlen]; exact hown
  · have he' := hsub e he
    exact (h1.is.ent e he').keep (hk.block _ (h1.is.ent e he').lt (h1.is.ne_ent he'))
  · obtain ⟨e, he, hke⟩ := h.is.act
    exact ⟨e, erase_mem hx he (fun h2 => hc.1 (by rw [← h2]; exact hke)), hke⟩
  · have hval := hprev k hk'
    unfold PS.valid at hval
    cases hg : S.get k with
    | none => rw [hg] at hval; cases hval
    | some e =>
      rw [hg] at hval
      change e.ok = true at hval
      obtain ⟨hm, hke⟩ := PS.get_mem hg
      refine ⟨e, erase_mem hx hm (fun h2 => ?_), hke⟩
      rw [h2, hc.2] at hval
      cases hval
  · show (S.es.eraseIdx i).length ≤ 4
    omega
  · rcases hmem b hb' with h2 | h2
    · exact h.base b h2
    · exact Nat.le_trans h.below.size h2
  · exact hk.below h1.below (fun b e => by rw [e]; exact h.base _ (.inl rfl)) h1.below.size
  · exact (Keeps.of_below hb1).then hk (fun b _ e => .inl e)

def RRoomPost (w0 : World) (B : Nat) (β : Int × Int → Nat) (S : PS) (v : Value) (w : World) (e : Ending) (w' : World) : Prop :=
  e = .returned (.bool S.room.1) ∧ ∃ v', RGo w0 B β S v β S.room.2 v' w w'

theorem four {α : Type} {l : List α} (h : l.length = 4) : ∃ a b c d, l = [a, b, c, d] := by
  match l, h with
  | [a, b, c, d], _ => exact ⟨a, b, c, d, rfl⟩

/-- No candidate among the first j. -/
def NoCand (S : PS) (j : Nat) : Prop := ∀ i y, i < j → S.es[i]? = some y → S.cand y = false
theorem NoCand.step {S : PS} {j : Nat} {e : PE} (h : NoCand S j) (he : S.es[j]? = some e) (hc : S.cand e = false) : NoCand S (j + 1) := fun i y hi hy => by
  by_cases hij : i = j
  · subst hij
    rw [he] at hy
    injection hy with hy
    subst hy
    exact hc
  · exact h i y (by omega) hy
theorem NoCand.all {S : PS} (h : NoCand S S.es.length) : ∀ x ∈ S.es, S.cand x = false := fun x hx => by
  obtain ⟨i, hi⟩ := List.mem_iff_getElem?.1 hx
  exact h i x (List.getElem?_eq_some_iff.1 hi).1 hi

set_option maxRecDepth 100000 in
set_option maxHeartbeats 8000000 in
theorem rroom_any (w0 : World) (B : Nat) (β : Int × Int → Nat) (S : PS) (v : Value) (w : World) (hS : RAt w0 B β S v w) (hprev : ∀ k, S.prev = some k → S.valid k = true) :
    Calls Tryd.prog 73 #[.pointer (some ⟨B, 0, none⟩)] w (RRoomPost w0 B β S v w) := by
  have hlen := hS.is.len
  obtain ⟨ea, hma, hka⟩ := hS.is.act
  have hpos : 1 ≤ S.es.length := List.length_pos_of_mem hma
  obtain ⟨g, cp, hv⟩ : ∃ g cp, v = .slice (some ⟨g, 0, none⟩) S.es.length cp := by
    rcases hS.is.own.2 with ⟨_, h2⟩ | ⟨g, cap, cur, hv, _⟩
    · omega
    · exact ⟨g, cap, hv⟩
  subst hv
  have c0 := cell_of_heap hS.is.blk 0
  have HS := Lib.hid hS
  have Hprev := Lib.hid hprev
  clear hS hprev hma hka
  unfold RRoomPost
  by_cases h4 : S.es.length < 4
  · have Hr := Lib.hid (show S.room = (true, S) by unfold PS.room; rw [if_pos h4])
    have h4' : (S.es.length : Int) < 4 := by omega
    rw [Hr.out]
    go_enter Tryd.func73, Tryd.ntmps73
    go_wp2
    go_ret
    exact ⟨rfl, _, HS.out.go_same (Below.refl _ _)⟩
  · have h4e : S.es.length = 4 := by omega
    have H4 := Lib.hid h4e
    have H4n := Lib.hid h4
    have hcp : 4 ≤ cp := by
      rcases HS.out.is.own.2 with ⟨h1, _⟩ | ⟨g', cap', cur, hv, _, _, hnc, _⟩
      · cases h1
      · injection hv with _ _ h3; omega
    rw [h4e] at c0 HS
    clear h4 hlen hpos h4e
    obtain ⟨X, hX⟩ : ∃ X, Hid (S.room = X) := ⟨_, rfl⟩
    rw [hX.out]
    rw [H4.out]
    go_enter Tryd.func73, Tryd.ntmps73
    go_wp2
    go_loopw [3] (fun i wr => ∃ j : Nat, j ≤ 4 ∧ i = .int .i64 j ∧ Hid (Below w.heap.size w wr) ∧ Hid (NoCand S j)) (fun i _ => 4 - (intOf i).toNat)
    case atStart => exact ⟨0, by decide, rfl, Below.refl _ _, fun i y hi => absurd hi (Nat.not_lt_zero _)⟩
    case round =>
      clear c0
      obtain ⟨j, hj, rfl, HB, HN⟩ := hrel
      have HW := Lib.hid (HS.out.of_below HB.out)
      have c0 := cell_of_heap HW.out.is.blk 0
      have c1 := cell_of_heap HW.out.is.blk 1
      have f0 := free_of_heap HW.out.is.blk 0
      by_cases hjl : j < 4
      · obtain ⟨e, he⟩ : ∃ e, Hid (S.es[j]? = some e) := ⟨_, List.getElem?_eq_getElem (by rw [H4.out]; exact hjl)⟩
        have hm : e ∈ S.es := List.mem_iff_getElem?.2 ⟨j, he.out⟩
        have hp := own_src (by have h := HW.out.is.own; rw [H4.out] at h; exact h) j (ptrTo β e.key) (by rw [List.getElem?_map, he.out]; rfl)
        simp only [Addr.add_mid, Nat.zero_add] at hp
        have HEnt := Lib.hid (HW.out.is.ent e hm)
        obtain ⟨t, _, hb⟩ := HEnt.out
        have e4 := cell_of_heap hb 4
        obtain ⟨x2, hx2⟩ := PS.get_of HW.out.is.act
        have HX2 := Lib.hid (HW.out.is.at hx2)
        have hinj : e.key ≠ S.act → β e.key ≠ β S.act := fun h h2 => h (by
          obtain ⟨hxm, hxk⟩ := PS.get_mem hx2
          rw [← hxk] at h2 ⊢
          exact HW.out.is.inj e hm x2 hxm h2)
        clear hb hm hx2
        by_cases hact : e.key = S.act
        · have heq := rptr_ne_no ⟨β e.key, 0, none⟩
          have hnc : S.cand e = false := by unfold PS.cand; rw [decide_eq_false (fun h => h hact)]; rfl
          have HN2 : Hid (NoCand S (j + 1)) := HN.out.step he.out hnc
          rw [← hact] at c1
          clear hact hinj hnc
          go_wp2
          go_quiet (fail)
          have HB2 : Hid (Below w.heap.size w (wr.drewN nq)) := HB.out.trans ((below_drewN _ _).mono HB.out.size)
          go_wp2
          go_roundw
          case rel => exact ⟨j + 1, by omega, by go_num, HB2, HN2⟩
          case measure => simp [intOf]; omega
        · have heq := rptr_ne_yesN wr (hinj hact) HEnt.out HX2.out
          cases hok : e.ok with
          | true =>
            have hnc : S.cand e = false := by unfold PS.cand; rw [hok]; simp
            have HN2 : Hid (NoCand S (j + 1)) := HN.out.step he.out hnc
            simp only [PE.rcells, hok, List.getElem?_toArray, List.getElem?_cons_succ, List.getElem?_cons_zero] at e4
            clear hact hinj hnc hok
            go_wp2
            go_quiet (fail)
            have HB2 : Hid (Below w.heap.size w (wr.drewN nq)) := HB.out.trans ((below_drewN _ _).mono HB.out.size)
            go_wp2
            go_roundw
            case rel => exact ⟨j + 1, by omega, by go_num, HB2, HN2⟩
            case measure => simp [intOf]; omega
          | false =>
            have Hc : Hid (S.cand e = true) := by unfold PS.cand; rw [decide_eq_true hact, hok]; rfl
            have Hr : Hid (S.room = (true, S.erase j)) := show _ = _ by unfold PS.room; rw [if_neg H4n.out, vic_some he.out Hc.out HN.out]
            simp only [PE.rcells, hok, List.getElem?_toArray, List.getElem?_cons_succ, List.getElem?_cons_zero] at e4
            clear hact hinj hok
            go_wp2
            go_quiet (fail)
            have HB2 : Hid (Below w.heap.size w (wr.drewN nq)) := HB.out.trans ((below_drewN _ _).mono HB.out.size)
            have HW2 := Lib.hid (HS.out.of_below HB2.out)
            generalize wr.drewN nq = W2 at *
            clear c0 c1 f0 hp e4 heq HW HB HEnt HX2
            have c0 := cell_of_heap HW2.out.is.blk 0
            have f0 := free_of_heap HW2.out.is.blk 0
            have w1 : IntKind.i64.wrap ((j : Int) + 1) = (j : Int) + 1 := IntWalk.i64_in _ (by omega)
            go_wp2
            have hgW : g < W2.heap.size := by
              rcases HW2.out.is.own.2 with ⟨h1, _⟩ | ⟨g', cap', cur, hv, _, hgb, _⟩
              · cases h1
              · have e1 : g = g' := by injection hv with h1 _ _; injection h1 with h2; injection h2
                rw [e1]; exact heap_lt hgb
            have HgW := Lib.hid hgW; clear hgW
            have HBW := Lib.hid (heap_lt HW2.out.is.blk)
            have HcB := Lib.hid c0
            obtain ⟨y0, y1, y2, y3, hes⟩ := four H4.out
            have HOwn : Hid (W2.ownsRow 0 51 1 (.slice (some ⟨g, 0, none⟩) 4 cp) 4 [ptrTo β y0.key, ptrTo β y1.key, ptrTo β y2.key, ptrTo β y3.key]) := by
              have h := HW2.out.is.own
              rw [hes] at h
              exact h
            have Hcell : Hid (∀ j u, ([ptrTo β y0.key, ptrTo β y1.key, ptrTo β y2.key, ptrTo β y3.key] : List Value)[j]? = some u → W2.cell? ⟨g, j, none⟩ = some u) := fun j u hu => by
              have := own_src HOwn.out j u hu
              simpa only [Addr.add_mid, Nat.zero_add] using this
            have HEs := Lib.hid hes; clear hes
            obtain ⟨i0, hi, hz0, hz1, hz2⟩ := info_parts rinfo_ptr
            have hj4 : j = 0 ∨ j = 1 ∨ j = 2 ∨ j = 3 := by omega
            rcases hj4 with rfl | rfl | rfl | rfl
            · clear w1
              have wk : IntKind.i64.wrap 1 = 1 := by decide
              have q1 : ¬ (cp = 1) := by omega
              have q3 : ¬ (cp = 0) := by omega
              have HE0 : Hid ((W2.alloc (.cells #[] 51)).drew.ownsRow 0 51 1 (.slice (some ⟨W2.heap.size, 0, none⟩) 0 0) 0 []) := ⟨rfl, .inr ⟨W2.heap.size, 0, #[], rfl, Nat.zero_le _, heap_alloc_new W2 _, Nat.le_refl _, by unfold maxLen; decide, rfl, rfl⟩⟩
              have HS1 : Hid (∀ j u, ([] : List Value)[j]? = some u → (W2.alloc (.cells #[] 51)).drew.cell? ((⟨g, 0, none⟩ : Addr).add j) = some u) := fun j u hu => by
                rw [Addr.add_mid, Nat.zero_add]
                exact (cell_of_block (Below.heap_alloc W2 _ g HgW.out) _).trans (Hcell.out j u (by
                  match j, hu with
                  | _ + 0, hu => simp at hu))
              have HM0 : Hid (Below W2.heap.size W2 (W2.alloc (.cells #[] 51)).drew) := ((Below.refl _ W2).alloc (Nat.le_refl _) _).drew
              have cB3 : (W2.alloc (.cells #[] 51)).cell? ⟨B, 0, none⟩ = some (.slice (some ⟨g, 0, none⟩) 4 cp) := (cell_of_block (Below.heap_alloc W2 _ B HBW.out) 0).trans c0

              go_wp2
              go_region_law (first | (refine step_append_where _ rfl (.tmp 45) (.tmp 51) 50 rfl 51 i0 (.pointer none) 1 8 Tryd.underlying50 hi hz0 hz1 hz2 rfl (by decide) _ _ _ (by first | rfl | (simp [Act.eval, Act.put]; done) | (simp [Act.eval, Act.put]; rfl)) HE0.out ⟨g, 0, none⟩ 0 cp [] (by simp [Act.eval, Act.put]) rfl HS1.out (by simp) (by unfold maxLen; omega) (by omega) ?_; intro v1 w1 hown1 hgrow1 hold1; have HM1 := Lib.hid (Mid.of HM0.out (by simp) (by intro b hb; simp [Value.ownBlock] at hb; omega) hgrow1 hold1); have HO1 := Lib.hid hown1; clear hown1 hgrow1 hold1; have cB1 := (cell_of_block (HM1.out.keep B HBW.out) 0).trans HcB.out; have HS2 : Hid (∀ j u, ([ptrTo β y1.key, ptrTo β y2.key, ptrTo β y3.key] : List Value)[j]? = some u → w1.cell? ((⟨g, 1, none⟩ : Addr).add j) = some u) := fun j u hu => src0 HM1.out HgW.out Hcell.out j u hu) | (refine step_append_where _ rfl (.tmp 52) (.tmp 59) 50 rfl 51 i0 (.pointer none) 1 8 Tryd.underlying50 hi hz0 hz1 hz2 rfl (by decide) _ _ _ (by first | rfl | (simp [Act.eval, Act.put]; done) | (simp [Act.eval, Act.put]; rfl)) HO1.out ⟨g, 1, none⟩ 3 (cp - 1) [ptrTo β y1.key, ptrTo β y2.key, ptrTo β y3.key] (by simp [Act.eval, Act.put]) rfl HS2.out (by simp [Value.oneCell', ptrTo]) (by unfold maxLen; omega) (by omega) ?_; intro v2 w2 hown2 hgrow2 hold2; obtain ⟨g2, cp2, hv2⟩ := slice_at6 hown2 (by omega); subst hv2; have HM2 := Lib.hid (Mid.of HM1.out.below HM1.out.size HM1.out.new hgrow2 hold2); have HO2 := Lib.hid hown2; clear hown2 hgrow2 hold2; have HB9 := Lib.hid ((HM2.out.keep B HBW.out).trans HW2.out.is.blk); have cB2 := cell_of_heap HB9.out 0; have fB2 := free_of_heap HB9.out 0))
              all_goals
                go_wp2
                go_ret
                rw [← hX.out, Hr.out]
                refine ⟨rfl, _, HS.out.eraseAt Hprev.out he.out Hc.out H4.out (fun b hb => Nat.le_trans HB2.out.size (HM2.out.new b hb)) (HB2.out.trans (HM2.out.below.mono HB2.out.size)) ((Keeps.refl (fun b => b = B) w2).setCell (.inl rfl)) (heap_setCell_at w2 B _ _ 0 _ HB9.out) ?_⟩
                have h9 := ownsRow_keeps HO2.out ((Keeps.refl (fun b => b = B) w2).setCell (j := 0) (v := .slice (some ⟨g2, 0, none⟩) 3 cp2) (.inl rfl)) (fun k h e => by have := HM2.out.new k h; have := HBW.out; omega)
                rw [HEs.out]
                exact h9
            · clear w1
              have wk : IntKind.i64.wrap 2 = 2 := by decide
              have q1 : ¬ (cp = 2) := by omega
              have q3 : ¬ (cp = 0) := by omega
              have q4 : 1 ≤ cp := by omega
              have q5 : (1 : Int) ≤ (cp : Int) := by omega
              have HE0 : Hid ((W2.alloc (.cells #[] 51)).drew.ownsRow 0 51 1 (.slice (some ⟨W2.heap.size, 0, none⟩) 0 0) 0 []) := ⟨rfl, .inr ⟨W2.heap.size, 0, #[], rfl, Nat.zero_le _, heap_alloc_new W2 _, Nat.le_refl _, by unfold maxLen; decide, rfl, rfl⟩⟩
              have HS1 : Hid (∀ j u, ([ptrTo β y0.key] : List Value)[j]? = some u → (W2.alloc (.cells #[] 51)).drew.cell? ((⟨g, 0, none⟩ : Addr).add j) = some u) := fun j u hu => by
                rw [Addr.add_mid, Nat.zero_add]
                exact (cell_of_block (Below.heap_alloc W2 _ g HgW.out) _).trans (Hcell.out j u (by
                  match j, hu with
                  | 0, hu => exact hu
                  | _ + 1, hu => simp at hu))
              have HM0 : Hid (Below W2.heap.size W2 (W2.alloc (.cells #[] 51)).drew) := ((Below.refl _ W2).alloc (Nat.le_refl _) _).drew
              have cB3 : (W2.alloc (.cells #[] 51)).cell? ⟨B, 0, none⟩ = some (.slice (some ⟨g, 0, none⟩) 4 cp) := (cell_of_block (Below.heap_alloc W2 _ B HBW.out) 0).trans c0

              go_wp2
              go_region_law (first | (refine step_append_where _ rfl (.tmp 45) (.tmp 51) 50 rfl 51 i0 (.pointer none) 1 8 Tryd.underlying50 hi hz0 hz1 hz2 rfl (by decide) _ _ _ (by first | rfl | (simp [Act.eval, Act.put]; done) | (simp [Act.eval, Act.put]; rfl)) HE0.out ⟨g, 0, none⟩ 1 cp [ptrTo β y0.key] (by simp [Act.eval, Act.put]) rfl HS1.out (by simp [Value.oneCell', ptrTo]) (by unfold maxLen; omega) (by omega) ?_; intro v1 w1 hown1 hgrow1 hold1; have HM1 := Lib.hid (Mid.of HM0.out (by simp) (by intro b hb; simp [Value.ownBlock] at hb; omega) hgrow1 hold1); have HO1 := Lib.hid hown1; clear hown1 hgrow1 hold1; have cB1 := (cell_of_block (HM1.out.keep B HBW.out) 0).trans HcB.out; have HS2 : Hid (∀ j u, ([ptrTo β y2.key, ptrTo β y3.key] : List Value)[j]? = some u → w1.cell? ((⟨g, 2, none⟩ : Addr).add j) = some u) := fun j u hu => src1 HM1.out HgW.out Hcell.out j u hu) | (refine step_append_where _ rfl (.tmp 52) (.tmp 59) 50 rfl 51 i0 (.pointer none) 1 8 Tryd.underlying50 hi hz0 hz1 hz2 rfl (by decide) _ _ _ (by first | rfl | (simp [Act.eval, Act.put]; done) | (simp [Act.eval, Act.put]; rfl)) HO1.out ⟨g, 2, none⟩ 2 (cp - 2) [ptrTo β y2.key, ptrTo β y3.key] (by simp [Act.eval, Act.put]) rfl HS2.out (by simp [Value.oneCell', ptrTo]) (by unfold maxLen; omega) (by omega) ?_; intro v2 w2 hown2 hgrow2 hold2; obtain ⟨g2, cp2, hv2⟩ := slice_at6 hown2 (by omega); subst hv2; have HM2 := Lib.hid (Mid.of HM1.out.below HM1.out.size HM1.out.new hgrow2 hold2); have HO2 := Lib.hid hown2; clear hown2 hgrow2 hold2; have HB9 := Lib.hid ((HM2.out.keep B HBW.out).trans HW2.out.is.blk); have cB2 := cell_of_heap HB9.out 0; have fB2 := free_of_heap HB9.out 0))
              all_goals
                go_wp2
                go_ret
                rw [← hX.out, Hr.out]
                refine ⟨rfl, _, HS.out.eraseAt Hprev.out he.out Hc.out H4.out (fun b hb => Nat.le_trans HB2.out.size (HM2.out.new b hb)) (HB2.out.trans (HM2.out.below.mono HB2.out.size)) ((Keeps.refl (fun b => b = B) w2).setCell (.inl rfl)) (heap_setCell_at w2 B _ _ 0 _ HB9.out) ?_⟩
                have h9 := ownsRow_keeps HO2.out ((Keeps.refl (fun b => b = B) w2).setCell (j := 0) (v := .slice (some ⟨g2, 0, none⟩) 3 cp2) (.inl rfl)) (fun k h e => by have := HM2.out.new k h; have := HBW.out; omega)
                rw [HEs.out]
                exact h9
            · clear w1
              have wk : IntKind.i64.wrap 3 = 3 := by decide
              have q1 : ¬ (cp = 3) := by omega
              have q3 : ¬ (cp = 0) := by omega
              have q4 : 2 ≤ cp := by omega
              have q5 : (2 : Int) ≤ (cp : Int) := by omega
              have HE0 : Hid ((W2.alloc (.cells #[] 51)).drew.ownsRow 0 51 1 (.slice (some ⟨W2.heap.size, 0, none⟩) 0 0) 0 []) := ⟨rfl, .inr ⟨W2.heap.size, 0, #[], rfl, Nat.zero_le _, heap_alloc_new W2 _, Nat.le_refl _, by unfold maxLen; decide, rfl, rfl⟩⟩
              have HS1 : Hid (∀ j u, ([ptrTo β y0.key, ptrTo β y1.key] : List Value)[j]? = some u → (W2.alloc (.cells #[] 51)).drew.cell? ((⟨g, 0, none⟩ : Addr).add j) = some u) := fun j u hu => by
                rw [Addr.add_mid, Nat.zero_add]
                exact (cell_of_block (Below.heap_alloc W2 _ g HgW.out) _).trans (Hcell.out j u (by
                  match j, hu with
                  | 0, hu => exact hu
                  | 1, hu => exact hu
                  | _ + 2, hu => simp at hu))
              have HM0 : Hid (Below W2.heap.size W2 (W2.alloc (.cells #[] 51)).drew) := ((Below.refl _ W2).alloc (Nat.le_refl _) _).drew
              have cB3 : (W2.alloc (.cells #[] 51)).cell? ⟨B, 0, none⟩ = some (.slice (some ⟨g, 0, none⟩) 4 cp) := (cell_of_block (Below.heap_alloc W2 _ B HBW.out) 0).trans c0

              go_wp2
              go_region_law (first | (refine step_append_where _ rfl (.tmp 45) (.tmp 51) 50 rfl 51 i0 (.pointer none) 1 8 Tryd.underlying50 hi hz0 hz1 hz2 rfl (by decide) _ _ _ (by first | rfl | (simp [Act.eval, Act.put]; done) | (simp [Act.eval, Act.put]; rfl)) HE0.out ⟨g, 0, none⟩ 2 cp [ptrTo β y0.key, ptrTo β y1.key] (by simp [Act.eval, Act.put]) rfl HS1.out (by simp [Value.oneCell', ptrTo]) (by unfold maxLen; omega) (by omega) ?_; intro v1 w1 hown1 hgrow1 hold1; have HM1 := Lib.hid (Mid.of HM0.out (by simp) (by intro b hb; simp [Value.ownBlock] at hb; omega) hgrow1 hold1); have HO1 := Lib.hid hown1; clear hown1 hgrow1 hold1; have cB1 := (cell_of_block (HM1.out.keep B HBW.out) 0).trans HcB.out; have HS2 : Hid (∀ j u, ([ptrTo β y3.key] : List Value)[j]? = some u → w1.cell? ((⟨g, 3, none⟩ : Addr).add j) = some u) := fun j u hu => src2 HM1.out HgW.out Hcell.out j u hu) | (refine step_append_where _ rfl (.tmp 52) (.tmp 59) 50 rfl 51 i0 (.pointer none) 1 8 Tryd.underlying50 hi hz0 hz1 hz2 rfl (by decide) _ _ _ (by first | rfl | (simp [Act.eval, Act.put]; done) | (simp [Act.eval, Act.put]; rfl)) HO1.out ⟨g, 3, none⟩ 1 (cp - 3) [ptrTo β y3.key] (by simp [Act.eval, Act.put]) rfl HS2.out (by simp [Value.oneCell', ptrTo]) (by unfold maxLen; omega) (by omega) ?_; intro v2 w2 hown2 hgrow2 hold2; obtain ⟨g2, cp2, hv2⟩ := slice_at6 hown2 (by omega); subst hv2; have HM2 := Lib.hid (Mid.of HM1.out.below HM1.out.size HM1.out.new hgrow2 hold2); have HO2 := Lib.hid hown2; clear hown2 hgrow2 hold2; have HB9 := Lib.hid ((HM2.out.keep B HBW.out).trans HW2.out.is.blk); have cB2 := cell_of_heap HB9.out 0; have fB2 := free_of_heap HB9.out 0))
              all_goals
                go_wp2
                go_ret
                rw [← hX.out, Hr.out]
                refine ⟨rfl, _, HS.out.eraseAt Hprev.out he.out Hc.out H4.out (fun b hb => Nat.le_trans HB2.out.size (HM2.out.new b hb)) (HB2.out.trans (HM2.out.below.mono HB2.out.size)) ((Keeps.refl (fun b => b = B) w2).setCell (.inl rfl)) (heap_setCell_at w2 B _ _ 0 _ HB9.out) ?_⟩
                have h9 := ownsRow_keeps HO2.out ((Keeps.refl (fun b => b = B) w2).setCell (j := 0) (v := .slice (some ⟨g2, 0, none⟩) 3 cp2) (.inl rfl)) (fun k h e => by have := HM2.out.new k h; have := HBW.out; omega)
                rw [HEs.out]
                exact h9
            · by_cases hcpx : cp = 4
              · clear w1
                have wk : IntKind.i64.wrap 4 = 4 := by decide
                subst hcpx
                have HE0 : Hid ((W2.alloc (.cells #[] 51)).drew.ownsRow 0 51 1 (.slice (some ⟨W2.heap.size, 0, none⟩) 0 0) 0 []) := ⟨rfl, .inr ⟨W2.heap.size, 0, #[], rfl, Nat.zero_le _, heap_alloc_new W2 _, Nat.le_refl _, by unfold maxLen; decide, rfl, rfl⟩⟩
                have HS1 : Hid (∀ j u, ([ptrTo β y0.key, ptrTo β y1.key, ptrTo β y2.key] : List Value)[j]? = some u → (W2.alloc (.cells #[] 51)).drew.cell? ((⟨g, 0, none⟩ : Addr).add j) = some u) := fun j u hu => by
                  rw [Addr.add_mid, Nat.zero_add]
                  exact (cell_of_block (Below.heap_alloc W2 _ g HgW.out) _).trans (Hcell.out j u (by
                    match j, hu with
                    | 0, hu => exact hu
                    | 1, hu => exact hu
                    | 2, hu => exact hu
                    | _ + 3, hu => simp at hu))
                have HM0 : Hid (Below W2.heap.size W2 (W2.alloc (.cells #[] 51)).drew) := ((Below.refl _ W2).alloc (Nat.le_refl _) _).drew
                have cB3 : (W2.alloc (.cells #[] 51)).cell? ⟨B, 0, none⟩ = some (.slice (some ⟨g, 0, none⟩) 4 4) := (cell_of_block (Below.heap_alloc W2 _ B HBW.out) 0).trans c0

                go_wp2
                go_region_law (first | (refine step_append_where _ rfl (.tmp 45) (.tmp 51) 50 rfl 51 i0 (.pointer none) 1 8 Tryd.underlying50 hi hz0 hz1 hz2 rfl (by decide) _ _ _ (by first | rfl | (simp [Act.eval, Act.put]; done) | (simp [Act.eval, Act.put]; rfl)) HE0.out ⟨g, 0, none⟩ 3 4 [ptrTo β y0.key, ptrTo β y1.key, ptrTo β y2.key] (by simp [Act.eval, Act.put]) rfl HS1.out (by simp [Value.oneCell', ptrTo]) (by unfold maxLen; omega) (by omega) ?_; intro v1 w1 hown1 hgrow1 hold1; have HM1 := Lib.hid (Mid.of HM0.out (by simp) (by intro b hb; simp [Value.ownBlock] at hb; omega) hgrow1 hold1); have HO1 := Lib.hid hown1; clear hown1 hgrow1 hold1; have cB1 := (cell_of_block (HM1.out.keep B HBW.out) 0).trans HcB.out; have HS2 : Hid (∀ j u, ([] : List Value)[j]? = some u → w1.cell? ((⟨g, 0, none⟩ : Addr).add j) = some u) := fun j u hu => (by simp at hu)) | (refine step_append_where _ rfl (.tmp 52) (.tmp 59) 50 rfl 51 i0 (.pointer none) 1 8 Tryd.underlying50 hi hz0 hz1 hz2 rfl (by decide) _ _ _ (by first | rfl | (simp [Act.eval, Act.put]; done) | (simp [Act.eval, Act.put]; rfl)) HO1.out ⟨g, 0, none⟩ 0 (0) [] (by simp [Act.eval, Act.put]) rfl HS2.out (by simp) (by unfold maxLen; omega) (by omega) ?_; intro v2 w2 hown2 hgrow2 hold2; obtain ⟨g2, cp2, hv2⟩ := slice_at6 hown2 (by omega); subst hv2; have HM2 := Lib.hid (Mid.of HM1.out.below HM1.out.size HM1.out.new hgrow2 hold2); have HO2 := Lib.hid hown2; clear hown2 hgrow2 hold2; have HB9 := Lib.hid ((HM2.out.keep B HBW.out).trans HW2.out.is.blk); have cB2 := cell_of_heap HB9.out 0; have fB2 := free_of_heap HB9.out 0))
                all_goals
                  go_wp2
                  go_ret
                  rw [← hX.out, Hr.out]
                  refine ⟨rfl, _, HS.out.eraseAt Hprev.out he.out Hc.out H4.out (fun b hb => Nat.le_trans HB2.out.size (HM2.out.new b hb)) (HB2.out.trans (HM2.out.below.mono HB2.out.size)) ((Keeps.refl (fun b => b = B) w2).setCell (.inl rfl)) (heap_setCell_at w2 B _ _ 0 _ HB9.out) ?_⟩
                  have h9 := ownsRow_keeps HO2.out ((Keeps.refl (fun b => b = B) w2).setCell (j := 0) (v := .slice (some ⟨g2, 0, none⟩) 3 cp2) (.inl rfl)) (fun k h e => by have := HM2.out.new k h; have := HBW.out; omega)
                  rw [HEs.out]
                  exact h9
              · clear w1
                have wk : IntKind.i64.wrap 4 = 4 := by decide
                have q1 : ¬ (cp = 4) := by omega
                have q3 : ¬ (cp = 0) := by omega
                have q4 : 3 ≤ cp := by omega
                have q5 : (3 : Int) ≤ (cp : Int) := by omega
                have HE0 : Hid ((W2.alloc (.cells #[] 51)).drew.ownsRow 0 51 1 (.slice (some ⟨W2.heap.size, 0, none⟩) 0 0) 0 []) := ⟨rfl, .inr ⟨W2.heap.size, 0, #[], rfl, Nat.zero_le _, heap_alloc_new W2 _, Nat.le_refl _, by unfold maxLen; decide, rfl, rfl⟩⟩
                have HS1 : Hid (∀ j u, ([ptrTo β y0.key, ptrTo β y1.key, ptrTo β y2.key] : List Value)[j]? = some u → (W2.alloc (.cells #[] 51)).drew.cell? ((⟨g, 0, none⟩ : Addr).add j) = some u) := fun j u hu => by
                  rw [Addr.add_mid, Nat.zero_add]
                  exact (cell_of_block (Below.heap_alloc W2 _ g HgW.out) _).trans (Hcell.out j u (by
                    match j, hu with
                    | 0, hu => exact hu
                    | 1, hu => exact hu
                    | 2, hu => exact hu
                    | _ + 3, hu => simp at hu))
                have HM0 : Hid (Below W2.heap.size W2 (W2.alloc (.cells #[] 51)).drew) := ((Below.refl _ W2).alloc (Nat.le_refl _) _).drew
                have cB3 : (W2.alloc (.cells #[] 51)).cell? ⟨B, 0, none⟩ = some (.slice (some ⟨g, 0, none⟩) 4 cp) := (cell_of_block (Below.heap_alloc W2 _ B HBW.out) 0).trans c0

                go_wp2
                go_region_law (first | (refine step_append_where _ rfl (.tmp 45) (.tmp 51) 50 rfl 51 i0 (.pointer none) 1 8 Tryd.underlying50 hi hz0 hz1 hz2 rfl (by decide) _ _ _ (by first | rfl | (simp [Act.eval, Act.put]; done) | (simp [Act.eval, Act.put]; rfl)) HE0.out ⟨g, 0, none⟩ 3 cp [ptrTo β y0.key, ptrTo β y1.key, ptrTo β y2.key] (by simp [Act.eval, Act.put]) rfl HS1.out (by simp [Value.oneCell', ptrTo]) (by unfold maxLen; omega) (by omega) ?_; intro v1 w1 hown1 hgrow1 hold1; have HM1 := Lib.hid (Mid.of HM0.out (by simp) (by intro b hb; simp [Value.ownBlock] at hb; omega) hgrow1 hold1); have HO1 := Lib.hid hown1; clear hown1 hgrow1 hold1; have cB1 := (cell_of_block (HM1.out.keep B HBW.out) 0).trans HcB.out; have HS2 : Hid (∀ j u, ([] : List Value)[j]? = some u → w1.cell? ((⟨g, 4, none⟩ : Addr).add j) = some u) := fun j u hu => src3 HM1.out HgW.out Hcell.out j u hu) | (refine step_append_where _ rfl (.tmp 52) (.tmp 59) 50 rfl 51 i0 (.pointer none) 1 8 Tryd.underlying50 hi hz0 hz1 hz2 rfl (by decide) _ _ _ (by first | rfl | (simp [Act.eval, Act.put]; done) | (simp [Act.eval, Act.put]; rfl)) HO1.out ⟨g, 4, none⟩ 0 (cp - 4) [] (by simp [Act.eval, Act.put]) rfl HS2.out (by simp) (by unfold maxLen; omega) (by omega) ?_; intro v2 w2 hown2 hgrow2 hold2; obtain ⟨g2, cp2, hv2⟩ := slice_at6 hown2 (by omega); subst hv2; have HM2 := Lib.hid (Mid.of HM1.out.below HM1.out.size HM1.out.new hgrow2 hold2); have HO2 := Lib.hid hown2; clear hown2 hgrow2 hold2; have HB9 := Lib.hid ((HM2.out.keep B HBW.out).trans HW2.out.is.blk); have cB2 := cell_of_heap HB9.out 0; have fB2 := free_of_heap HB9.out 0))
                all_goals
                  go_wp2
                  go_ret
                  rw [← hX.out, Hr.out]
                  refine ⟨rfl, _, HS.out.eraseAt Hprev.out he.out Hc.out H4.out (fun b hb => Nat.le_trans HB2.out.size (HM2.out.new b hb)) (HB2.out.trans (HM2.out.below.mono HB2.out.size)) ((Keeps.refl (fun b => b = B) w2).setCell (.inl rfl)) (heap_setCell_at w2 B _ _ 0 _ HB9.out) ?_⟩
                  have h9 := ownsRow_keeps HO2.out ((Keeps.refl (fun b => b = B) w2).setCell (j := 0) (v := .slice (some ⟨g2, 0, none⟩) 3 cp2) (.inl rfl)) (fun k h e => by have := HM2.out.new k h; have := HBW.out; omega)
                  rw [HEs.out]
                  exact h9
      · obtain rfl : j = 4 := by omega
        have Hr : Hid (S.room = (false, S)) := show _ = _ by unfold PS.room; rw [if_neg H4n.out, vic_none (by have h := HN.out; rw [← H4.out] at h; exact h.all)]
        go_wp2
        go_ret
        rw [← hX.out, Hr.out]
        exact ⟨rfl, _, HS.out.go_same HB.out⟩
end Go.Proofs.YtmdfpknhfkgfoaaDoor
