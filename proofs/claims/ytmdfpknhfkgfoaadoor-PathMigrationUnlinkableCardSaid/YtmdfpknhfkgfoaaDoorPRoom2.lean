/- path.Paths.makeRoom: the walk. -/
import Derived.Test.YtmdfpknhfkgfoaaDoorPRoom
namespace Go.Proofs.YtmdfpknhfkgfoaaDoor
open Go.RowKit Go.Shelf

def PS.vic (S : PS) : Option Nat := S.es.findIdx? S.cand
theorem vic_none {S : PS} (h : ∀ x ∈ S.es, S.cand x = false) : S.vic = none := by
  unfold PS.vic
  rw [List.findIdx?_eq_none_iff]
  exact h
theorem vic_some {S : PS} {i : Nat} {x : PE} (hx : S.es[i]? = some x) (hc : S.cand x = true) (hn : ∀ j y, j < i → S.es[j]? = some y → S.cand y = false) : S.vic = some i := by
  obtain ⟨hi, he⟩ := List.getElem?_eq_some_iff.1 hx
  unfold PS.vic
  rw [List.findIdx?_eq_some_iff_getElem]
  refine ⟨hi, by rw [he]; exact hc, fun j hj => ?_⟩
  rw [hn j _ hj (List.getElem?_eq_getElem (by omega))]
  decide

def PS.erase (S : PS) (i : Nat) : PS := { S with es := S.es.eraseIdx i }
/-- What makeRoom does: nothing, a removal, or an error. -/
def PS.room (S : PS) : Bool × PS :=
  if S.es.length < 4 then (true, S) else match S.vic with | some i => (true, S.erase i) | none => (false, S)

def ptrs (β : Int × Int → Nat) (es : List PE) : List Value := es.map fun e => ptrTo β e.key

theorem del_any (β : Int × Int → Nat) (es : List PE) (g cp i : Nat) (z y : Int) (hz : z = i) (hy : y = (i : Int) + 1) (w : World) (h4 : es.length = 4) (hi : i < 4) (hown : w.ownsRow 0 90 1 (.slice (some ⟨g, 0, none⟩) 4 cp) 4 (ptrs β es)) :
    Calls Tryd.prog 83 #[.slice (some ⟨g, 0, none⟩) 4 cp, .int .i64 z, .int .i64 y] w (DelPost g cp (ptrs β (es.eraseIdx i)) w) := by
  have hcp : 4 ≤ cp := by
    rcases hown.2 with ⟨h1, _⟩ | ⟨g', cap', cur, hv, _, _, hnc, _⟩
    · cases h1
    · injection hv with _ _ h3
      omega
  subst hz hy
  match es, h4 with
  | [a, b, c, d], _ =>
    match i, hi with
    | 0, _ => exact delete4_0 g cp _ _ _ _ w hown hcp
    | 1, _ => exact delete4_1 g cp _ _ _ _ w hown hcp
    | 2, _ => exact delete4_2 g cp _ _ _ _ w hown hcp
    | 3, _ =>
      by_cases h : cp = 4
      · exact delete4_3a g cp _ _ _ _ w hown h
      · exact delete4_3b g cp _ _ _ _ w hown (by omega)

theorem erase_mem {es : List PE} {i : Nat} {x e : PE} (hx : es[i]? = some x) (he : e ∈ es) (hne : e ≠ x) : e ∈ es.eraseIdx i := by
  obtain ⟨j, hj, rfl⟩ := List.getElem_of_mem he
  obtain ⟨hi, hxi⟩ := List.getElem?_eq_some_iff.1 hx
  rw [List.mem_eraseIdx_iff_getElem]
  exact ⟨j, hj, fun h => hne (by subst h; exact hxi), rfl⟩

theorem keys_erase (es : List PE) (i : Nat) (h : (es.map PE.key).Nodup) : ((es.eraseIdx i).map PE.key).Nodup :=
  List.Nodup.sublist (List.Sublist.map _ (List.eraseIdx_sublist es i)) h

theorem PAt.eraseAt {w0 : World} {B : Nat} {β : Int × Int → Nat} {S : PS} {v v' : Value} {W W1 W' : World} {i g : Nat} {x : PE} (h : PAt w0 B β S v W) (hprev : ∀ k, S.prev = some k → S.valid k = true) (hx : S.es[i]? = some x) (hc : S.cand x = true) (h4 : S.es.length = 4) (hvg : v.ownBlock = some g) (hvg' : v'.ownBlock = some g)
    (hb1 : Below W.heap.size W W1) (hk : Keeps (fun b => b = B ∨ b = g) W1 W') (hb : W'.heap[B]? = some (.cells #[v', ptrTo β S.act, prevV β S.prev] 99 (0, 0))) (hown : W'.ownsRow 0 90 1 v' 3 (ptrs β (S.es.eraseIdx i))) : PGo w0 B β S v β (S.erase i) v' W W' := by
  have h1 := h.of_below hb1
  have hi : i < S.es.length := (List.getElem?_eq_some_iff.1 hx).1
  have hlen : (S.es.eraseIdx i).length = 3 := by rw [List.length_eraseIdx_of_lt hi, h4]
  have hsub : ∀ e ∈ S.es.eraseIdx i, e ∈ S.es := fun e he => List.mem_of_mem_eraseIdx he
  simp only [PS.cand, Bool.and_eq_true, decide_eq_true_eq, Bool.not_eq_true'] at hc
  have hmem : ∀ b, POwn B β (S.erase i) v' b → POwn B β S v b := fun b hb' => by
    rcases hb' with h2 | h2 | ⟨e, he, h2⟩
    · exact .inl h2
    · exact .inr (.inl (by rw [hvg, ← hvg', h2]))
    · exact .inr (.inr ⟨e, hsub e he, h2⟩)
  have hRB : ∀ b, (b = B ∨ b = g) → POwn B β S v b := fun b hb' => by
    rcases hb' with rfl | rfl
    · exact .inl rfl
    · exact .inr (.inl hvg)
  refine ⟨⟨⟨hb, ?_, fun e he => ?_, fun e he e' he' => h1.is.inj e (hsub e he) e' (hsub e' he'), keys_erase _ _ h1.is.nd, ?_, fun k hk' => ?_, ?_⟩, fun b hb' => h.base b (hmem b hb'), ?_, fun e he => h.small e (hsub e he)⟩, ?_, fun b hb' => .inl (hmem b hb')⟩
  · show W'.ownsRow _ _ _ _ (S.es.eraseIdx i).length _
    rw [hlen]; exact hown
  · have he' := hsub e he
    refine (hk.block _ (heap_lt (h1.is.ent e he')) (fun h2 => ?_)).trans (h1.is.ent e he')
    rcases h2 with h2 | h2
    · exact h1.is.ne_ent he' h2
    · exact h1.is.ent_row he' (by rw [h2]; exact hvg)
  · obtain ⟨e, he, hke⟩ := h.is.act
    exact ⟨e, erase_mem hx he (fun h2 => hc.1 (by rw [← h2]; exact hke)), hke⟩
  · have hval := hprev k hk'
    unfold PS.valid at hval
    cases hg : S.get k with
    | none => rw [hg] at hval; cases hval
    | some e =>
      rw [hg] at hval
      change e.ok = true at hval
      obtain ⟨hm, hke⟩ := PS.get_mem hg
      refine ⟨e, erase_mem hx hm (fun h2 => ?_), hke⟩
      rw [h2, hc.2] at hval
      cases hval
  · show (S.es.eraseIdx i).length ≤ 4
    omega
  · exact hk.below h1.below (fun b hb' => h.base b (hRB b hb')) h1.below.size
  · exact (Keeps.of_below hb1).then hk (fun b _ hb' => hRB b hb')

def RoomPost (aP : Addr) (w0 : World) (B : Nat) (β : Int × Int → Nat) (S : PS) (v : Value) (w : World) (e : Ending) (w' : World) : Prop :=
  e = .returned (if S.room.1 then .nilIface else eVal aP) ∧ ∃ v', PGo w0 B β S v β S.room.2 v' w w'

set_option maxRecDepth 100000 in
set_option maxHeartbeats 1600000 in
theorem room_any (aA aP : Addr) (w0 : World) (B : Nat) (β : Int × Int → Nat) (S : PS) (v : Value) (w : World) (hE : Errs aA aP w) (hS : PAt w0 B β S v w) (hprev : ∀ k, S.prev = some k → S.valid k = true) :
    Calls Tryd.prog 71 #[.pointer (some ⟨B, 0, none⟩)] w (RoomPost aP w0 B β S v w) := by
  have hlen := hS.is.len
  obtain ⟨ea, hma, hka⟩ := hS.is.act
  have hpos : 1 ≤ S.es.length := by
    cases h : S.es with
    | nil => rw [h] at hma; cases hma
    | cons a l => simp
  obtain ⟨g, cp, hv⟩ : ∃ g cp, v = .slice (some ⟨g, 0, none⟩) S.es.length cp := by
    rcases hS.is.own.2 with ⟨_, h2⟩ | ⟨g, cap, cur, hv, _⟩
    · omega
    · exact ⟨g, cap, hv⟩
  subst hv
  have hmf : ∀ (fn : Fn) (first cap : Array Value) (w : World), (Instr.makeFunc fn first cap).run Tryd.prog w = .ok (.func fn first cap) w := fun _ _ _ _ => rfl
  have hS1 := hS.of_below ((Below.refl _ w).alloc (Nat.le_refl _) (.cells #[.pointer (some ⟨B, 0, none⟩)] 23))
  have c0 := cell_of_heap hS1.is.blk 0
  have f0 := free_of_heap hS1.is.blk 0
  have g0 := (hE.below ((Below.refl _ w).alloc (Nat.le_refl _) (.cells #[.pointer (some ⟨B, 0, none⟩)] 23))).pth
  have hbox := heap_alloc_new w (.cells #[.pointer (some ⟨B, 0, none⟩)] 23)
  have HS1 := Lib.hid hS1
  have HS := Lib.hid hS
  have HBox := Lib.hid hbox
  have Hprev := Lib.hid hprev
  have HA : Hid (∃ e ∈ S.es, e.key = S.act) := ⟨ea, hma, hka⟩
  clear hS hS1 hE hbox hprev hma hka
  by_cases h4 : S.es.length < 4
  · have Hr := Lib.hid (show S.room = (true, S) by unfold PS.room; rw [if_pos h4])
    have h4' : (S.es.length : Int) < 4 := by omega
    go_enter Tryd.func71, Tryd.ntmps71
    go_wp2
    go_ret
    unfold RoomPost
    rw [Hr.out]
    exact ⟨rfl, _, HS.out.go_same ((Below.refl _ w).alloc (Nat.le_refl _) _)⟩
  · have h4e : S.es.length = 4 := by omega
    have h4' : ¬ ((S.es.length : Int) < 4) := by omega
    have H4 := Lib.hid h4e
    have H4n := Lib.hid h4
    clear h4e h4
    go_enter Tryd.func71, Tryd.ntmps71
    go_wp2_with (fail)
    have hbc := cell_of_heap HBox.out 0
    refine (indexEnts B w.heap.size β S g cp _ HS1.out.is hbc).mono ?_
    rintro e w' ⟨rfl, hvic⟩
    rcases hvic with ⟨rfl, hno⟩ | ⟨i, x, rfl, hx, hc, hfirst⟩
    · have Hr := Lib.hid (show S.room = (false, S) by unfold PS.room; rw [if_neg H4n.out, vic_none hno])
      clear hno
      go_wp2
      go_ret
      unfold RoomPost
      rw [Hr.out]
      exact ⟨rfl, _, HS.out.go_same ((Below.refl _ w).alloc (Nat.le_refl _) _)⟩
    · have hi4 : i < 4 := by have := (List.getElem?_eq_some_iff.1 hx).1; have := H4.out; omega
      have Hr := Lib.hid (show S.room = (true, S.erase i) by unfold PS.room; rw [if_neg H4n.out, vic_some hx hc hfirst])
      have Hx := Lib.hid hx
      have Hc := Lib.hid hc
      have hneg : ¬ ((i : Int) < 0) := by omega
      clear hx hc hfirst
      have w1 : IntKind.i64.wrap ((i : Int) + 1) = (i : Int) + 1 := IntWalk.i64_in _ (by omega)
      have HOwn := Lib.hid (show (w.alloc (.cells #[.pointer (some ⟨B, 0, none⟩)] 23)).drew.ownsRow 0 90 1 (.slice (some ⟨g, 0, none⟩) 4 cp) 4 (ptrs β S.es) by
        have h := HS1.out.is.own
        rw [H4.out] at h
        exact h)
      rw [H4.out] at c0
      go_wp2_with (fail)
      have hgl : g < w.heap.size := by
        rcases HS.out.is.own.2 with ⟨h1, _⟩ | ⟨g', cap', cur, hv, _, hgb, _⟩
        · cases h1
        · have e1 : g = g' := by injection hv with h1 _ _; injection h1 with h2; injection h2
          rw [e1]; exact heap_lt hgb
      have hgB : B ≠ g := fun e => HS.out.is.ne_row (by rw [e]; rfl)
      go_region_with (go_at_call 83; refine (del_any β S.es g cp i _ _ rfl rfl _ H4.out hi4 HOwn.out).mono ?_; rintro e w2 ⟨rfl, hown2, hk2⟩; have hB2 := Lib.hid ((hk2.block B (heap_lt HS1.out.is.blk) hgB).trans HS1.out.is.blk); have hX2 := Lib.hid ((hk2.block w.heap.size (heap_lt HBox.out) (Nat.ne_of_gt hgl)).trans HBox.out); have c2 := cell_of_heap hB2.out 0; have f2 := free_of_heap hB2.out 0; have b2 := cell_of_heap hX2.out 0; have HO2 := Lib.hid hown2; have HK2 := Lib.hid hk2; clear hown2 hk2)
      all_goals go_wp2
      all_goals
        go_ret
        unfold RoomPost
        rw [Hr.out]
        exact ⟨rfl, .slice (some ⟨g, 0, none⟩) 3 cp, HS.out.eraseAt Hprev.out Hx.out Hc.out H4.out rfl rfl ((Below.refl _ w).alloc (Nat.le_refl _) _).drew ((HK2.out.mono (fun _ h => .inr h)).setCell (.inl (.inl rfl))) (heap_setCell_at w2 B _ _ 0 _ hB2.out)
          (ownsRow_keeps HO2.out ((Keeps.refl (fun b => b = B) w2).setCell (.inl rfl)) (fun k h e => hgB (by have h2 : g = k := by simpa [Value.ownBlock] using h
                                                                                                             rw [h2, e])))⟩

end Go.Proofs.YtmdfpknhfkgfoaaDoor
