/- path.Paths.makeRoom. -/
import Derived.Test.YtmdfpknhfkgfoaaDoorPDel
import Derived.Deep.RegionWith
namespace Go.Proofs.YtmdfpknhfkgfoaaDoor
open Go.RowKit Go.Shelf

theorem ptr_ne_no (a : Addr) (w : World) : (binOp .neq 90 (.pointer (some a)) (.pointer (some a))).run Tryd.prog w = .ok (.bool false) w := by
  obtain ⟨j, hj, _⟩ := Option.map_eq_some_iff.1 info_entry
  have h : ∀ d : Nat, (Op.equalIn (d + 1) 90 (.pointer (some a)) (.pointer (some a))).run Tryd.prog w = .ok true w := fun d => by
    simp [Op.equalIn, run_underlying Tryd.underlying90, sizeOf, typeInfo, hj, run_sameAddr_same]
  simp only [binOp]
  simp [Op.equal, Op.maxDepth, h 9999]
theorem ptr_ne_yes {a b : Nat} {ca cb : Array Value} {ta tb : TypeId} (w : World) (hne : a ≠ b) (ha : w.heap[a]? = some (.cells ca ta (0, 0))) (hb : w.heap[b]? = some (.cells cb tb (0, 0))) : (binOp .neq 90 (.pointer (some ⟨a, 0, none⟩)) (.pointer (some ⟨b, 0, none⟩))).run Tryd.prog w = .ok (.bool true) w := by
  obtain ⟨j, hj, hs⟩ := Option.map_eq_some_iff.1 info_entry
  have hne' : (⟨a, 0, none⟩ : Addr) ≠ ⟨b, 0, none⟩ := fun e => hne (by injection e)
  have h : ∀ d : Nat, (Op.equalIn (d + 1) 90 (.pointer (some ⟨a, 0, none⟩)) (.pointer (some ⟨b, 0, none⟩))).run Tryd.prog w = .ok false w := fun d => by
    have hsz : j.size ≠ 0 := by rw [hs]; decide
    simp [Op.equalIn, run_underlying Tryd.underlying90, sizeOf, typeInfo, hj, hsz, run_sameAddr_other w hne' ha hb]
  simp only [binOp]
  simp [Op.equal, Op.maxDepth, h 9999]

/-- May a path be removed? -/
def PS.cand (S : PS) (e : PE) : Bool := decide (e.key ≠ S.act) && !e.ok

set_option maxRecDepth 100000 in
set_option maxHeartbeats 400000 in
theorem room1_any (B Bp : Nat) (β : Int × Int → Nat) (S : PS) (v : Value) (e0 : PE) (he : e0 ∈ S.es) (w : World) (hS : IsPS B β S v w) (hp : w.cell? ⟨Bp, 0, none⟩ = some (.pointer (some ⟨B, 0, none⟩))) :
    Calls Tryd.prog 82 #[.pointer (some ⟨β e0.key, 0, none⟩), .pointer (some ⟨Bp, 0, none⟩)] w fun e w' => e = .returned (.bool (S.cand e0)) ∧ w = w' := by
  have hb := hS.ent e0 he
  have c1 := cell_of_heap hS.blk 1
  have c6 := cell_of_heap hb 6
  obtain ⟨ea, hma, hka⟩ := hS.act
  by_cases hk : e0.key = S.act
  · have Hv := Lib.hid (show S.cand e0 = false by unfold PS.cand; rw [decide_eq_false (fun h => h hk)]; rfl)
    rw [Hv.out]
    have hne := ptr_ne_no ⟨β e0.key, 0, none⟩
    rw [← hk] at c1
    clear hS hb hk hka
    go_enter Tryd.func82, Tryd.ntmps82
    go_wp2
    go_ret
    exact ⟨rfl, rfl⟩
  · have hne2 : β e0.key ≠ β S.act := fun h => hk (by rw [← hka] at h ⊢; exact hS.inj e0 he ea hma h)
    have hba := hS.ent ea hma
    rw [hka] at hba
    have hne := ptr_ne_yes w hne2 hb hba
    cases hok : e0.ok with
    | true =>
      have Hv := Lib.hid (show S.cand e0 = false by unfold PS.cand; rw [hok]; simp)
      rw [Hv.out]
      simp only [PE.cells, hok, List.getElem?_toArray, List.getElem?_cons_succ, List.getElem?_cons_zero] at c6
      clear hS hb hk hka hok hba hne2
      go_enter Tryd.func82, Tryd.ntmps82
      go_wp2
      go_ret
      exact ⟨rfl, rfl⟩
    | false =>
      have Hv := Lib.hid (show S.cand e0 = true by unfold PS.cand; rw [hok, decide_eq_true hk]; rfl)
      rw [Hv.out]
      simp only [PE.cells, hok, List.getElem?_toArray, List.getElem?_cons_succ, List.getElem?_cons_zero] at c6
      clear hS hb hk hka hok hba hne2
      go_enter Tryd.func82, Tryd.ntmps82
      go_wp2
      go_ret
      exact ⟨rfl, rfl⟩

/-- The place of the first path that may be removed. -/
def VicPost (S : PS) (w : World) (e : Ending) (w' : World) : Prop :=
  w = w' ∧ ((e = .returned (.int .i64 (-1)) ∧ ∀ x ∈ S.es, S.cand x = false) ∨
    ∃ (i : Nat) (x : PE), e = .returned (.int .i64 i) ∧ S.es[i]? = some x ∧ S.cand x = true ∧ ∀ j y, j < i → S.es[j]? = some y → S.cand y = false)

set_option maxRecDepth 100000 in
set_option maxHeartbeats 400000 in
theorem indexEnts (B Bp : Nat) (β : Int × Int → Nat) (S : PS) (g cp : Nat) (w : World) (hS : IsPS B β S (.slice (some ⟨g, 0, none⟩) S.es.length cp) w) (hp : w.cell? ⟨Bp, 0, none⟩ = some (.pointer (some ⟨B, 0, none⟩))) :
    Calls Tryd.prog 81 #[.slice (some ⟨g, 0, none⟩) S.es.length cp, .func (.func 82) #[] #[.pointer (some ⟨Bp, 0, none⟩)]] w (VicPost S w) := by
  have hl := hS.len
  have HS := Lib.hid hS; clear hS
  have Hp := Lib.hid hp; clear hp
  go_enter Tryd.func81, Tryd.ntmps81
  go_wp2
  go_loop [8] (fun i => ∃ j : Nat, j ≤ S.es.length ∧ i = .int .i64 j ∧ Hid (∀ k y, k < j → S.es[k]? = some y → S.cand y = false)) (fun i => S.es.length - (intOf i).toNat)
  case atStart => exact ⟨0, Nat.zero_le _, rfl, fun k x hk => absurd hk (Nat.not_lt_zero _)⟩
  case round =>
    obtain ⟨j, hj, rfl, HN⟩ := hrel
    by_cases hlt : j < S.es.length
    · obtain ⟨x, hx⟩ : ∃ x, S.es[j]? = some x := ⟨_, List.getElem?_eq_getElem hlt⟩
      have hc := own_src HS.out.own j (ptrTo β x.key) (by rw [List.getElem?_map, hx]; rfl)
      simp only [Addr.add_mid, Nat.zero_add] at hc
      have Hx := Lib.hid hx; clear hx
      have hlt1 : (j : Int) < (S.es.length : Int) := by omega
      go_wp2_with (fail)
      refine (room1_any B Bp β S _ x (List.mem_of_getElem? Hx.out) _ HS.out Hp.out).mono ?_
      rintro e w' ⟨rfl, rfl⟩
      cases ho : S.cand x with
      | true =>
        have Ho := Lib.hid ho; clear ho
        go_wp2
        go_ret
        exact ⟨rfl, .inr ⟨j, x, rfl, Hx.out, Ho.out, HN.out⟩⟩
      | false =>
        have Ho := Lib.hid ho; clear ho
        go_wp2
        go_round
        case rel => exact ⟨j + 1, by omega, by go_num, fun k y hk hy => by
          by_cases e : k = j
          · subst e; rw [Hx.out] at hy; injection hy with hy; rw [← hy]; exact Ho.out
          · exact HN.out k y (by omega) hy⟩
        case measure => simp [intOf]; omega
    · obtain rfl : j = S.es.length := by omega
      go_wp2
      go_ret
      refine ⟨rfl, .inl ⟨rfl, fun x hx => ?_⟩⟩
      obtain ⟨k, hk, rfl⟩ := List.getElem_of_mem hx
      exact HN.out k _ hk (List.getElem?_eq_getElem hk)

end Go.Proofs.YtmdfpknhfkgfoaaDoor
