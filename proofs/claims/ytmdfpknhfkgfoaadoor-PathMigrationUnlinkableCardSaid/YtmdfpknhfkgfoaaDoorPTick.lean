/- path.Paths.expire and Tick: the walks. -/
import Derived.Test.YtmdfpknhfkgfoaaDoorPApi5
namespace Go.Proofs.YtmdfpknhfkgfoaaDoor
open Go.RowKit Go.Shelf

theorem PGo.trans {w0 : World} {B : Nat} {β β1 β2 : Int × Int → Nat} {S S1 S2 : PS} {v v1 v2 : Value} {W W1 W2 : World} (h : PGo w0 B β S v β1 S1 v1 W W1) (k : PGo w0 B β1 S1 v1 β2 S2 v2 W1 W2) : PGo w0 B β S v β2 S2 v2 W W2 := by
  refine ⟨k.now, h.keeps.then k.keeps (fun i hi ho => ?_), fun b hb => ?_⟩
  · rcases h.grow i ho with h1 | h1
    · exact h1
    · omega
  · rcases k.grow b hb with h1 | h1
    · exact h.grow b h1
    · exact .inr (Nat.le_trans h.keeps.size h1)
theorem PGo.refl {w0 : World} {B : Nat} {β : Int × Int → Nat} {S : PS} {v : Value} {W : World} (h : PAt w0 B β S v W) : PGo w0 B β S v β S v W W := h.go_same (Below.refl _ _)

/-- Expire's answer: the list stays where it is. -/
def ExpPost (w0 : World) (B : Nat) (β : Int × Int → Nat) (S : PS) (v : Value) (now : Int) (w : World) (e : Ending) (w' : World) : Prop :=
  e = .returned (.bool (S.failed now)) ∧ PGo w0 B β S v β (S.expire now) v w w'

theorem get_at {S : PS} {j : Nat} {e : PE} (h : S.es[j]? = some e) (hn : (S.es.map PE.key).Nodup) : S.get e.key = some e := by
  have hm := List.mem_of_getElem? h
  obtain ⟨e', he'⟩ := PS.get_of ⟨e, hm, rfl⟩
  obtain ⟨h1, h2⟩ := PS.get_mem he'
  rw [he', nodup_key hn e' h1 e hm h2]

set_option maxRecDepth 100000 in
set_option maxHeartbeats 2000000 in
theorem expire_any (w0 : World) (B : Nat) (β : Int × Int → Nat) (S : PS) (v : Value) (now : Int) (w : World) (hS : PAt w0 B β S v w) :
    Calls Tryd.prog 50 #[.pointer (some ⟨B, 0, none⟩), .int .i64 now] w (ExpPost w0 B β S v now w) := by
  obtain ⟨a0, cp0, hv⟩ : ∃ a0 cp0, v = .slice a0 S.es.length cp0 := by
    rcases hS.is.own.2 with ⟨h1, h2⟩ | ⟨g, cap, cur, hv, _⟩
    · rw [h2]; exact ⟨none, 0, h1⟩
    · exact ⟨_, cap, hv⟩
  subst hv
  have hl4 := hS.is.len
  have c0 := cell_of_heap hS.is.blk 0
  have Hnd := Lib.hid hS.is.nd
  have HS := Lib.hid hS; clear hS
  go_enter Tryd.func50, Tryd.ntmps50
  go_wp2
  go_loopg [5, 13] 5 (fun gk f i wr => ∃ j : Nat, j ≤ S.es.length ∧ gk + j = 5 ∧ i = .int .i64 j ∧ f = .bool (S.failedTo now j) ∧ Hid (PGo w0 B β S (.slice a0 S.es.length cp0) β (S.expTo now j) (.slice a0 S.es.length cp0) w wr))
  case atStart => exact ⟨0, Nat.zero_le _, rfl, rfl, rfl, by rw [expTo_zero]; exact PGo.refl HS.out⟩
  case round =>
    clear c0
    obtain ⟨j, hj, hgk, rfl, rfl, HG⟩ := hrel
    by_cases hlt : j < S.es.length
    · obtain ⟨e, he⟩ : ∃ e, S.es[j]? = some e := ⟨_, List.getElem?_eq_getElem hlt⟩
      have hat := expTo_at S now j e he
      have hnd : ((S.expTo now j).es.map PE.key).Nodup := HG.out.now.is.nd
      have hget := get_at hat hnd
      have hblk := HG.out.now.is.at hget
      obtain ⟨g, hg⟩ := slice_shape (by have := HG.out.now.is.own; rw [expTo_len] at this; exact this) (by omega)
      subst hg
      have hc : wr.cell? ⟨g, j, none⟩ = some (ptrTo β e.key) := by
        have h1 := HG.out.now.is.own
        rw [expTo_len] at h1
        have h2 := own_src h1 j (ptrTo β e.key) (by rw [List.getElem?_map, hat]; rfl)
        simpa only [Addr.add_mid, Nat.zero_add] using h2
      have hlt1 : (j : Int) < (S.es.length : Int) := by omega
      have c2 := cell_of_heap hblk 2
      have c3 := cell_of_heap hblk 3
      have hne := chal_ne e.data e.tick
      have hsm := HG.out.now.small e (List.mem_of_getElem? hat)
      obtain ⟨s1, s2, s3, s4, s5, s6⟩ := hsm
      have w1 : IntKind.i64.wrap (e.tick + 200) = e.tick + 200 := IntWalk.i64_in _ (by omega)
      have Hfs := Lib.hid (failedTo_succ S now j e he)
      have Hget := Lib.hid hget
      cases hi : e.idle with
      | true =>
        rw [show (decide (e.data = ⟨#[]⟩) && decide (e.tick = 0)) = true from hi] at hne
        have hl : e.late now = false := by unfold PE.late; rw [hi]; rfl
        have Hno := Lib.hid (expTo_no S now j e he hl)
        have Hl := Lib.hid hl
        clear hi hl hat hnd hget hblk he
        go_wp2
        go_roundg (gk - 1)
        case measure => omega
        case rel => exact ⟨j + 1, by omega, by omega, by go_num, by rw [Hfs.out, Hl.out]; simp, by rw [Hno.out]; exact HG⟩
      | false =>
        rw [show (decide (e.data = ⟨#[]⟩) && decide (e.tick = 0)) = false from hi] at hne
        by_cases hlate : e.tick + 200 < now
        · have hl : e.late now = true := by unfold PE.late; rw [hi, decide_eq_true hlate]; rfl
          have Hyes := Lib.hid (expTo_yes S now j e he Hnd.out hl)
          have Hl := Lib.hid hl
          have f2 := free_of_heap hblk 2
          have f3 := free_of_heap hblk 3
          have HBlk := Lib.hid hblk
          have c1 := cell_of_heap HG.out.now.is.blk 1
          have hneB : β e.key ≠ B := HG.out.now.is.ne_ent (List.mem_of_getElem? hat)
          obtain ⟨ea, hea⟩ := PS.get_of HG.out.now.is.act
          have Hea := Lib.hid hea
          have hmemA := (PS.get_mem hea)
          have hmemE := List.mem_of_getElem? hat
          have hinj : e.key ≠ S.act → β e.key ≠ β S.act := fun h h2 => h (by
            have h3 := hmemA.2
            rw [show (S.expTo now j).act = S.act from rfl] at h3
            rw [← h3] at h2 ⊢
            exact HG.out.now.is.inj e hmemE ea hmemA.1 h2)
          have HG2 : Hid (PGo w0 B β S (.slice (some ⟨g, 0, none⟩) S.es.length cp0) β (S.expTo now (j + 1)) (.slice (some ⟨g, 0, none⟩) S.es.length cp0) w ((wr.setCell ⟨β e.key, 2, none⟩ (.string ⟨#[]⟩)).setCell ⟨β e.key, 3, none⟩ (.int .i64 0))) := by
            rw [Hyes.out]
            refine HG.out.trans (HG.out.now.upd Hget.out PE.drop (fun _ => rfl) ⟨s1, s2, s3, s4, Int.le_refl 0, by show (0 : Int) ≤ 1000000000; decide⟩ (Below.refl _ _) (((Keeps.refl (fun b => b = β e.key) wr).setCell (.inl rfl)).setCell (.inl rfl)) ?_)
            exact heap_setCell_at _ (β e.key) _ _ 3 (.int .i64 0) (heap_setCell_at wr (β e.key) _ _ 2 (.string ⟨#[]⟩) HBlk.out)
          have d1 := cell_of_heap HG2.out.now.is.blk 1
          obtain ⟨x1, hx1⟩ : ∃ x, (S.expTo now (j + 1)).get e.key = some x := PS.get_of (by
            have : e.key ∈ (S.expTo now (j + 1)).es.map PE.key := by rw [expTo_keys]; exact List.mem_map.2 ⟨e, List.mem_of_getElem? he, rfl⟩
            obtain ⟨x, h1, h2⟩ := List.mem_map.1 this
            exact ⟨x, h1, h2⟩)
          obtain ⟨x2, hx2⟩ := PS.get_of HG2.out.now.is.act
          have HX1 := Lib.hid (HG2.out.now.is.at hx1)
          have HX2 := Lib.hid (HG2.out.now.is.at hx2)
          clear hi hl hat hnd hget hblk he hea hmemA hmemE hx1 hx2 c1
          cases hf : S.failedTo now j with
          | true =>
            have Hf := Lib.hid hf; clear hf
            go_wp2
            go_roundg (gk - 1)
            case measure => omega
            case rel => exact ⟨j + 1, by omega, by omega, by go_num, by rw [Hfs.out, Hf.out]; simp, HG2⟩
          | false =>
            have Hf := Lib.hid hf; clear hf
            by_cases hact : e.key = S.act
            · have heq := ptr_eq_yes ⟨β e.key, 0, none⟩
              rw [show (S.expTo now (j + 1)).act = e.key from hact.symm] at d1
              have Ha := Lib.hid (show decide (e.key = S.act) = true from decide_eq_true hact)
              clear hact hinj
              go_wp2
              go_roundg (gk - 1)
              case measure => omega
              case rel => exact ⟨j + 1, by omega, by omega, by go_num, by rw [Hfs.out, Hf.out, Hl.out, Ha.out]; rfl, HG2⟩
            · have heq := ptr_eq_no _ (hinj hact) HX1.out HX2.out
              have Ha := Lib.hid (show decide (e.key = S.act) = false from decide_eq_false hact)
              (try rw [show (S.expTo now (j + 1)).act = S.act from rfl] at d1)
              (try rw [show (S.expTo now (j + 1)).act = S.act from rfl] at heq)
              clear hact hinj
              go_wp2
              go_roundg (gk - 1)
              case measure => omega
              case rel => exact ⟨j + 1, by omega, by omega, by go_num, by rw [Hfs.out, Hf.out, Hl.out, Ha.out]; rfl, HG2⟩
        · have hl : e.late now = false := by unfold PE.late; rw [decide_eq_false hlate]; simp
          have Hno := Lib.hid (expTo_no S now j e he hl)
          have Hl := Lib.hid hl
          clear hi hl hat hnd hget hblk he
          go_wp2
          go_roundg (gk - 1)
          case measure => omega
          case rel => exact ⟨j + 1, by omega, by omega, by go_num, by rw [Hfs.out, Hl.out]; simp, by rw [Hno.out]; exact HG⟩
    · obtain rfl : j = S.es.length := by omega
      go_wp2
      go_ret
      refine ⟨?_, by rw [← expTo_all]; exact HG.out⟩
      rw [← failedTo_all]
      rfl

/-! ### Tick -/
def PS.tick (S : PS) (now : Int) : Bool × PS :=
  if S.failed now = false ∨ (S.expire now).valid S.act = true then (false, S.expire now)
  else match S.prev with | some k => (true, { S.expire now with act := k, prev := none }) | none => (false, S.expire now)

set_option maxRecDepth 100000 in
theorem tick_nil (now : Int) (w : World) : Calls Tryd.prog 22 #[.pointer none, .int .i64 now] w (SomeB (.bool false) w) := by
  go_enter Tryd.func22, Tryd.ntmps22
  go_wp2
  go_ret
  exact ⟨rfl, Below.refl _ _⟩

set_option maxRecDepth 100000 in
set_option maxHeartbeats 1600000 in
theorem tick_any (w0 : World) (B : Nat) (β : Int × Int → Nat) (S : PS) (v : Value) (now : Int) (w : World) (hS : PAt w0 B β S v w) :
    Calls Tryd.prog 22 #[.pointer (some ⟨B, 0, none⟩), .int .i64 now] w (TurnPost w0 B β S v (.bool (S.tick now).1) (S.tick now).2 w) := by
  have HS := Lib.hid hS; clear hS
  cases hf : S.failed now with
  | false =>
    have Hv := Lib.hid (show S.tick now = (false, S.expire now) by unfold PS.tick; rw [if_pos (.inl hf)])
    have Hf := Lib.hid hf; clear hf
    rw [Hv.out]
    go_enter Tryd.func22, Tryd.ntmps22
    go_wp2_with (fail)
    refine (expire_any w0 B β S v now w HS.out).mono ?_
    rintro e w1 ⟨rfl, hG⟩
    rw [Hf.out]
    go_wp2
    go_ret
    exact ⟨rfl, β, v, hG⟩
  | true =>
    have Hf := Lib.hid hf; clear hf
    cases hok : (S.expire now).valid S.act with
    | true =>
      have Hv := Lib.hid (show S.tick now = (false, S.expire now) by unfold PS.tick; rw [if_pos (.inr hok)])
      have Hok := Lib.hid hok; clear hok
      rw [Hv.out]
      go_enter Tryd.func22, Tryd.ntmps22
      go_wp2_with (fail)
      refine (expire_any w0 B β S v now w HS.out).mono ?_
      rintro e w1 ⟨rfl, hG⟩
      rw [Hf.out]
      have c1 := cell_of_heap hG.now.is.blk 1
      obtain ⟨ea, hea⟩ := PS.get_of hG.now.is.act
      have a6 := cell_of_heap (hG.now.is.at hea) 6
      have hq : ea.ok = true := by have := Hok.out; unfold PS.valid at this; rw [show (S.expire now).get S.act = some ea from hea] at this; exact this
      simp only [PE.cells, hq, List.getElem?_toArray, List.getElem?_cons_succ, List.getElem?_cons_zero] at a6
      have HG := Lib.hid hG
      clear hG hea hq
      go_wp2
      go_ret
      exact ⟨rfl, β, v, HG.out⟩
    | false =>
      have hno : ¬ (S.failed now = false ∨ (S.expire now).valid S.act = true) := fun h => by
        rcases h with h | h
        · rw [Hf.out] at h; cases h
        · rw [hok] at h; cases h
      have Hok := Lib.hid hok; clear hok
      cases hp : S.prev with
      | none =>
        have Hv := Lib.hid (show S.tick now = (false, S.expire now) by unfold PS.tick; rw [if_neg hno, hp])
        have Hp := Lib.hid hp; clear hp hno
        rw [Hv.out]
        go_enter Tryd.func22, Tryd.ntmps22
        go_wp2_with (fail)
        refine (expire_any w0 B β S v now w HS.out).mono ?_
        rintro e w1 ⟨rfl, hG⟩
        rw [Hf.out]
        have c1 := cell_of_heap hG.now.is.blk 1
        have c2 := cell_of_heap hG.now.is.blk 2
        rw [show (S.expire now).prev = none from Hp.out] at c2
        simp only [prevV, List.getElem?_toArray, List.getElem?_cons_succ, List.getElem?_cons_zero] at c2
        obtain ⟨ea, hea⟩ := PS.get_of hG.now.is.act
        have a6 := cell_of_heap (hG.now.is.at hea) 6
        have hq : ea.ok = false := by have := Hok.out; unfold PS.valid at this; rw [show (S.expire now).get S.act = some ea from hea] at this; exact this
        simp only [PE.cells, hq, List.getElem?_toArray, List.getElem?_cons_succ, List.getElem?_cons_zero] at a6
        have HG := Lib.hid hG
        clear hG hea hq
        go_wp2
        go_ret
        exact ⟨rfl, β, v, HG.out⟩
      | some k =>
        have Hv := Lib.hid (show S.tick now = (true, { S.expire now with act := k, prev := none }) by unfold PS.tick; rw [if_neg hno, hp])
        have Hp := Lib.hid hp; clear hp hno
        rw [Hv.out]
        go_enter Tryd.func22, Tryd.ntmps22
        go_wp2_with (fail)
        refine (expire_any w0 B β S v now w HS.out).mono ?_
        rintro e w1 ⟨rfl, hG⟩
        rw [Hf.out]
        have c1 := cell_of_heap hG.now.is.blk 1
        have f1 := free_of_heap hG.now.is.blk 1
        have c2 := cell_of_heap hG.now.is.blk 2
        have f2 := free_of_heap hG.now.is.blk 2
        rw [show (S.expire now).prev = some k from Hp.out] at c2
        simp only [prevV, List.getElem?_toArray, List.getElem?_cons_succ, List.getElem?_cons_zero] at c2
        obtain ⟨ea, hea⟩ := PS.get_of hG.now.is.act
        have a6 := cell_of_heap (hG.now.is.at hea) 6
        have hq : ea.ok = false := by have := Hok.out; unfold PS.valid at this; rw [show (S.expire now).get S.act = some ea from hea] at this; exact this
        simp only [PE.cells, hq, List.getElem?_toArray, List.getElem?_cons_succ, List.getElem?_cons_zero] at a6
        have HG := Lib.hid hG
        have HBlk := Lib.hid hG.now.is.blk
        clear hG hea hq
        go_wp2
        go_ret
        refine ⟨rfl, β, v, HG.out.trans (HG.out.now.setBlk (Below.refl _ _) k none (HG.out.now.is.prev k Hp.out) (fun _ h => (by cases h)) (((Keeps.refl (fun b => b = B) w1).setCell (.inl rfl)).setCell (.inl rfl)) ?_)⟩
        exact heap_setCell_at _ B _ _ 2 (.pointer none) (heap_setCell_at w1 B _ _ 1 (ptrTo β k) HBlk.out)

end Go.Proofs.YtmdfpknhfkgfoaaDoor
