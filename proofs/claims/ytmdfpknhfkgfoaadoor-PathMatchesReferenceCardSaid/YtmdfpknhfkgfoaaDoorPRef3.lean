/- The reference of law24: New, Migrate, Tick. -/
import Derived.Test.YtmdfpknhfkgfoaaDoorPRef2
namespace Go.Proofs.YtmdfpknhfkgfoaaDoor
open Go.RowKit Go.Shelf
set_option linter.unusedVariables false

def RNewPost (l r : Int) (ok : Bool) (w : World) (e : Ending) (w' : World) : Prop :=
  ∃ B β v, e = .returned (.tuple #[.pointer (some ⟨B, 0, none⟩), .int .i64 0]) ∧ RAt w B β (PS1 l r ok) v w'

theorem addrs_split {l r : Int} : addrsOk l r = (within 1 65535 l && within 1 65535 r) := rfl

set_option maxRecDepth 100000 in
set_option maxHeartbeats 800000 in
theorem rnew_yes (l r : Int) (ok : Bool) (w : World) (ha : addrsOk l r = true) :
    Calls Tryd.prog 24 #[.int .i64 l, .int .i64 r, .bool ok] w (RNewPost l r ok w) := by
  rw [addrs_split, Bool.and_eq_true] at ha
  have H1 := Lib.hid ha.1
  have H2 := Lib.hid ha.2
  clear ha
  go_enter Tryd.func24, Tryd.ntmps24
  go_wp2_with (fail)
  refine (raddr_any l _).mono ?_
  rintro e w1 ⟨rfl, rfl⟩
  rw [H1.out]
  go_wp2_with (fail)
  refine (raddr_any r _).mono ?_
  rintro e w1 ⟨rfl, rfl⟩
  rw [H2.out]
  go_wp2
  go_ret2
  refine ⟨w1.heap.size + 2, fun _ => w1.heap.size, .slice (some ⟨w1.heap.size + 1, 0, none⟩) 1 1, rfl, ⟨?_, ?_, ?_, ?_⟩⟩
  · refine ⟨?_, ?_, ?_, ?_, by simp [PS1], ⟨⟨l, r, ⟨#[]⟩, 0, 0, 0, ok⟩, by simp [PS1], rfl⟩, fun k hk => (by cases hk), by simp [PS1]⟩
    · have := heap_alloc_new ((w1.alloc (.cells #[.int .i64 l, .int .i64 r, .int .i64 0, .int .i64 0, .bool ok, .string ⟨#[]⟩, .int .i64 0] 49)).alloc (.cells #[.pointer (some ⟨w1.heap.size, 0, none⟩)] 51)) (.cells #[.slice (some ⟨w1.heap.size + 1, 0, none⟩) 1 1, .pointer (some ⟨w1.heap.size, 0, none⟩), .pointer none] 53)
      rw [World.size_alloc, World.size_alloc] at this
      exact this
    · refine World.ownsRow.alloc ?_ _
      have := heap_alloc_new (w1.alloc (.cells #[.int .i64 l, .int .i64 r, .int .i64 0, .int .i64 0, .bool ok, .string ⟨#[]⟩, .int .i64 0] 49)) (.cells #[.pointer (some ⟨w1.heap.size, 0, none⟩)] 51)
      rw [World.size_alloc] at this
      exact ⟨rfl, .inr ⟨w1.heap.size + 1, 1, #[.pointer (some ⟨w1.heap.size, 0, none⟩)], rfl, Nat.zero_le _, this, Nat.le_refl _, by unfold maxLen; decide, rfl, rfl⟩⟩
    · intro e he
      obtain rfl : e = ⟨l, r, ⟨#[]⟩, 0, 0, 0, ok⟩ := by simpa [PS1] using he
      exact ⟨0, ⟨fun _ => rfl, fun _ => rfl, Int.le_refl _, by decide⟩, (Below.heap_alloc _ _ _ (by simp; omega)).trans ((Below.heap_alloc _ _ _ (by simp)).trans (heap_alloc_new w1 _))⟩
    · intro e he e' he' _
      obtain rfl : e = ⟨l, r, ⟨#[]⟩, 0, 0, 0, ok⟩ := by simpa [PS1] using he
      obtain rfl : e' = ⟨l, r, ⟨#[]⟩, 0, 0, 0, ok⟩ := by simpa [PS1] using he'
      rfl
  · intro b hb
    rcases hb with rfl | hb | ⟨_, _, rfl⟩
    · omega
    · obtain rfl : w1.heap.size + 1 = b := by simpa [Value.ownBlock] using hb
      omega
    · exact Nat.le_refl _
  · exact (((Below.refl _ w1).alloc (Nat.le_refl _) _).alloc (by simp) _).alloc (by simp; omega) _
  · intro e he
    obtain rfl : e = ⟨l, r, ⟨#[]⟩, 0, 0, 0, ok⟩ := by simpa [PS1] using he
    exact ⟨Int.le_refl 0, by show (0 : Int) ≤ 1000000000000; decide, Int.le_refl 0, by show (0 : Int) ≤ 1000000000000; decide, Int.le_refl 0, by show (0 : Int) ≤ 1000000000; decide⟩

set_option maxRecDepth 100000 in
set_option maxHeartbeats 400000 in
theorem rnew_no (l r : Int) (ok : Bool) (w : World) (ha : addrsOk l r = false) :
    Calls Tryd.prog 24 #[.int .i64 l, .int .i64 r, .bool ok] w (SomeB (.tuple #[.pointer none, .int .i64 2]) w) := by
  rw [addrs_split] at ha
  cases h1 : within 1 65535 l with
  | false =>
    have H1 := Lib.hid h1; clear h1 ha
    go_enter Tryd.func24, Tryd.ntmps24
    go_wp2_with (fail)
    refine (raddr_any l _).mono ?_
    rintro e w1 ⟨rfl, rfl⟩
    rw [H1.out]
    go_wp2
    go_ret2
    exact ⟨rfl, Below.refl _ _⟩
  | true =>
    rw [h1, Bool.true_and] at ha
    have H1 := Lib.hid h1; clear h1
    have H2 := Lib.hid ha; clear ha
    go_enter Tryd.func24, Tryd.ntmps24
    go_wp2_with (fail)
    refine (raddr_any l _).mono ?_
    rintro e w1 ⟨rfl, rfl⟩
    rw [H1.out]
    go_wp2_with (fail)
    refine (raddr_any r _).mono ?_
    rintro e w1 ⟨rfl, rfl⟩
    rw [H2.out]
    go_wp2
    go_ret2
    exact ⟨rfl, Below.refl _ _⟩

/-! ### Pointers -/
theorem rinfo_path : (Tryd.prog.info? 49).map (·.size) = some 7 := by kernel_rfl
theorem rptr_eq_yes (a : Addr) (w : World) : (binOp .eql 51 (.pointer (some a)) (.pointer (some a))).run Tryd.prog w = .ok (.bool true) w := by
  obtain ⟨j, hj, _⟩ := Option.map_eq_some_iff.1 rinfo_path
  exact run_eql_ptr_same w a Tryd.underlying51 hj
theorem rptr_eq_no {a b : Nat} {ea eb : PE} (w : World) (hne : a ≠ b) (ha : RE a ea w) (hb : RE b eb w) : (binOp .eql 51 (.pointer (some ⟨a, 0, none⟩)) (.pointer (some ⟨b, 0, none⟩))).run Tryd.prog w = .ok (.bool false) w := by
  obtain ⟨_, _, ha⟩ := ha
  obtain ⟨_, _, hb⟩ := hb
  obtain ⟨j, hj, hs⟩ := Option.map_eq_some_iff.1 rinfo_path
  exact run_eql_ptr_other w Tryd.underlying51 hj (by rw [hs]; decide) (fun e => hne (by injection e)) ha hb

set_option maxRecDepth 100000 in
set_option maxHeartbeats 1600000 in
theorem rmigrate_any (w0 : World) (B : Nat) (β : Int × Int → Nat) (S : PS) (v : Value) (l r : Int) (w : World) (hS : RAt w0 B β S v w) :
    Calls Tryd.prog 56 #[.pointer (some ⟨B, 0, none⟩), .int .i64 l, .int .i64 r] w (RTurn w0 B β S v (.int .i64 (S.migrate (l, r)).1) (S.migrate (l, r)).2 w) := by
  have HS := Lib.hid hS; clear hS
  cases hg : S.get (l, r) with
  | none =>
    have Hv := Lib.hid (show S.migrate (l, r) = (240, S) by unfold PS.migrate; rw [hg])
    have Hg := Lib.hid hg; clear hg
    rw [Hv.out]
    go_enter Tryd.func56, Tryd.ntmps56
    go_wp2_with (fail)
    refine (rfind_no B β S v l r w HS.out.is Hg.out).mono ?_
    rintro e w1 ⟨rfl, hb1⟩
    go_wp2
    go_ret
    exact ⟨rfl, β, v, HS.out.go_same hb1⟩
  | some e0 =>
    by_cases hact : (l, r) = S.act
    · have Hv := Lib.hid (show S.migrate (l, r) = (0, S) by unfold PS.migrate; rw [hg]; show (if (l, r) = S.act then _ else _) = _; rw [if_pos hact])
      have Hg := Lib.hid hg; clear hg
      rw [Hv.out]
      have heq := rptr_eq_yes ⟨β (l, r), 0, none⟩
      have Ha := Lib.hid hact; clear hact
      go_enter Tryd.func56, Tryd.ntmps56
      go_wp2_with (fail)
      refine (rfind_yes B β S v l r w HS.out.is Hg.out).mono ?_
      rintro e w1 ⟨rfl, hb1⟩
      have c1 := cell_of_heap (HS.out.is.below hb1).blk 1
      rw [← Ha.out] at c1
      have HB := Lib.hid hb1; clear hb1
      go_wp2
      go_ret
      exact ⟨rfl, β, v, HS.out.go_same HB.out⟩
    · obtain ⟨ea, hea⟩ := PS.get_of HS.out.is.act
      have hval : S.valid S.act = ea.ok := by unfold PS.valid; rw [hea]
      obtain ⟨hm0, hk0⟩ := PS.get_mem hg
      obtain ⟨hma, hka⟩ := PS.get_mem hea
      have hneB : β (l, r) ≠ β S.act := fun h => hact (by rw [← hk0, ← hka] at h ⊢; exact HS.out.is.inj e0 hm0 ea hma h)
      have Hv := Lib.hid (show S.migrate (l, r) = (0, { S with act := (l, r), prev := if S.valid S.act = true then some S.act else S.prev }) by unfold PS.migrate; rw [hg]; show (if (l, r) = S.act then _ else _) = _; rw [if_neg hact])
      have Hg := Lib.hid hg; clear hg
      have Hea := Lib.hid hea; clear hea
      have Hin : Hid (∃ e ∈ S.es, e.key = (l, r)) := ⟨e0, hm0, hk0⟩
      rw [Hv.out]
      clear hact hm0 hk0 hma hka
      cases hok : ea.ok with
      | true =>
        rw [hval, hok, if_pos rfl]
        clear hval
        have Hok := Lib.hid hok; clear hok
        go_enter Tryd.func56, Tryd.ntmps56
        go_wp2_with (fail)
        refine (rfind_yes B β S v l r w HS.out.is Hg.out).mono ?_
        rintro e w1 ⟨rfl, hb1⟩
        have h1 := HS.out.is.below hb1
        have heq := rptr_eq_no w1 hneB (h1.at Hg.out) (h1.at Hea.out)
        have c1 := cell_of_heap h1.blk 1
        have f1 := free_of_heap h1.blk 1
        have c2 := cell_of_heap h1.blk 2
        have f2 := free_of_heap h1.blk 2
        obtain ⟨t, _, hb⟩ := h1.at Hea.out
        have a6 := cell_of_heap hb 4
        simp only [PE.rcells, Hok.out, List.getElem?_toArray, List.getElem?_cons_succ, List.getElem?_cons_zero] at a6
        have HB := Lib.hid hb1
        have HBlk := Lib.hid h1.blk
        clear h1 hb1 hb
        go_wp2
        go_ret
        refine ⟨rfl, β, v, HS.out.setBlk HB.out (l, r) (some S.act) Hin.out (fun k hk => by injection hk with hk; rw [← hk]; exact HS.out.is.act) (((Keeps.refl (fun b => b = B) w1).setCell (.inl rfl)).setCell (.inl rfl)) ?_⟩
        exact heap_setCell_at _ B _ _ 1 (ptrTo β (l, r)) (heap_setCell_at w1 B _ _ 2 (ptrTo β S.act) HBlk.out)
      | false =>
        rw [hval, hok, if_neg (by decide)]
        clear hval
        have Hok := Lib.hid hok; clear hok
        go_enter Tryd.func56, Tryd.ntmps56
        go_wp2_with (fail)
        refine (rfind_yes B β S v l r w HS.out.is Hg.out).mono ?_
        rintro e w1 ⟨rfl, hb1⟩
        have h1 := HS.out.is.below hb1
        have heq := rptr_eq_no w1 hneB (h1.at Hg.out) (h1.at Hea.out)
        have c1 := cell_of_heap h1.blk 1
        have f1 := free_of_heap h1.blk 1
        obtain ⟨t, _, hb⟩ := h1.at Hea.out
        have a6 := cell_of_heap hb 4
        simp only [PE.rcells, Hok.out, List.getElem?_toArray, List.getElem?_cons_succ, List.getElem?_cons_zero] at a6
        have HB := Lib.hid hb1
        have HBlk := Lib.hid h1.blk
        clear h1 hb1 hb
        go_wp2
        go_ret
        refine ⟨rfl, β, v, HS.out.setBlk HB.out (l, r) S.prev Hin.out HS.out.is.prev ((Keeps.refl (fun b => b = B) w1).setCell (.inl rfl)) ?_⟩
        exact heap_setCell_at w1 B _ _ 1 (ptrTo β (l, r)) HBlk.out

set_option maxRecDepth 100000 in
set_option maxHeartbeats 4000000 in
theorem rtick_any (w0 : World) (B : Nat) (β : Int × Int → Nat) (S : PS) (v : Value) (now : Int) (w : World) (hS : RAt w0 B β S v w) :
    Calls Tryd.prog 58 #[.pointer (some ⟨B, 0, none⟩), .int .i64 now] w (RTurn w0 B β S v (.bool (S.tick now).1) (S.tick now).2 w) := by
  obtain ⟨a0, cp0, hv⟩ : ∃ a0 cp0, v = .slice a0 S.es.length cp0 := by
    rcases hS.is.own.2 with ⟨h1, h2⟩ | ⟨g, cap, cur, hv, _⟩
    · rw [h2]; exact ⟨none, 0, h1⟩
    · exact ⟨_, cap, hv⟩
  subst hv
  have hl4 := hS.is.len
  have c0 := cell_of_heap hS.is.blk 0
  have Hnd := Lib.hid hS.is.nd
  have HS := Lib.hid hS; clear hS
  obtain ⟨X, hX⟩ : ∃ X, Hid (S.tick now = X) := ⟨_, rfl⟩
  rw [hX.out]
  go_enter Tryd.func58, Tryd.ntmps58
  go_wp2
  go_loopg [5, 6] 5 (fun gk f i wr => ∃ j : Nat, j ≤ S.es.length ∧ gk + j = 5 ∧ i = .int .i64 j ∧ f = .bool (S.failedTo now j) ∧ Hid (RGo w0 B β S (.slice a0 S.es.length cp0) β (S.expTo now j) (.slice a0 S.es.length cp0) w wr))
  case atStart => exact ⟨0, Nat.zero_le _, rfl, rfl, rfl, by rw [expTo_zero]; exact HS.out.go_same (Below.refl _ _)⟩
  case round =>
    clear c0
    obtain ⟨j, hj, hgk, rfl, rfl, HG⟩ := hrel
    have c0 := cell_of_heap HG.out.now.is.blk 0
    by_cases hlt : j < S.es.length
    · obtain ⟨e, he⟩ : ∃ e, S.es[j]? = some e := ⟨_, List.getElem?_eq_getElem hlt⟩
      have hat := expTo_at S now j e he
      have hnd : ((S.expTo now j).es.map PE.key).Nodup := HG.out.now.is.nd
      have hget := get_at hat hnd
      obtain ⟨t, htm, hblk⟩ := HG.out.now.is.at hget
      obtain ⟨g, hg⟩ := slice_shape (by have := HG.out.now.is.own; rw [expTo_len] at this; exact this) (by omega)
      subst hg
      have hc : wr.cell? ⟨g, j, none⟩ = some (ptrTo β e.key) := by
        have h1 := HG.out.now.is.own
        rw [expTo_len] at h1
        have h2 := own_src h1 j (ptrTo β e.key) (by rw [List.getElem?_map, hat]; rfl)
        simpa only [Addr.add_mid, Nat.zero_add] using h2
      have hlt1 : (j : Int) < (S.es.length : Int) := by omega
      have c5 := cell_of_heap hblk 5
      have c6 := cell_of_heap hblk 6
      have hsm := HG.out.now.small e (List.mem_of_getElem? hat)
      obtain ⟨s1, s2, s3, s4, s5, s6⟩ := hsm
      have htlo := htm.lo
      have hthi := htm.hi
      have w1 : IntKind.i64.wrap (t + 200) = t + 200 := IntWalk.i64_in _ (by omega)
      have Hfs := Lib.hid (failedTo_succ S now j e he)
      have Hget := Lib.hid hget
      by_cases hem : e.data = ⟨#[]⟩
      · have hi : e.idle = true := by unfold PE.idle; rw [decide_eq_true hem, decide_eq_true (htm.calm hem)]; rfl
        have hl : e.late now = false := by unfold PE.late; rw [hi]; rfl
        have q1 : e.data.toList.isEmpty = true := by rw [List.isEmpty_iff]; exact (empty_iff _).2 hem
        have Hno := Lib.hid (expTo_no S now j e he hl)
        have Hl := Lib.hid hl
        clear hi hl hat hnd hget hblk he htm hem
        go_wp2
        go_roundg (gk - 1)
        case measure => omega
        case rel => exact ⟨j + 1, by omega, by omega, by go_num, by rw [Hfs.out, Hl.out]; simp, by rw [Hno.out]; exact HG⟩
      · have hi : e.idle = false := by unfold PE.idle; rw [decide_eq_false hem]; rfl
        have q1 : e.data.toList.isEmpty = false := by rw [List.isEmpty_eq_false_iff]; exact fun h => hem ((empty_iff _).1 h)
        have htt : t = e.tick := htm.same hem
        by_cases hlate : t + 200 < now
        · have hl : e.late now = true := by unfold PE.late; rw [hi, decide_eq_true (by rw [← htt]; exact hlate)]; rfl
          have Hyes := Lib.hid (expTo_yes S now j e he Hnd.out hl)
          have Hl := Lib.hid hl
          have f5 := free_of_heap hblk 5
          have HBlk := Lib.hid hblk
          have c1 := cell_of_heap HG.out.now.is.blk 1
          have hneB : β e.key ≠ B := HG.out.now.is.ne_ent (List.mem_of_getElem? hat)
          obtain ⟨ea, hea⟩ := PS.get_of HG.out.now.is.act
          have Hea := Lib.hid hea
          have hmemA := (PS.get_mem hea)
          have hmemE := List.mem_of_getElem? hat
          have hinj : e.key ≠ S.act → β e.key ≠ β S.act := fun h h2 => h (by
            have h3 := hmemA.2
            rw [show (S.expTo now j).act = S.act from rfl] at h3
            rw [← h3] at h2 ⊢
            exact HG.out.now.is.inj e hmemE ea hmemA.1 h2)
          have HG2 : Hid (RGo w0 B β S (.slice (some ⟨g, 0, none⟩) S.es.length cp0) β (S.expTo now (j + 1)) (.slice (some ⟨g, 0, none⟩) S.es.length cp0) w (wr.setCell ⟨β e.key, 5, none⟩ (.string ⟨#[]⟩))) := by
            rw [Hyes.out]
            refine HG.out.trans (HG.out.now.upd Hget.out PE.drop (fun _ => rfl) ⟨s1, s2, s3, s4, Int.le_refl 0, by show (0 : Int) ≤ 1000000000; decide⟩ (Below.refl _ _) ((Keeps.refl (fun b => b = β e.key) wr).setCell (.inl rfl)) ⟨t, ⟨fun _ => rfl, fun h => absurd rfl h, htlo, hthi⟩, ?_⟩)
            exact heap_setCell_at wr (β e.key) _ _ 5 (.string ⟨#[]⟩) HBlk.out
          have d1 := cell_of_heap HG2.out.now.is.blk 1
          obtain ⟨x1, hx1⟩ : ∃ x, (S.expTo now (j + 1)).get e.key = some x := PS.get_of (by
            have : e.key ∈ (S.expTo now (j + 1)).es.map PE.key := by rw [expTo_keys]; exact List.mem_map.2 ⟨e, List.mem_of_getElem? he, rfl⟩
            obtain ⟨x, h1, h2⟩ := List.mem_map.1 this
            exact ⟨x, h1, h2⟩)
          obtain ⟨x2, hx2⟩ := PS.get_of HG2.out.now.is.act
          have HX1 := Lib.hid (HG2.out.now.is.at hx1)
          have HX2 := Lib.hid (HG2.out.now.is.at hx2)
          clear hi hl hat hnd hget hblk he hea hmemA hmemE hx1 hx2 c1 htm hem htt
          cases hf : S.failedTo now j with
          | true =>
            have Hf := Lib.hid hf; clear hf
            go_wp2
            go_roundg (gk - 1)
            case measure => omega
            case rel => exact ⟨j + 1, by omega, by omega, by go_num, by rw [Hfs.out, Hf.out]; simp, HG2⟩
          | false =>
            have Hf := Lib.hid hf; clear hf
            by_cases hact : e.key = S.act
            · have heq := rptr_eq_yes ⟨β e.key, 0, none⟩
              rw [show (S.expTo now (j + 1)).act = e.key from hact.symm] at d1
              have Ha := Lib.hid (show decide (e.key = S.act) = true from decide_eq_true hact)
              clear hact hinj
              go_wp2
              go_roundg (gk - 1)
              case measure => omega
              case rel => exact ⟨j + 1, by omega, by omega, by go_num, by rw [Hfs.out, Hf.out, Hl.out, Ha.out]; rfl, HG2⟩
            · have heq := rptr_eq_no _ (hinj hact) HX1.out HX2.out
              have Ha := Lib.hid (show decide (e.key = S.act) = false from decide_eq_false hact)
              (try rw [show (S.expTo now (j + 1)).act = S.act from rfl] at d1)
              (try rw [show (S.expTo now (j + 1)).act = S.act from rfl] at heq)
              clear hact hinj
              go_wp2
              go_roundg (gk - 1)
              case measure => omega
              case rel => exact ⟨j + 1, by omega, by omega, by go_num, by rw [Hfs.out, Hf.out, Hl.out, Ha.out]; rfl, HG2⟩
        · have hl : e.late now = false := by unfold PE.late; rw [decide_eq_false (by rw [← htt]; exact hlate)]; simp
          have Hno := Lib.hid (expTo_no S now j e he hl)
          have Hl := Lib.hid hl
          clear hi hl hat hnd hget hblk he htm hem htt
          go_wp2
          go_roundg (gk - 1)
          case measure => omega
          case rel => exact ⟨j + 1, by omega, by omega, by go_num, by rw [Hfs.out, Hl.out]; simp, by rw [Hno.out]; exact HG⟩
    · obtain rfl : j = S.es.length := by omega
      have HG3 : Hid (RGo w0 B β S (.slice a0 S.es.length cp0) β (S.expire now) (.slice a0 S.es.length cp0) w wr) := by rw [← expTo_all]; exact HG.out
      have Hfa := Lib.hid (failedTo_all S now)
      rw [Hfa.out]
      clear HG c0
      have c0 := cell_of_heap HG3.out.now.is.blk 0
      have c1 := cell_of_heap HG3.out.now.is.blk 1
      have f1 := free_of_heap HG3.out.now.is.blk 1
      have c2 := cell_of_heap HG3.out.now.is.blk 2
      have f2 := free_of_heap HG3.out.now.is.blk 2
      have HBlk := Lib.hid HG3.out.now.is.blk
      obtain ⟨ea, hea⟩ := PS.get_of HG3.out.now.is.act
      obtain ⟨t, _, hb⟩ := HG3.out.now.is.at hea
      have a6 := cell_of_heap hb 4
      have hval : (S.expire now).valid S.act = ea.ok := valid_of hea
      clear hb
      cases hf : S.failed now with
      | false =>
        have Hv := Lib.hid (show S.tick now = (false, S.expire now) by unfold PS.tick; rw [if_pos (.inl hf)])
        have Hf := Lib.hid hf; clear hf hval hea
        go_wp2
        go_ret
        refine ⟨?_, β, .slice a0 S.es.length cp0, ?_⟩
        · rw [← hX.out, Hv.out]; rfl
        · rw [← hX.out, Hv.out]; exact HG3.out
      | true =>
        cases hok : ea.ok with
        | true =>
          have Hv := Lib.hid (show S.tick now = (false, S.expire now) by unfold PS.tick; rw [if_pos (.inr (by rw [hval, hok]))])
          simp only [PE.rcells, hok, List.getElem?_toArray, List.getElem?_cons_succ, List.getElem?_cons_zero] at a6
          clear hf hval hea hok
          go_wp2
          go_ret
          refine ⟨?_, β, .slice a0 S.es.length cp0, ?_⟩
          · rw [← hX.out, Hv.out]; rfl
          · rw [← hX.out, Hv.out]; exact HG3.out
        | false =>
          have hno : ¬ (S.failed now = false ∨ (S.expire now).valid S.act = true) := fun h => by
            rcases h with h | h
            · rw [hf] at h; cases h
            · rw [hval, hok] at h; cases h
          simp only [PE.rcells, hok, List.getElem?_toArray, List.getElem?_cons_succ, List.getElem?_cons_zero] at a6
          cases hp : S.prev with
          | none =>
            have Hv := Lib.hid (show S.tick now = (false, S.expire now) by unfold PS.tick; rw [if_neg hno, hp])
            rw [show (S.expire now).prev = none from hp] at c2
            simp only [prevV, List.getElem?_toArray, List.getElem?_cons_succ, List.getElem?_cons_zero] at c2
            clear hf hval hea hok hno hp
            go_wp2
            go_ret
            refine ⟨?_, β, .slice a0 S.es.length cp0, ?_⟩
            · rw [← hX.out, Hv.out]; rfl
            · rw [← hX.out, Hv.out]; exact HG3.out
          | some k =>
            have Hv := Lib.hid (show S.tick now = (true, { S.expire now with act := k, prev := none }) by unfold PS.tick; rw [if_neg hno, hp])
            have Hp := Lib.hid hp
            rw [show (S.expire now).prev = some k from hp] at c2
            simp only [prevV, List.getElem?_toArray, List.getElem?_cons_succ, List.getElem?_cons_zero] at c2
            clear hf hval hea hok hno hp
            go_wp2
            go_ret
            refine ⟨?_, β, .slice a0 S.es.length cp0, ?_⟩
            · rw [← hX.out, Hv.out]; rfl
            · rw [← hX.out, Hv.out]
              refine HG3.out.trans (HG3.out.now.setBlk (Below.refl _ _) k none (HG3.out.now.is.prev k Hp.out) (fun _ h => (by cases h)) (((Keeps.refl (fun b => b = B) wr).setCell (.inl rfl)).setCell (.inl rfl)) ?_)
              exact heap_setCell_at _ B _ _ 2 (.pointer none) (heap_setCell_at wr B _ _ 1 (ptrTo β k) HBlk.out)
end Go.Proofs.YtmdfpknhfkgfoaaDoor
