/- peregrineref07.Remote: next, retire, NewRemote, copied. -/
import Derived.Test.YtmdfpknhfkgfoaaRR1
import Derived.Deep.RegionHeld3
import Derived.Deep.RegionLaw
namespace Go.Proofs.Ytmdfpknhfkgfoaa
open Go.RowKit Go.Shelf

/-! ### append of one owned row onto another, as a step of a region -/
section
variable {P : Program}
theorem run_append_two (w : World) (t ty e : TypeId) (i : TypeInfo) (z : Value) (size bytes : Nat) (ht : P.underlying t = some (.slice e)) (hi : P.info? e = some i) (hz : i.zero = some z)
    (hsize : i.size = size) (hby : i.bytes = bytes) (hzs : z.cells.size = size) (hsz : 0 < size)
    (v : Value) (n : Nat) (xs : List Value) (hown : w.ownsRow 0 e size v n xs)
    (base : Nat) (l : Value) (m : Nat) (ys : List Value) (hl : w.ownsRow base e size l m ys) (h1 : ∀ u ∈ ys, u.oneCell' = true)
    (h63 : n + m ≤ maxLen) (hbytes : (n + m) * bytes ≤ 140737488355328) :
    ∃ v' w', (Builtin.append_ #[t, t] ty #[v, l]).run P w = .ok v' w' ∧ w'.ownsRow 0 e size v' (n + m) (xs ++ ys) ∧ w.grownBy w' v.ownBlock ∧ OldOrNew v v' w.heap.size := by
  rcases hl.2 with ⟨h2, h3⟩ | ⟨g, cap, cur, h2, hb, hgb, hrest⟩
  · have hys : ys = [] := List.eq_nil_of_length_eq_zero (by rw [hl.1, h3]; simp)
    subst h3
    rw [h2, hys, List.append_nil]
    exact ⟨v, w, run_append_owned_none (P := P) (w := w) 0 t ty e i size ht hi v n xs hown, hown, ⟨rfl, rfl, rfl, Nat.le_refl _, fun _ _ _ => rfl⟩, OldOrNew.refl _ _⟩
  · subst h2
    exact run_append_where w t ty e i z size bytes ht hi hz hsize hby hzs hsz v n xs hown ⟨g, 0, none⟩ m cap ys (by have := hl.1; omega) (hl.cells (g := g) rfl) h1 h63 hbytes

theorem step_append_two (w : World) {ops : Array Oper} {o : Oper} {a : Act} {K : Act → World → Prop} {Q : Exit → Act → World → Prop} {E : Prop} (hgd : o.guard = none) (s x : Operand) (t : TypeId)
    (ho : o.op = .call { callee := .builtin .append, args := #[s, x], argTypes := #[t, t] })
    (e : TypeId) (i : TypeInfo) (z : Value) (size bytes : Nat) (ht : P.underlying t = some (.slice e)) (hi : P.info? e = some i) (hz : i.zero = some z)
    (hsize : i.size = size) (hby : i.bytes = bytes) (hzs : z.cells.size = size) (hsz : 0 < size)
    (v : Value) (n : Nat) (xs : List Value) (hs : a.eval s = v) (hown : w.ownsRow 0 e size v n xs)
    (base : Nat) (l : Value) (m : Nat) (ys : List Value) (hx : a.eval x = l) (hl : w.ownsRow base e size l m ys) (h1 : ∀ u ∈ ys, u.oneCell' = true)
    (h63 : n + m ≤ maxLen) (hbytes : (n + m) * bytes ≤ 140737488355328)
    (h : ∀ v' w', w'.ownsRow 0 e size v' (n + m) (xs ++ ys) → w.grownBy w' v.ownBlock → OldOrNew v v' w.heap.size → K (a.put o.dst v') w') :
    if Region.wanted o (yielded ops a.tmps) = true then Oper.wp P o a w K Q else E := by
  have hw : Region.wanted o (yielded ops a.tmps) = true := by simp [Region.wanted, hgd]
  rw [if_pos hw]
  obtain ⟨v', w', hr, h2, h3, h4⟩ := run_append_two (P := P) w t o.type e i z size bytes ht hi hz hsize hby hzs hsz v n xs hown base l m ys hl h1 h63 hbytes
  unfold Oper.wp
  simp [execOp, ho, resolve, invoke, builtin, hs, hx, hr, Result.andThen]
  exact h v' w' h2 h3 h4
end

theorem info_entry : (Try.prog.info? 86).map (fun i => (i.zero, i.size, i.bytes)) = some (some (.agg #[.int .i64 0, .string ⟨#[]⟩, .bool false]), 3, 32) := by kernel_rfl

theorem eVals_one (es : List EE) : ∀ u ∈ eVals es, u.oneCell' = true := by
  intro u hu
  unfold eVals at hu
  rw [List.mem_flatMap] at hu
  obtain ⟨e, _, h⟩ := hu
  simp [EE.cells] at h
  rcases h with rfl | rfl | rfl <;> rfl
theorem natVals_one (l : List Nat) : ∀ u ∈ natVals l, u.oneCell' = true := by
  intro u hu
  unfold natVals at hu
  obtain ⟨n, _, rfl⟩ := List.mem_map.1 hu
  rfl

/-! ### next -/
def RNextPost (B : Nat) (X : RR) (v vl : Value) (w : World) (e : Ending) (w' : World) : Prop := e = .returned (.bool X.nextOf.isSome) ∧ IsRR B X.next v vl w' ∧ Only B w w'

theorem RR.next_some {X : RR} {e : EE} (h : X.nextOf = some e) : X.next = { X with now := e.seq } := by unfold RR.next; rw [h]
theorem RR.next_none {X : RR} (h : X.nextOf = none) : X.next = X := by unfold RR.next; rw [h]

set_option maxRecDepth 100000 in
set_option maxHeartbeats 800000 in
theorem rnext_any (B : Nat) (X : RR) (v vl : Value) (w : World) (hX : IsRR B X v vl w) (hl : X.es.length ≤ 64) :
    Calls Try.prog 59 #[.pointer (some ⟨B, 0, none⟩)] w (RNextPost B X v vl w) := by
  obtain ⟨a, cap, rfl, ha⟩ := slice_anyR hX.own
  have HX := Lib.hid hX; clear hX
  obtain ⟨n, Hn⟩ : ∃ n, Hid (X.es.length = n) := ⟨_, rfl⟩
  rw [Hn.out] at hl ha
  go_enter Try.func59, Try.ntmps59
  go_wp2_with (fail)
  go_loopg [3] (n + 1) (fun g i wx => ∃ t : Nat, g + t = n + 1 ∧ t ≤ n ∧ i = .int .i64 t ∧ Hid (IsRR B X (.slice a X.es.length cap) vl wx) ∧ Hid (Only B w wx) ∧ Hid (∀ k e', k < t → X.es[k]? = some e' → EE.free X.now e' = false))
  case atStart => exact ⟨0, rfl, Nat.zero_le _, rfl, HX, Only.refl _ _, fun k e' hk => absurd hk (Nat.not_lt_zero _)⟩
  case round =>
    clear HX
    obtain ⟨t, hg, ht, rfl, HX, HO, Hno⟩ := hrel
    have c0 := cell_of_heap HX.out.blk 0
    have k1 := cell_of_heap HX.out.blk 1
    have f1 := free_of_heap HX.out.blk 1
    simp at c0 k1
    rw [Hn.out] at c0
    by_cases htn : t < n
    · obtain ⟨g, rfl⟩ := ha (by omega)
      obtain ⟨e, he⟩ : ∃ e, X.es[t]? = some e := ⟨_, List.getElem?_eq_getElem (by rw [Hn.out]; exact htn)⟩
      obtain ⟨c1, c2, c3⟩ := HX.out.ent rfl he
      have He := Lib.hid he; clear he
      obtain ⟨s, id, gn⟩ := e
      simp only [Nat.add_zero] at c1 c2 c3
      obtain ⟨m, Hm⟩ : ∃ m, Hid (X.now = m) := ⟨_, rfl⟩
      rw [Hm.out] at k1
      clear c2
      cases gn with
      | true =>
        have Hn2 := Lib.hid (none_step He.out (p := EE.free X.now) rfl Hno.out)
        clear He
        go_wp2
        go_quiet (fail)
        go_wp2
        go_roundg (gk - 1)
        case measure => omega
        case rel => exact ⟨t + 1, by omega, by omega, by go_num, HX.out.drewN _, HO.out.drewN _, Hn2⟩
      | false =>
        by_cases hs : s = m
        · have hs1 : ((s : Int) != (m : Int)) = false := by rw [hs]; simp
          have Hn2 := Lib.hid (none_step He.out (p := EE.free X.now) (by unfold EE.free; simp only; rw [Hm.out, hs]; simp) Hno.out)
          clear hs He
          go_wp2
          go_quiet (fail)
          go_wp2
          go_roundg (gk - 1)
          case measure => omega
          case rel => exact ⟨t + 1, by omega, by omega, by go_num, HX.out.drewN _, HO.out.drewN _, Hn2⟩
        · have hs1 : ((s : Int) != (m : Int)) = true := by rw [bne_iff_ne]; omega
          have Hf := Lib.hid (show X.nextOf = some ⟨s, id, false⟩ from find_at _ _ t _ He.out (by unfold EE.free; simp only; rw [Hm.out]; simp [hs]) Hno.out)
          clear hs He
          go_wp2
          go_quiet (fail)
          go_wp2
          go_ret
          refine ⟨by rw [Hf.out]; rfl, ?_, (HO.out.drewN _).setCell _ _⟩
          rw [RR.next_some Hf.out]
          exact (HX.out.drewN _).setBlk rfl rfl rfl
    · obtain rfl : t = n := by omega
      have Hf := Lib.hid (show X.nextOf = none from find_no _ _ t Hn.out Hno.out)
      go_wp2
      go_ret
      refine ⟨by rw [Hf.out]; rfl, ?_, HO.out⟩
      rw [RR.next_none Hf.out]
      exact HX.out

/-! ### retire -/
def RR.off (X : RR) (i : Nat) (e : EE) : RR := { X with es := X.es.set i { e with gone := true }, left := X.left ++ [e.seq] }
theorem RR.turn_off (X : RR) (i : Nat) (e : EE) : X.turn i e = (X.off i e).next := rfl

theorem eVals_set : ∀ (es : List EE) (i : Nat) (e : EE), es[i]? = some e → (eVals es).set (i * 3 + 2) (.bool true) = eVals (es.set i { e with gone := true })
  | [], i, e, h => by cases h
  | x :: es, 0, e, h => by
    obtain rfl : x = e := by simpa using h
    rfl
  | x :: es, i + 1, e, h => by
    have ih := eVals_set es i e (by simpa using h)
    rw [List.set_cons_succ, eVals_cons, eVals_cons, ← ih, show (i + 1) * 3 + 2 = (i * 3 + 2) + 3 by omega]
    rfl

theorem IsRR.setGone {B : Nat} {X : RR} {g cap : Nat} {vl : Value} {w : World} (h : IsRR B X (.slice (some ⟨g, 0, none⟩) X.es.length cap) vl w) {i : Nat} {e : EE} (he : X.es[i]? = some e) :
    IsRR B { X with es := X.es.set i { e with gone := true } } (.slice (some ⟨g, 0, none⟩) X.es.length cap) vl (w.setCell ⟨g, i * 3 + 2, none⟩ (.bool true)) := by
  have hk : Keeps (fun k => k = g) w (w.setCell ⟨g, i * 3 + 2, none⟩ (.bool true)) := (Keeps.refl _ w).setCell (.inl rfl)
  have hgB : ¬ (B = g) := fun e => row_type h.own B _ h.blk (by decide) (by rw [e]; rfl)
  refine ⟨heap_keeps h.blk hk hgB, ?_, ownsRow_keeps h.lft hk (fun k hk e => rows_ne h.lft h.own (by decide) k hk (by rw [e]; rfl))⟩
  have := (h.own.stored (i * 3 + 2) (.bool true)).1
  rw [eVals_set X.es i e he] at this
  show World.ownsRow _ _ _ _ _ (X.es.set i { e with gone := true }).length _
  rw [List.length_set]
  exact this

/-- The reference's Remote has turned. -/
def ChgRR (B : Nat) (X' : RR) (v vl : Value) (w w' : World) : Prop := ∃ v' vl', IsRR B X' v' vl' w' ∧ OldOrNew v v' w.heap.size ∧ OldOrNew vl vl' w.heap.size ∧ Keeps (fun k => k = B ∨ v.ownBlock = some k ∨ vl.ownBlock = some k) w w'
def RRetirePost (B : Nat) (X : RR) (v vl : Value) (i : Nat) (e0 : EE) (w : World) (e : Ending) (w' : World) : Prop := e = .returned (.bool (e0.seq == X.now)) ∧ ChgRR B (X.off i e0) v vl w w'

theorem cell_one_at (W : World) (b : Nat) (u : Value) (t : TypeId) (hb : W.heap.size = b) : ∀ (j : Nat) (x : Value), [u][j]? = some x → (W.alloc (.cells #[u] t)).cell? ((⟨b, 0, none⟩ : Addr).add j) = some x := by
  subst hb
  intro j x hx
  rw [Addr.add_mid, Nat.zero_add, cell_of_heap (heap_alloc_new W (.cells #[u] t))]
  simpa using hx

/-- The report's new row is taken in. -/
theorem IsRR.push {B : Nat} {X : RR} {v vl v5 : Value} {W w5 : World} {l : List Nat} (h : IsRR B X v vl W) (hk : Keeps (fun k => vl.ownBlock = some k) W w5) (ho : w5.ownsRow 0 3 1 v5 l.length (natVals l)) :
    w5.heap[B]? = some (.cells #[v, .int .i64 (X.now : Int), .int .i64 (X.bound : Int), vl] 89 (0, 0)) ∧ w5.ownsRow 0 86 3 v X.es.length (eVals X.es) ∧ IsRR B { X with left := l } v v5 (w5.setCell ⟨B, 3, none⟩ v5) := by
  have h1 := heap_keeps h.blk hk (fun e => row_type h.lft B _ h.blk (by decide) e)
  have h2 := ownsRow_keeps h.own hk (fun g hg e => rows_ne h.own h.lft (by decide) g hg e)
  have hk2 : Keeps (fun k => k = B) w5 (w5.setCell ⟨B, 3, none⟩ v5) := (Keeps.refl _ w5).setCell (.inl rfl)
  refine ⟨h1, h2, ?_, ?_, ?_⟩
  · rw [heap_setCell_at _ _ _ _ _ _ h1]; rfl
  · exact ownsRow_keeps h2 hk2 (fun g hg e => row_type h2 B _ h1 (by decide) (by rw [hg, e]))
  · exact ownsRow_keeps ho hk2 (fun g hg e => row_type ho B _ h1 (by decide) (by rw [hg, e]))

theorem own_ent {W : World} {base n : Nat} {e : TypeId} {v : Value} {es : List EE} {g t : Nat} {x : EE} (h : W.ownsRow base e 3 v n (eVals es)) (hv : v.ownBlock = some g) (hx : es[t]? = some x) : W.cell? ⟨g, t * 3, none⟩ = some (.int .i64 (x.seq : Int)) := by
  have h1 := h.cells (g := g) hv (t * 3 + 0) _ ((eVals_get es t x 0 hx (by decide)).trans rfl)
  simpa only [Addr.add_mid, Nat.zero_add, Nat.add_zero] using h1

set_option maxRecDepth 100000 in
set_option maxHeartbeats 1600000 in
theorem rretire_one (B i : Nat) (z : Int) (X : RR) (v vl : Value) (e0 : EE) (w : World) (hz : z = (i : Int)) (hX : IsRR B X v vl w) (he : X.es[i]? = some e0) (hl : X.es.length ≤ 64) (hll : X.left.length + 1 ≤ 1000000) :
    Calls Try.prog 58 #[.pointer (some ⟨B, 0, none⟩), .int .i64 z] w (RRetirePost B X v vl i e0 w) := by
  subst hz
  obtain ⟨i0, hi, hz0, hz1, hz2⟩ := info_parts info_int
  have hil : i < X.es.length := (List.getElem?_eq_some_iff.1 he).1
  obtain ⟨g, cap, rfl⟩ := slice_at hX.own (by omega)
  have c0 := cell_of_heap hX.blk 0
  simp at c0
  obtain ⟨c1, c2, c3⟩ := hX.ent rfl he
  have f3 := hX.own.frozenAt (i * 3 + 2)
  have HW := Lib.hid (hX.setGone he)
  have hgB : ¬ (g = B) := fun e => row_type hX.own B _ hX.blk (by decide) (by rw [e]; rfl)
  have hvl := own_lt hX.lft
  have hBl := heap_lt hX.blk
  have hgl := own_lt hX.own g rfl
  have hlg := Lib.hid (rows_ne hX.lft hX.own (by decide))
  clear hX
  have hget : (X.es.set i { e0 with gone := true })[i]? = some { e0 with gone := true } := by rw [List.getElem?_set_self hil]
  have Hget := Lib.hid hget; clear hget
  have Ho := Lib.hid (show X.off i e0 = { X with es := X.es.set i { e0 with gone := true }, left := X.left ++ [e0.seq] } from rfl)
  obtain ⟨s, id, gn⟩ := e0
  simp only [Nat.add_zero] at c1 c2 c3 Hget Ho ⊢
  clear c2 he
  obtain ⟨n, Hn⟩ : ∃ n, Hid (X.es.length = n) := ⟨_, rfl⟩
  rw [Hn.out] at hl hil c0 HW
  obtain ⟨q, Hq⟩ : ∃ q, Hid ((s == X.now) = q) := ⟨_, rfl⟩
  have hq : ((s : Int) == (X.now : Int)) = q := by rw [← Hq.out, Bool.eq_iff_iff, beq_iff_eq, beq_iff_eq]; omega
  -- behind the first store
  have a0 : (w.setCell ⟨g, i * 3 + 2, none⟩ (.bool true)).cell? ⟨B, 0, none⟩ = some (.slice (some ⟨g, 0, none⟩) n cap) := by have := cell_of_heap HW.out.blk 0; simpa using this
  have a3 : (w.setCell ⟨g, i * 3 + 2, none⟩ (.bool true)).cell? ⟨B, 3, none⟩ = some vl := by have := cell_of_heap HW.out.blk 3; simpa using this
  obtain ⟨a1, _, _⟩ := HW.out.ent rfl Hget.out
  simp only [Nat.add_zero] at a1
  go_enter Try.func58, Try.ntmps58
  have HL1 : Hid (((w.setCell ⟨g, i * 3 + 2, none⟩ (.bool true)).alloc (.cells #[.int .i64 (s : Int)] 3)).drew.ownsRow 0 3 1 vl X.left.length (natVals X.left)) := (HW.out.alloc _).drew.lft
  have HN1 : Hid (∀ j x, ([.int .i64 (s : Int)] : List Value)[j]? = some x → ((w.setCell ⟨g, i * 3 + 2, none⟩ (.bool true)).alloc (.cells #[.int .i64 (s : Int)] 3)).drew.cell? ((⟨w.heap.size, 0, none⟩ : Addr).add j) = some x) := cell_one_at _ _ _ _ (by simp)
  have HK1 : Hid (Keeps (fun k => vl.ownBlock = some k) (w.setCell ⟨g, i * 3 + 2, none⟩ (.bool true)) ((w.setCell ⟨g, i * 3 + 2, none⟩ (.bool true)).alloc (.cells #[.int .i64 (s : Int)] 3)).drew) := ((Keeps.refl _ _).alloc _).drew
  go_wp2_with (fail)
  go_region_law
    ((refine step_append_where _ rfl (.tmp 16) (.tmp 25) 47 rfl 3 i0 (.int .i64 0) 1 8 Try.underlying47 hi hz0 hz1 hz2 rfl (by decide) vl X.left.length (natVals X.left) (by simp [Act.eval]) HL1.out ⟨w.heap.size, 0, none⟩ 1 1 [.int .i64 (s : Int)] (by simp [Act.eval]) rfl HN1.out (by simp [Value.oneCell']) (by unfold maxLen; omega) (by omega) ?_; intro v5 w5 hown5 hgrow5 hold5; obtain ⟨g5, cap5, hv5⟩ := slice_at hown5 (by omega); subst hv5; have hk5 := HK1.out.trans (Keeps.of_grown (S := fun k => vl.ownBlock = some k) hgrow5 (fun _ e => e)); have h5 := HW.out.push (l := X.left ++ [s]) hk5 (by rw [natVals_snoc, List.length_append]; exact hown5); have HK5 := Lib.hid hk5; have HO5 := Lib.hid hold5; have HX5 := Lib.hid h5.2.2; have b5 := cell_of_heap h5.1 0; have b51 := cell_of_heap h5.1 1; have b53 := cell_of_heap h5.1 3; have f53 := free_of_heap h5.1 3; simp at b5 b51 b53; have e5 := own_ent h5.2.1 rfl Hget.out; simp only at e5; clear hown5 hgrow5 hold5 hk5 h5))
  all_goals
    go_wp2_with (fail)
    go_quiet (fail)
    go_wp2
    go_ret
    rw [← Hq.out]
    refine ⟨rfl, _, .slice (some ⟨g5, 0, none⟩) (X.left.length + 1) cap5, ?_, OldOrNew.refl _ _, ?_, ?_⟩
    · rw [Ho.out, Hn.out]; exact (HX5.out.drewN _)
    · intro k hk
      rcases HO5.out k hk with h | h
      · exact .inl h
      · exact .inr (by simp at h; omega)
    · refine ((((Keeps.refl _ w).setCell (.inl (.inr (.inl rfl)))).trans (HK5.out.mono (fun _ e => .inr (.inr e)))).setCell (.inl (.inl rfl))).then (T := fun _ => False) (Keeps.of_below (below_drewN (Below.refl _ _) _)) (fun _ _ e => e.elim)

/-! ### NewRemote -/
def NewRRPost (first : ByteArray) (w : World) (e : Ending) (w' : World) : Prop :=
  ∃ B v, e = .returned (.tuple #[.pointer (some ⟨B, 0, none⟩), .int .i64 0]) ∧ IsRR B ⟨[⟨0, first, false⟩], 0, 0, []⟩ v (.slice none 0 0) w' ∧ w.heap.size ≤ B ∧ (∀ g, v.ownBlock = some g → w.heap.size ≤ g) ∧ Below w.heap.size w w'

set_option maxRecDepth 100000 in
set_option maxHeartbeats 400000 in
theorem rnewRemote_yes (first : ByteArray) (w : World) (hk : first.size = 8) :
    Calls Try.prog 22 #[.string first] w (NewRRPost first w) := by
  have h1 : ((first.size : Int) != 8) = false := by simp; omega
  have Hk := Lib.hid hk; clear hk
  go_enter Try.func22, Try.ntmps22
  go_wp2
  go_ret2
  refine ⟨w.heap.size + 1, .slice (some ⟨w.heap.size, 0, none⟩) 1 1, rfl, ⟨?_, ?_, World.ownsRow_nil _ _ _ _⟩, by omega, fun k hk => by simp [Value.ownBlock] at hk; omega, ((Below.refl _ w).alloc (Nat.le_refl _) _).alloc (by simp) _⟩
  · have := heap_alloc_new (w.alloc (.cells #[.int .i64 0, .string first, .bool false] 86)) (.cells #[.slice (some ⟨w.heap.size, 0, none⟩) 1 1, .int .i64 0, .int .i64 0, .slice none 0 0] 89)
    rw [World.size_alloc] at this
    exact this
  · refine World.ownsRow.alloc ?_ _
    refine ⟨rfl, .inr ⟨w.heap.size, 1, #[.int .i64 0, .string first, .bool false], rfl, Nat.zero_le _, heap_alloc_new _ _, Nat.le_refl _, by unfold maxLen; decide, rfl, rfl⟩⟩

set_option maxRecDepth 100000 in
set_option maxHeartbeats 400000 in
theorem rnewRemote_no (first : ByteArray) (w : World) (hk : first.size ≠ 8) :
    Calls Try.prog 22 #[.string first] w fun e w' => e = .returned (.tuple #[.pointer none, .int .i64 70]) ∧ w = w' := by
  have h1 : ((first.size : Int) != 8) = true := by rw [bne_iff_ne]; omega
  have Hk := Lib.hid hk; clear hk
  go_enter Try.func22, Try.ntmps22
  go_wp2
  go_ret2
  exact ⟨rfl, rfl⟩

end Go.Proofs.Ytmdfpknhfkgfoaa
