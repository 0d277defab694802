/- path.Paths.receive: the walk where the path is new. -/
import Derived.Test.YtmdfpknhfkgfoaaDoorPRecv
namespace Go.Proofs.YtmdfpknhfkgfoaaDoor
open Go.RowKit Go.Shelf

section
variable (aA aP : Addr) (w0 : World) (B : Nat) (β : Int × Int → Nat) (S : PS) (v : Value) (now l r n : Int) (w : World)

theorem room_no {S : PS} (h : S.room.1 = false) : S.room.2 = S := by
  unfold PS.room at h ⊢
  split at h
  · cases h
  · rename_i h4
    rw [if_neg h4]
    cases hv : S.vic with
    | none => rfl
    | some i => rw [hv] at h; cases h

theorem own_lt {B : Nat} {β : Int × Int → Nat} {S : PS} {v : Value} {W : World} (h : IsPS B β S v W) {b : Nat} (hb : POwn B β S v b) : b < W.heap.size := by
  rcases hb with rfl | hb | ⟨e, he, rfl⟩
  · exact heap_lt h.blk
  · exact (h.own.lt b hb).2
  · exact heap_lt (h.ent e he)

theorem slice_at6 {w : World} {base size : Nat} {e : TypeId} {v : Value} {n : Nat} {xs : List Value} (h : w.ownsRow base e size v n xs) (hn : 1 ≤ n) : ∃ (g cap : Nat), v = .slice (some ⟨g, 0, none⟩) n cap := by
  rcases h.2 with ⟨_, h2⟩ | ⟨g, cap, cur, hv, _⟩
  · omega
  · exact ⟨g, cap, hv⟩

theorem room_len {S : PS} (h4 : S.es.length ≤ 4) (h : S.room.1 = true) : S.room.2.es.length ≤ 3 := by
  unfold PS.room at h ⊢
  split at h
  · rename_i h5
    rw [if_pos h5]
    show S.es.length ≤ 3
    omega
  · rename_i h5
    rw [if_neg h5]
    cases hv : S.vic with
    | none => rw [hv] at h; cases h
    | some i =>
      have hi : i < S.es.length := (List.findIdx?_eq_some_iff_getElem.1 hv).1
      show (S.es.eraseIdx i).length ≤ 3
      rw [List.length_eraseIdx_of_lt hi]
      omega

theorem room_sub {S : PS} {e : PE} (he : e ∈ S.room.2.es) : e ∈ S.es := by
  unfold PS.room at he
  split at he
  · exact he
  · split at he
    · exact List.mem_of_mem_eraseIdx he
    · exact he

theorem PAt.growAt {w0 : World} {B : Nat} {β : Int × Int → Nat} {S : PS} {v v' : Value} {W W' : World} {l r n : Int} (h : PAt w0 B β S v W) (hl : S.es.length ≤ 3) (hk0 : ∀ e ∈ S.es, e.key ≠ (l, r)) (hn : 0 ≤ n ∧ n ≤ 65536)
    (hk : Keeps (fun b => b = B ∨ v.ownBlock = some b) W W') (hN : W'.heap[W.heap.size]? = some (.cells (PE.cells ⟨l, r, ⟨#[]⟩, 0, n, 0, false⟩) 96 (0, 0)))
    (hb : W'.heap[B]? = some (.cells #[v', ptrTo β S.act, prevV β S.prev] 99 (0, 0)))
    (hown : W'.ownsRow 0 90 1 v' (S.es.length + 1) ((S.es.map fun e => ptrTo β e.key) ++ [.pointer (some ⟨W.heap.size, 0, none⟩)]))
    (hold : OldOrNew v v' W.heap.size) : PGo w0 B β S v (fun k => if k = (l, r) then W.heap.size else β k) (S.grown l r n) v' W W' := by
  have hb' : ∀ e ∈ S.es, (fun k => if k = (l, r) then W.heap.size else β k) e.key = β e.key := fun e he => if_neg (hk0 e he)
  have hx' : (fun k => if k = (l, r) then W.heap.size else β k) (l, r) = W.heap.size := if_pos rfl
  have hact : (fun k => if k = (l, r) then W.heap.size else β k) S.act = β S.act := by
    obtain ⟨e, he, hke⟩ := h.is.act
    rw [← hke]; exact hb' e he
  have hprev : prevV (fun k => if k = (l, r) then W.heap.size else β k) S.prev = prevV β S.prev := by
    cases hp : S.prev with
    | none => rfl
    | some k =>
      obtain ⟨e, he, hke⟩ := h.is.prev k hp
      have := hb' e he
      rw [hke] at this
      show Value.pointer (some ⟨(if k = (l, r) then W.heap.size else β k), 0, none⟩) = .pointer (some ⟨β k, 0, none⟩)
      rw [show (if k = (l, r) then W.heap.size else β k) = β k from this]
  generalize hβ : (fun k => if k = (l, r) then W.heap.size else β k) = β' at hb' hx' hact hprev ⊢
  have hm : ∀ e ∈ (S.grown l r n).es, e ∈ S.es ∨ e = ⟨l, r, ⟨#[]⟩, 0, n, 0, false⟩ := fun e he => by
    rcases List.mem_append.1 he with h1 | h1
    · exact .inl h1
    · exact .inr (List.mem_singleton.1 h1)
  have hxk : β' (PE.key ⟨l, r, ⟨#[]⟩, 0, n, 0, false⟩) = W.heap.size := hx'
  have hlt : ∀ e ∈ S.es, β' e.key < W.heap.size := fun e he => by rw [hb' e he]; exact heap_lt (h.is.ent e he)
  have hgrow : ∀ b, POwn B β' (S.grown l r n) v' b → POwn B β S v b ∨ W.heap.size ≤ b := fun b hbo => by
    rcases hbo with h1 | h1 | ⟨e, he, h1⟩
    · exact .inl (.inl h1)
    · rcases hold b h1 with h2 | h2
      · exact .inl (.inr (.inl h2))
      · exact .inr h2
    · rcases hm e he with h2 | rfl
      · exact .inl (.inr (.inr ⟨e, h2, by rw [h1, hb' e h2]⟩))
      · exact .inr (by rw [h1, hxk]; exact Nat.le_refl _)
  have hR : ∀ b, (b = B ∨ v.ownBlock = some b) → POwn B β S v b := fun b hb => hb.elim .inl (fun h => .inr (.inl h))
  refine ⟨⟨⟨?_, ?_, ?_, ?_, ?_, ?_, ?_, ?_⟩, ?_, ?_, ?_⟩, ?_, hgrow⟩
  · show W'.heap[B]? = some (.cells #[v', .pointer (some ⟨β' S.act, 0, none⟩), prevV β' S.prev] _ (0, 0))
    rw [hact, hprev]; exact hb
  · show W'.ownsRow 0 _ 1 v' (S.es ++ [_]).length ((S.es ++ [_]).map _)
    rw [List.length_append, List.map_append, List.map_cons, List.map_nil]
    have e1 : (S.es.map fun e => ptrTo β' e.key) = S.es.map fun e => ptrTo β e.key := List.map_congr_left fun e he => by
      unfold ptrTo; rw [hb' e he]
    rw [e1]
    unfold ptrTo at hown ⊢
    rw [hxk]
    exact hown
  · intro e he
    rcases hm e he with h1 | rfl
    · rw [hb' e h1]
      refine (hk.block _ (heap_lt (h.is.ent e h1)) (fun h2 => ?_)).trans (h.is.ent e h1)
      rcases h2 with h2 | h2
      · exact h.is.ne_ent h1 h2
      · exact h.is.ent_row h1 h2
    · rw [hxk]; exact hN
  · intro e he e' he' hee
    rcases hm e he with h1 | rfl
    · rcases hm e' he' with h2 | rfl
      · rw [hb' e h1, hb' e' h2] at hee
        exact h.is.inj e h1 e' h2 hee
      · have := hlt e h1; rw [hxk] at hee; omega
    · rcases hm e' he' with h2 | rfl
      · have := hlt e' h2; rw [hxk] at hee; omega
      · rfl
  · show ((S.es ++ [_]).map PE.key).Nodup
    rw [List.map_append, List.nodup_append]
    refine ⟨h.is.nd, by simp, fun a ha b hb2 hab => ?_⟩
    obtain ⟨e, he, rfl⟩ := List.mem_map.1 ha
    rw [List.map_cons, List.map_nil, List.mem_singleton] at hb2
    exact hk0 e he (by rw [hab, hb2]; rfl)
  · obtain ⟨e, he, hke⟩ := h.is.act
    exact ⟨e, List.mem_append_left _ he, hke⟩
  · intro k hk2
    obtain ⟨e, he, hke⟩ := h.is.prev k hk2
    exact ⟨e, List.mem_append_left _ he, hke⟩
  · show (S.es ++ [_]).length ≤ 4
    rw [List.length_append]; show S.es.length + 1 ≤ 4; omega
  · intro b hbo
    rcases hgrow b hbo with h1 | h1
    · exact h.base b h1
    · exact Nat.le_trans h.below.size h1
  · exact hk.below h.below (fun b hb2 => h.base b (hR b hb2)) h.below.size
  · intro e he
    rcases hm e he with h1 | rfl
    · exact h.small e h1
    · exact ⟨hn.1, by show n ≤ 1000000000000; omega, Int.le_refl 0, by show (0 : Int) ≤ 1000000000000; decide, Int.le_refl 0, by show (0 : Int) ≤ 1000000000; decide⟩
  · exact hk.mono hR

set_option maxRecDepth 100000 in
set_option maxHeartbeats 1600000 in
theorem recv_full (hE : Errs aA aP w) (hS : PAt w0 B β S v w) (hprev : ∀ k, S.prev = some k → S.valid k = true) (h1 : within 0 1000000000 now = true) (h2 : addrsOk l r = true) (h3 : within 0 65536 n = true) (hg : S.get (l, r) = none) (hr : S.room.1 = false) : RecvSays aA aP w0 B β S v now l r n w := by
  have Hv := Lib.hid (show S.received now l r n = (240, S) by unfold PS.received recvOk; rw [h1, h2, h3, hg, hr]; rfl)
  have H1 := Lib.hid h1; clear h1
  have H2 := Lib.hid h2; clear h2
  have H3 := Lib.hid h3; clear h3
  have Hg := Lib.hid hg; clear hg
  have HP := Lib.hid hprev; clear hprev
  have HR := Lib.hid hr; clear hr
  have HS := Lib.hid hS
  have HE := Lib.hid hE
  clear hE hS
  unfold RecvSays
  rw [Hv.out]
  have hB0 : Hid (Below w.heap.size w (w.alloc (.cells #[.int .i64 l, .int .i64 r] 92))) := (Below.refl _ w).alloc (Nat.le_refl _) _
  have hX0 := Lib.hid (heap_alloc_new w (.cells #[.int .i64 l, .int .i64 r] 92))
  go_enter Tryd.func49, Tryd.ntmps49
  go_wp2_with (fail)
  refine (areIn_one 0 1000000000 now _ _ (by simp)).mono ?_
  rintro e w2 ⟨rfl, hb2⟩
  have hX2 := Lib.hid ((hb2.block _ (heap_lt hX0.out)).trans hX0.out)
  have hB2 : Hid (Below w.heap.size w w2) := hB0.out.trans (hb2.mono hB0.out.size)
  clear hb2
  rw [H1.out]
  have c20 := cell_of_heap hX2.out 0
  have c21 := cell_of_heap hX2.out 1
  go_wp2_with (fail)
  refine (isValid_any l r _).mono ?_
  rintro e w3 ⟨rfl, hb3⟩
  have hX3 := Lib.hid ((hb3.block _ (heap_lt hX2.out)).trans hX2.out)
  have hB3 : Hid (Below w.heap.size w w3) := hB2.out.trans (hb3.mono hB2.out.size)
  clear hb3 c20 c21
  rw [H2.out]
  go_wp2_with (fail)
  refine (areIn_one 0 65536 n _ _ (by simp)).mono ?_
  rintro e w4 ⟨rfl, hb4⟩
  have hX4 := Lib.hid ((hb4.block _ (heap_lt hX3.out)).trans hX3.out)
  have hB4 : Hid (Below w.heap.size w w4) := hB3.out.trans (hb4.mono hB3.out.size)
  clear hb4
  rw [H3.out]
  have c40 := cell_of_heap hX4.out 0
  have c41 := cell_of_heap hX4.out 1
  go_wp2_with (fail)
  refine (find_no aA aP B β S v l r _ (HE.out.below hB4.out) (HS.out.is.below hB4.out) Hg.out).mono ?_
  rintro e w5 ⟨rfl, hb5⟩
  have hX5 := Lib.hid ((hb5.block _ (heap_lt hX4.out)).trans hX4.out)
  have hB5 : Hid (Below w.heap.size w w5) := hB4.out.trans (hb5.mono hB4.out.size)
  clear hb5 c40 c41
  go_wp2_with (fail)
  refine (room_any aA aP w0 B β S v w5 (HE.out.below hB5.out) (HS.out.of_below hB5.out) HP.out).mono ?_
  rintro e w6 ⟨rfl, v6, hG6⟩
  rw [HR.out]
  have HG6 := Lib.hid hG6; clear hG6
  go_wp2
  go_ret
  refine ⟨rfl, β, v6, ?_⟩
  have hG := HG6.out
  rw [room_no HR.out] at hG
  exact (HS.out.go_same hB5.out).trans hG

set_option maxRecDepth 100000 in
set_option maxHeartbeats 1600000 in
theorem recv_new (hE : Errs aA aP w) (hS : PAt w0 B β S v w) (hprev : ∀ k, S.prev = some k → S.valid k = true) (h1 : within 0 1000000000 now = true) (h2 : addrsOk l r = true) (h3 : within 0 65536 n = true) (hg : S.get (l, r) = none) (hr : S.room.1 = true) : RecvSays aA aP w0 B β S v now l r n w := by
  have hin : 0 ≤ n ∧ n ≤ 65536 := by
    have := h3
    unfold within at this
    rw [Bool.and_eq_true] at this
    exact ⟨of_decide_eq_true this.1, of_decide_eq_true this.2⟩
  have Hv := Lib.hid (show S.received now l r n = (0, S.room.2.grown l r n) by unfold PS.received recvOk; rw [h1, h2, h3, hg, hr]; rfl)
  have H1 := Lib.hid h1; clear h1
  have H2 := Lib.hid h2; clear h2
  have H3 := Lib.hid h3; clear h3
  have Hg := Lib.hid hg; clear hg
  have HP := Lib.hid hprev; clear hprev
  have HR := Lib.hid hr; clear hr
  have HS := Lib.hid hS
  have HE := Lib.hid hE
  clear hE hS
  unfold RecvSays
  rw [Hv.out]
  have hB0 : Hid (Below w.heap.size w (w.alloc (.cells #[.int .i64 l, .int .i64 r] 92))) := (Below.refl _ w).alloc (Nat.le_refl _) _
  have hX0 := Lib.hid (heap_alloc_new w (.cells #[.int .i64 l, .int .i64 r] 92))
  go_enter Tryd.func49, Tryd.ntmps49
  go_wp2_with (fail)
  refine (areIn_one 0 1000000000 now _ _ (by simp)).mono ?_
  rintro e w2 ⟨rfl, hb2⟩
  have hX2 := Lib.hid ((hb2.block _ (heap_lt hX0.out)).trans hX0.out)
  have hB2 : Hid (Below w.heap.size w w2) := hB0.out.trans (hb2.mono hB0.out.size)
  clear hb2
  rw [H1.out]
  have c20 := cell_of_heap hX2.out 0
  have c21 := cell_of_heap hX2.out 1
  go_wp2_with (fail)
  refine (isValid_any l r _).mono ?_
  rintro e w3 ⟨rfl, hb3⟩
  have hX3 := Lib.hid ((hb3.block _ (heap_lt hX2.out)).trans hX2.out)
  have hB3 : Hid (Below w.heap.size w w3) := hB2.out.trans (hb3.mono hB2.out.size)
  clear hb3 c20 c21
  rw [H2.out]
  go_wp2_with (fail)
  refine (areIn_one 0 65536 n _ _ (by simp)).mono ?_
  rintro e w4 ⟨rfl, hb4⟩
  have hX4 := Lib.hid ((hb4.block _ (heap_lt hX3.out)).trans hX3.out)
  have hB4 : Hid (Below w.heap.size w w4) := hB3.out.trans (hb4.mono hB3.out.size)
  clear hb4
  rw [H3.out]
  have c40 := cell_of_heap hX4.out 0
  have c41 := cell_of_heap hX4.out 1
  go_wp2_with (fail)
  refine (find_no aA aP B β S v l r _ (HE.out.below hB4.out) (HS.out.is.below hB4.out) Hg.out).mono ?_
  rintro e w5 ⟨rfl, hb5⟩
  have hX5 := Lib.hid ((hb5.block _ (heap_lt hX4.out)).trans hX4.out)
  have hB5 : Hid (Below w.heap.size w w5) := hB4.out.trans (hb5.mono hB4.out.size)
  clear hb5 c40 c41
  go_wp2_with (fail)
  refine (room_any aA aP w0 B β S v w5 (HE.out.below hB5.out) (HS.out.of_below hB5.out) HP.out).mono ?_
  rintro e w6 ⟨rfl, v6, hG6⟩
  rw [HR.out]
  have HG6 := Lib.hid hG6; clear hG6
  have hnx : ¬ POwn B β S v w.heap.size := fun h => absurd (own_lt HS.out.is h) (Nat.lt_irrefl _)
  have hX6 := Lib.hid ((HG6.out.keeps.block _ (heap_lt hX5.out) hnx).trans hX5.out)
  have c60 := cell_of_heap hX6.out 0
  have c61 := cell_of_heap hX6.out 1
  obtain ⟨g6, cp6, hv6⟩ := slice_at6 HG6.out.now.is.own (by obtain ⟨ea, hma, _⟩ := HG6.out.now.is.act; exact List.length_pos_of_mem hma)
  subst hv6
  obtain ⟨i0, hi, hz0, hz1, hz2⟩ := info_parts info_ptr
  have hlen6 : S.room.2.es.length ≤ 3 := room_len HS.out.is.len HR.out
  have hA7 := HG6.out.now.of_below ((Below.refl _ w6).alloc (Nat.le_refl _) (.cells #[.int .i64 l, .int .i64 r, .string ⟨#[]⟩, .int .i64 0, .int .i64 0, .int .i64 0, .bool false] 96))
  have hA8 := hA7.of_below ((Below.refl _ _).alloc (Nat.le_refl _) (.cells #[.pointer (some ⟨w6.heap.size, 0, none⟩)] 90))
  have hN7 := heap_alloc_new w6 (.cells #[.int .i64 l, .int .i64 r, .string ⟨#[]⟩, .int .i64 0, .int .i64 0, .int .i64 0, .bool false] 96)
  have hN8 := Lib.hid ((Below.heap_alloc _ (.cells #[.pointer (some ⟨w6.heap.size, 0, none⟩)] 90) _ (heap_lt hN7)).trans hN7)
  have cB7 := cell_of_heap hA7.is.blk 0
  have cB8 := cell_of_heap hA8.is.blk 0
  have fB8 := free_of_heap hA8.is.blk 0
  have HA8 := Lib.hid hA8
  have hgB6 : (Value.slice (some ⟨g6, 0, none⟩) S.room.2.es.length cp6).ownBlock ≠ some B := HG6.out.now.is.ne_row
  have hgN6 : (Value.slice (some ⟨g6, 0, none⟩) S.room.2.es.length cp6).ownBlock ≠ some w6.heap.size := fun e => absurd (HG6.out.now.is.own.lt _ e).2 (Nat.lt_irrefl _)
  have hBN : B ≠ w6.heap.size := fun e => absurd (heap_lt HG6.out.now.is.blk) (by rw [e]; exact Nat.lt_irrefl _)
  have w1 : IntKind.i64.wrap (0 + n) = n := by rw [Int.zero_add]; exact IntWalk.i64_in _ (by omega)
  clear hnx hA7 hA8 hN7
  go_wp2_with (at_builtin; refine wpList_append_where _ rfl _ _ 97 rfl 90 i0 (.pointer none) 1 8 Tryd.underlying97 hi hz0 hz1 hz2 rfl (by decide) _ _ _ rfl HA8.out.is.own ⟨w6.heap.size + 1, 0, none⟩ 1 1 [.pointer (some ⟨w6.heap.size, 0, none⟩)] (by first | rfl | simp) rfl (by simpa using cell_one_new (w6.alloc (.cells #[.int .i64 l, .int .i64 r, .string ⟨#[]⟩, .int .i64 0, .int .i64 0, .int .i64 0, .bool false] 96)) (.pointer (some ⟨w6.heap.size, 0, none⟩)) 90) (by simp [Value.oneCell']) (by unfold maxLen; omega) (by omega) ?_; intro v9 w9 hown9 hgrow9 hold9; obtain ⟨g9, cp9, hv9⟩ := slice_at6 hown9 (by omega); subst hv9; have hk9 := Keeps.of_grown (S := fun k => (Value.slice (some ⟨g6, 0, none⟩) S.room.2.es.length cp6).ownBlock = some k) hgrow9 (fun _ e => e); have hB9 := Lib.hid ((hk9.block B (heap_lt HA8.out.is.blk) hgB6).trans HA8.out.is.blk); have hN9 := Lib.hid ((hk9.block w6.heap.size (heap_lt hN8.out) hgN6).trans hN8.out); have cB9 := cell_of_heap hB9.out 0; have fB9 := free_of_heap hB9.out 0; have hN10 := Lib.hid ((Below.heap_setCell w9 ⟨B, 0, none⟩ (.slice (some ⟨g9, 0, none⟩) (S.room.2.es.length + 1) cp9) _ hBN.symm).trans hN9.out); have cN := cell_of_heap hN10.out 4; have fN := free_of_heap hN10.out 4; have Hown9 := Lib.hid hown9; clear hown9; have Hk9 := Lib.hid hk9; clear hk9 hgrow9; have Hold9 := Lib.hid hold9; clear hold9)
  go_ret
  have hkeep : Keeps (fun b => b = B ∨ (Value.slice (some ⟨g6, 0, none⟩) S.room.2.es.length cp6).ownBlock = some b) w6 ((w9.setCell ⟨B, 0, none⟩ (.slice (some ⟨g9, 0, none⟩) (S.room.2.es.length + 1) cp9)).setCell ⟨w6.heap.size, 4, none⟩ (.int .i64 n)) :=
    (((((Keeps.refl _ w6).alloc _).alloc _).trans (Hk9.out.mono (fun _ e => .inr e))).setCell (.inl (.inl rfl))).setCell (.inr (Nat.le_refl _))
  have hblkB := (Below.heap_setCell (w9.setCell ⟨B, 0, none⟩ (.slice (some ⟨g9, 0, none⟩) (S.room.2.es.length + 1) cp9)) ⟨w6.heap.size, 4, none⟩ (.int .i64 n) _ hBN).trans (heap_setCell_at w9 B _ _ 0 _ hB9.out)
  have hblkN := heap_setCell_at _ w6.heap.size _ _ 4 (.int .i64 n) hN10.out
  have hold : OldOrNew (.slice (some ⟨g6, 0, none⟩) S.room.2.es.length cp6) (.slice (some ⟨g9, 0, none⟩) (S.room.2.es.length + 1) cp9) w6.heap.size := fun k hk => by
    rcases Hold9.out k hk with e | e
    · exact .inl e
    · exact .inr (by simp at e; omega)
  have hne9 : ∀ k, (Value.slice (some ⟨g9, 0, none⟩) (S.room.2.es.length + 1) cp9).ownBlock = some k → ¬ (k = B ∨ k = w6.heap.size) := fun k hk e => by
    rcases Hown9.out.2 with ⟨h1, _⟩ | ⟨g', cap', cur, hv', _, hgb, _⟩
    · cases h1
    · rw [hv'] at hk
      have hgk : g' = k := by simpa [Value.ownBlock] using hk
      subst hgk
      rcases e with e | e
      · rw [e, hB9.out] at hgb
        injection hgb with h1
        injection h1 with _ h2 _
        exact absurd h2 (by decide)
      · rw [e, hN9.out] at hgb
        injection hgb with h1
        injection h1 with _ h2 _
        exact absurd h2 (by decide)
  have hown := ownsRow_keeps Hown9.out (((Keeps.refl (fun k => k = B ∨ k = w6.heap.size) w9).setCell (j := 0) (v := .slice (some ⟨g9, 0, none⟩) (S.room.2.es.length + 1) cp9) (.inl (.inl rfl))).setCell (j := 4) (v := .int .i64 n) (.inl (.inr rfl))) hne9
  refine ⟨rfl, _, _, (HS.out.go_same hB5.out).trans (HG6.out.trans (HG6.out.now.growAt hlen6 (fun e he => PS.get_none Hg.out e (room_sub he)) hin hkeep hblkN hblkB hown hold))⟩
end
end Go.Proofs.YtmdfpknhfkgfoaaDoor
