/- The reference of law24: Received. Printed by genrrecv.py. -/
import Derived.Test.YtmdfpknhfkgfoaaDoorPRef4
namespace Go.Proofs.YtmdfpknhfkgfoaaDoor
open Go.RowKit Go.Shelf
set_option linter.unusedVariables false

theorem RAt.growAt {w0 : World} {B : Nat} {β : Int × Int → Nat} {S : PS} {v v' : Value} {W W' : World} {l r n : Int} (h : RAt w0 B β S v W) (hl : S.es.length ≤ 3) (hk0 : ∀ e ∈ S.es, e.key ≠ (l, r)) (hn : 0 ≤ n ∧ n ≤ 65536)
    (hk : Keeps (fun b => b = B ∨ v.ownBlock = some b) W W') (hN : RE W.heap.size ⟨l, r, ⟨#[]⟩, 0, n, 0, false⟩ W')
    (hb : W'.heap[B]? = some (.cells #[v', ptrTo β S.act, prevV β S.prev] 53 (0, 0)))
    (hown : W'.ownsRow 0 51 1 v' (S.es.length + 1) ((S.es.map fun e => ptrTo β e.key) ++ [.pointer (some ⟨W.heap.size, 0, none⟩)]))
    (hold : OldOrNew v v' W.heap.size) : RGo w0 B β S v (fun k => if k = (l, r) then W.heap.size else β k) (S.grown l r n) v' W W' := by
  have hb' : ∀ e ∈ S.es, (fun k => if k = (l, r) then W.heap.size else β k) e.key = β e.key := fun e he => if_neg (hk0 e he)
  have hx' : (fun k => if k = (l, r) then W.heap.size else β k) (l, r) = W.heap.size := if_pos rfl
  have hact : (fun k => if k = (l, r) then W.heap.size else β k) S.act = β S.act := by
    obtain ⟨e, he, hke⟩ := h.is.act
    rw [← hke]; exact hb' e he
  have hprev : prevV (fun k => if k = (l, r) then W.heap.size else β k) S.prev = prevV β S.prev := by
    cases hp : S.prev with
    | none => rfl
    | some k =>
      obtain ⟨e, he, hke⟩ := h.is.prev k hp
      have := hb' e he
      rw [hke] at this
      show Value.pointer (some ⟨(if k = (l, r) then W.heap.size else β k), 0, none⟩) = .pointer (some ⟨β k, 0, none⟩)
      rw [show (if k = (l, r) then W.heap.size else β k) = β k from this]
  generalize hβ : (fun k => if k = (l, r) then W.heap.size else β k) = β' at hb' hx' hact hprev ⊢
  have hm : ∀ e ∈ (S.grown l r n).es, e ∈ S.es ∨ e = ⟨l, r, ⟨#[]⟩, 0, n, 0, false⟩ := fun e he => by
    rcases List.mem_append.1 he with h1 | h1
    · exact .inl h1
    · exact .inr (List.mem_singleton.1 h1)
  have hxk : β' (PE.key ⟨l, r, ⟨#[]⟩, 0, n, 0, false⟩) = W.heap.size := hx'
  have hlt : ∀ e ∈ S.es, β' e.key < W.heap.size := fun e he => by rw [hb' e he]; exact (h.is.ent e he).lt
  have hgrow : ∀ b, POwn B β' (S.grown l r n) v' b → POwn B β S v b ∨ W.heap.size ≤ b := fun b hbo => by
    rcases hbo with h1 | h1 | ⟨e, he, h1⟩
    · exact .inl (.inl h1)
    · rcases hold b h1 with h2 | h2
      · exact .inl (.inr (.inl h2))
      · exact .inr h2
    · rcases hm e he with h2 | rfl
      · exact .inl (.inr (.inr ⟨e, h2, by rw [h1, hb' e h2]⟩))
      · exact .inr (by rw [h1, hxk]; exact Nat.le_refl _)
  have hR : ∀ b, (b = B ∨ v.ownBlock = some b) → POwn B β S v b := fun b hb => hb.elim .inl (fun h => .inr (.inl h))
  refine ⟨⟨⟨?_, ?_, ?_, ?_, ?_, ?_, ?_, ?_⟩, ?_, ?_, ?_⟩, ?_, hgrow⟩
  · show W'.heap[B]? = some (.cells #[v', .pointer (some ⟨β' S.act, 0, none⟩), prevV β' S.prev] _ (0, 0))
    rw [hact, hprev]; exact hb
  · show W'.ownsRow 0 _ 1 v' (S.es ++ [_]).length ((S.es ++ [_]).map _)
    rw [List.length_append, List.map_append, List.map_cons, List.map_nil]
    have e1 : (S.es.map fun e => ptrTo β' e.key) = S.es.map fun e => ptrTo β e.key := List.map_congr_left fun e he => by
      unfold ptrTo; rw [hb' e he]
    rw [e1]
    unfold ptrTo at hown ⊢
    rw [hxk]
    exact hown
  · intro e he
    rcases hm e he with h1 | rfl
    · rw [hb' e h1]
      refine (h.is.ent e h1).keep (hk.block _ (h.is.ent e h1).lt (fun h2 => ?_))
      rcases h2 with h2 | h2
      · exact h.is.ne_ent h1 h2
      · exact h.is.ent_row h1 h2
    · rw [hxk]; exact hN
  · intro e he e' he' hee
    rcases hm e he with h1 | rfl
    · rcases hm e' he' with h2 | rfl
      · rw [hb' e h1, hb' e' h2] at hee
        exact h.is.inj e h1 e' h2 hee
      · have := hlt e h1; rw [hxk] at hee; omega
    · rcases hm e' he' with h2 | rfl
      · have := hlt e' h2; rw [hxk] at hee; omega
      · rfl
  · show ((S.es ++ [_]).map PE.key).Nodup
    rw [List.map_append, List.nodup_append]
    refine ⟨h.is.nd, by simp, fun a ha b hb2 hab => ?_⟩
    obtain ⟨e, he, rfl⟩ := List.mem_map.1 ha
    rw [List.map_cons, List.map_nil, List.mem_singleton] at hb2
    exact hk0 e he (by rw [hab, hb2]; rfl)
  · obtain ⟨e, he, hke⟩ := h.is.act
    exact ⟨e, List.mem_append_left _ he, hke⟩
  · intro k hk2
    obtain ⟨e, he, hke⟩ := h.is.prev k hk2
    exact ⟨e, List.mem_append_left _ he, hke⟩
  · show (S.es ++ [_]).length ≤ 4
    rw [List.length_append]; show S.es.length + 1 ≤ 4; omega
  · intro b hbo
    rcases hgrow b hbo with h1 | h1
    · exact h.base b h1
    · exact Nat.le_trans h.below.size h1
  · exact hk.below h.below (fun b hb2 => h.base b (hR b hb2)) h.below.size
  · intro e he
    rcases hm e he with h1 | rfl
    · exact h.small e h1
    · exact ⟨hn.1, by show n ≤ 1000000000000; omega, Int.le_refl 0, by show (0 : Int) ≤ 1000000000000; decide, Int.le_refl 0, by show (0 : Int) ≤ 1000000000; decide⟩
  · exact hk.mono hR

section
variable (w0 : World) (B : Nat) (β : Int × Int → Nat) (S : PS) (v : Value) (now l r n : Int) (w : World)
abbrev RRecvSays : Prop := Calls Tryd.prog 52 #[.pointer (some ⟨B, 0, none⟩), .int .i64 now, .int .i64 l, .int .i64 r, .int .i64 n] w (RTurn w0 B β S v (.int .i64 (S.received now l r n).1) (S.received now l r n).2 w)
theorem rrecv_no (h : (within 0 1000000000 now && (within 1 65535 l && within 1 65535 r) && within 0 65536 n) = false) : S.received now l r n = (2, S) := by
  unfold PS.received recvOk addrsOk
  rw [h]; rfl

set_option maxRecDepth 100000 in
set_option maxHeartbeats 1600000 in
theorem rrecv_1 (hS : RAt w0 B β S v w) (h1 : within 0 1000000000 now = false) : RRecvSays w0 B β S v now l r n w := by
  have HS := Lib.hid hS; clear hS
  unfold RRecvSays
  rw [rrecv_no S now l r n (by rw [h1]; rfl)]
  have H1 := Lib.hid h1; clear h1
  go_enter Tryd.func52, Tryd.ntmps52
  go_wp2_with (fail)
  refine (rtime_any now _).mono ?_
  rintro e w1 ⟨rfl, hw⟩
  rw [hw, H1.out]
  clear hw w1
  go_wp2
  go_ret
  exact ⟨rfl, β, v, HS.out.go_same (Below.refl _ _)⟩

set_option maxRecDepth 100000 in
set_option maxHeartbeats 1600000 in
theorem rrecv_2 (hS : RAt w0 B β S v w) (h1 : within 0 1000000000 now = true) (h2 : within 1 65535 l = false) : RRecvSays w0 B β S v now l r n w := by
  have HS := Lib.hid hS; clear hS
  unfold RRecvSays
  rw [rrecv_no S now l r n (by rw [h2]; simp)]
  have H1 := Lib.hid h1; clear h1
  have H2 := Lib.hid h2; clear h2
  go_enter Tryd.func52, Tryd.ntmps52
  go_wp2_with (fail)
  refine (rtime_any now _).mono ?_
  rintro e w1 ⟨rfl, hw⟩
  rw [hw, H1.out]
  clear hw w1
  go_wp2_with (fail)
  refine (raddr_any l _).mono ?_
  rintro e w1 ⟨rfl, hw⟩
  rw [hw, H2.out]
  clear hw w1
  go_wp2
  go_ret
  exact ⟨rfl, β, v, HS.out.go_same (Below.refl _ _)⟩

set_option maxRecDepth 100000 in
set_option maxHeartbeats 1600000 in
theorem rrecv_3 (hS : RAt w0 B β S v w) (h1 : within 0 1000000000 now = true) (h2 : within 1 65535 l = true) (h3 : within 1 65535 r = false) : RRecvSays w0 B β S v now l r n w := by
  have HS := Lib.hid hS; clear hS
  unfold RRecvSays
  rw [rrecv_no S now l r n (by rw [h3]; simp)]
  have H1 := Lib.hid h1; clear h1
  have H2 := Lib.hid h2; clear h2
  have H3 := Lib.hid h3; clear h3
  go_enter Tryd.func52, Tryd.ntmps52
  go_wp2_with (fail)
  refine (rtime_any now _).mono ?_
  rintro e w1 ⟨rfl, hw⟩
  rw [hw, H1.out]
  clear hw w1
  go_wp2_with (fail)
  refine (raddr_any l _).mono ?_
  rintro e w1 ⟨rfl, hw⟩
  rw [hw, H2.out]
  clear hw w1
  go_wp2_with (fail)
  refine (raddr_any r _).mono ?_
  rintro e w1 ⟨rfl, hw⟩
  rw [hw, H3.out]
  clear hw w1
  go_wp2
  go_ret
  exact ⟨rfl, β, v, HS.out.go_same (Below.refl _ _)⟩

set_option maxRecDepth 100000 in
set_option maxHeartbeats 1600000 in
theorem rrecv_4 (hS : RAt w0 B β S v w) (h1 : within 0 1000000000 now = true) (h2 : within 1 65535 l = true) (h3 : within 1 65535 r = true) (h4 : within 0 65536 n = false) : RRecvSays w0 B β S v now l r n w := by
  have HS := Lib.hid hS; clear hS
  unfold RRecvSays
  rw [rrecv_no S now l r n (by rw [h4]; simp)]
  have H1 := Lib.hid h1; clear h1
  have H2 := Lib.hid h2; clear h2
  have H3 := Lib.hid h3; clear h3
  have H4 := Lib.hid h4; clear h4
  go_enter Tryd.func52, Tryd.ntmps52
  go_wp2_with (fail)
  refine (rtime_any now _).mono ?_
  rintro e w1 ⟨rfl, hw⟩
  rw [hw, H1.out]
  clear hw w1
  go_wp2_with (fail)
  refine (raddr_any l _).mono ?_
  rintro e w1 ⟨rfl, hw⟩
  rw [hw, H2.out]
  clear hw w1
  go_wp2_with (fail)
  refine (raddr_any r _).mono ?_
  rintro e w1 ⟨rfl, hw⟩
  rw [hw, H3.out]
  clear hw w1
  go_wp2_with (fail)
  refine (rsize_any n _).mono ?_
  rintro e w1 ⟨rfl, hw⟩
  rw [hw, H4.out]
  clear hw w1
  go_wp2
  go_ret
  exact ⟨rfl, β, v, HS.out.go_same (Below.refl _ _)⟩

set_option maxRecDepth 100000 in
set_option maxHeartbeats 1600000 in
theorem rrecv_known (hS : RAt w0 B β S v w) (h1 : within 0 1000000000 now = true) (h2 : within 1 65535 l = true) (h3 : within 1 65535 r = true) (h4 : within 0 65536 n = true) (e0 : PE) (hg : S.get (l, r) = some e0) (hsm : e0.rcv + n ≤ 1000000000000) : RRecvSays w0 B β S v now l r n w := by
  have HS := Lib.hid hS; clear hS
  unfold RRecvSays
  have hok : recvOk now l r n = true := by unfold recvOk addrsOk; rw [h1, h2, h3, h4]; rfl
  rw [show S.received now l r n = (0, S.upd (l, r) (PE.recv n)) by unfold PS.received; rw [if_pos hok, hg]; rfl]
  have hn0 := within_ge h4
  have hn1 := within_le h4
  obtain ⟨s1, s2, s3, s4, s5, s6⟩ := HS.out.small e0 (PS.get_mem hg).1
  have Hsm : Hid ((e0.recv n).small) := ⟨by show 0 ≤ e0.rcv + n; omega, hsm, s3, s4, s5, s6⟩
  have wr : IntKind.i64.wrap (e0.rcv + n) = e0.rcv + n := IntWalk.i64_in _ (by omega)
  have Hg := Lib.hid hg; clear hg hok
  have H1 := Lib.hid h1; clear h1
  have H2 := Lib.hid h2; clear h2
  have H3 := Lib.hid h3; clear h3
  have H4 := Lib.hid h4; clear h4
  go_enter Tryd.func52, Tryd.ntmps52
  go_wp2_with (fail)
  refine (rtime_any now _).mono ?_
  rintro e w1 ⟨rfl, hw⟩
  rw [hw, H1.out]
  clear hw w1
  go_wp2_with (fail)
  refine (raddr_any l _).mono ?_
  rintro e w1 ⟨rfl, hw⟩
  rw [hw, H2.out]
  clear hw w1
  go_wp2_with (fail)
  refine (raddr_any r _).mono ?_
  rintro e w1 ⟨rfl, hw⟩
  rw [hw, H3.out]
  clear hw w1
  go_wp2_with (fail)
  refine (rsize_any n _).mono ?_
  rintro e w1 ⟨rfl, hw⟩
  rw [hw, H4.out]
  clear hw w1
  go_wp2_with (fail)
  refine (rfind_yes B β S v l r _ HS.out.is Hg.out).mono ?_
  rintro e w3 ⟨rfl, hb3⟩
  have HB3 := Lib.hid hb3; clear hb3
  obtain ⟨t, ht, hb⟩ := (HS.out.is.below HB3.out).at Hg.out
  have c2 := cell_of_heap hb 2
  have f2 := free_of_heap hb 2
  have Hb := Lib.hid hb; have Ht := Lib.hid ht
  clear hb ht
  go_wp2
  go_ret
  refine ⟨rfl, β, v, HS.out.upd Hg.out (PE.recv n) (fun _ => rfl) Hsm.out HB3.out ((Keeps.refl _ _).setCell (.inl rfl)) ⟨t, ⟨Ht.out.calm, Ht.out.same, Ht.out.lo, Ht.out.hi⟩, ?_⟩⟩
  exact heap_setCell_at w3 (β (l, r)) _ _ 2 _ Hb.out

set_option maxRecDepth 100000 in
set_option maxHeartbeats 1600000 in
theorem rrecv_full (hS : RAt w0 B β S v w) (hprev : ∀ k, S.prev = some k → S.valid k = true) (h1 : within 0 1000000000 now = true) (h2 : within 1 65535 l = true) (h3 : within 1 65535 r = true) (h4 : within 0 65536 n = true) (hg : S.get (l, r) = none) (hr : S.room.1 = false) : RRecvSays w0 B β S v now l r n w := by
  have HS := Lib.hid hS; clear hS
  unfold RRecvSays
  have hok : recvOk now l r n = true := by unfold recvOk addrsOk; rw [h1, h2, h3, h4]; rfl
  rw [show S.received now l r n = (240, S) by unfold PS.received; rw [if_pos hok, hg, hr]; rfl]
  have HP := Lib.hid hprev; clear hprev
  have HR := Lib.hid hr; clear hr
  have Hg := Lib.hid hg; clear hg hok
  have H1 := Lib.hid h1; clear h1
  have H2 := Lib.hid h2; clear h2
  have H3 := Lib.hid h3; clear h3
  have H4 := Lib.hid h4; clear h4
  go_enter Tryd.func52, Tryd.ntmps52
  go_wp2_with (fail)
  refine (rtime_any now _).mono ?_
  rintro e w1 ⟨rfl, hw⟩
  rw [hw, H1.out]
  clear hw w1
  go_wp2_with (fail)
  refine (raddr_any l _).mono ?_
  rintro e w1 ⟨rfl, hw⟩
  rw [hw, H2.out]
  clear hw w1
  go_wp2_with (fail)
  refine (raddr_any r _).mono ?_
  rintro e w1 ⟨rfl, hw⟩
  rw [hw, H3.out]
  clear hw w1
  go_wp2_with (fail)
  refine (rsize_any n _).mono ?_
  rintro e w1 ⟨rfl, hw⟩
  rw [hw, H4.out]
  clear hw w1
  go_wp2_with (fail)
  refine (rfind_no B β S v l r _ HS.out.is Hg.out).mono ?_
  rintro e w3 ⟨rfl, hb3⟩
  have HB3 := Lib.hid hb3; clear hb3
  go_wp2_with (fail)
  refine (rroom_any w0 B β S v w3 (HS.out.of_below HB3.out) HP.out).mono ?_
  rintro e w4 ⟨rfl, v4, hG⟩
  rw [HR.out]
  rw [room_no HR.out] at hG
  have HG := Lib.hid hG; clear hG
  go_wp2
  go_ret
  exact ⟨rfl, β, v4, (HS.out.go_same HB3.out).trans HG.out⟩

set_option maxRecDepth 100000 in
set_option maxHeartbeats 1600000 in
theorem rrecv_new (hS : RAt w0 B β S v w) (hprev : ∀ k, S.prev = some k → S.valid k = true) (h1 : within 0 1000000000 now = true) (h2 : within 1 65535 l = true) (h3 : within 1 65535 r = true) (h4 : within 0 65536 n = true) (hg : S.get (l, r) = none) (hr : S.room.1 = true) : RRecvSays w0 B β S v now l r n w := by
  have HS := Lib.hid hS; clear hS
  unfold RRecvSays
  have hok : recvOk now l r n = true := by unfold recvOk addrsOk; rw [h1, h2, h3, h4]; rfl
  rw [show S.received now l r n = (0, S.room.2.grown l r n) by unfold PS.received; rw [if_pos hok, hg, hr]; rfl]
  have hin : Hid (0 ≤ n ∧ n ≤ 65536) := ⟨within_ge h4, within_le h4⟩
  have wr : IntKind.i64.wrap (0 + n) = n := by rw [Int.zero_add]; exact IntWalk.i64_in _ (by have := hin.out; omega)
  have wr2 : IntKind.i64.wrap n = n := IntWalk.i64_in _ (by have := hin.out; omega)
  have HP := Lib.hid hprev; clear hprev
  have HR := Lib.hid hr; clear hr
  have Hg := Lib.hid hg; clear hg hok
  have H1 := Lib.hid h1; clear h1
  have H2 := Lib.hid h2; clear h2
  have H3 := Lib.hid h3; clear h3
  have H4 := Lib.hid h4; clear h4
  go_enter Tryd.func52, Tryd.ntmps52
  go_wp2_with (fail)
  refine (rtime_any now _).mono ?_
  rintro e w1 ⟨rfl, hw⟩
  rw [hw, H1.out]
  clear hw w1
  go_wp2_with (fail)
  refine (raddr_any l _).mono ?_
  rintro e w1 ⟨rfl, hw⟩
  rw [hw, H2.out]
  clear hw w1
  go_wp2_with (fail)
  refine (raddr_any r _).mono ?_
  rintro e w1 ⟨rfl, hw⟩
  rw [hw, H3.out]
  clear hw w1
  go_wp2_with (fail)
  refine (rsize_any n _).mono ?_
  rintro e w1 ⟨rfl, hw⟩
  rw [hw, H4.out]
  clear hw w1
  go_wp2_with (fail)
  refine (rfind_no B β S v l r _ HS.out.is Hg.out).mono ?_
  rintro e w5 ⟨rfl, hb3⟩
  have HB5 := Lib.hid hb3; clear hb3
  go_wp2_with (fail)
  refine (rroom_any w0 B β S v w5 (HS.out.of_below HB5.out) HP.out).mono ?_
  rintro e w6 ⟨rfl, v6, hG6⟩
  rw [HR.out]
  have HG6 := Lib.hid hG6; clear hG6
  obtain ⟨g6, cp6, hv6⟩ := slice_at6 HG6.out.now.is.own (by obtain ⟨ea, hma, _⟩ := HG6.out.now.is.act; exact List.length_pos_of_mem hma)
  subst hv6
  obtain ⟨i0, hi, hz0, hz1, hz2⟩ := info_parts rinfo_ptr
  have hlen6 : S.room.2.es.length ≤ 3 := room_len HS.out.is.len HR.out
  have hA7 := HG6.out.now.of_below ((Below.refl _ w6).alloc (Nat.le_refl _) (.cells #[.int .i64 l, .int .i64 r, .int .i64 0, .int .i64 0, .bool false, .string ⟨#[]⟩, .int .i64 0] 49))
  have hA8 := hA7.of_below ((Below.refl _ _).alloc (Nat.le_refl _) (.cells #[.pointer (some ⟨w6.heap.size, 0, none⟩)] 51))
  have hN7 := heap_alloc_new w6 (.cells #[.int .i64 l, .int .i64 r, .int .i64 0, .int .i64 0, .bool false, .string ⟨#[]⟩, .int .i64 0] 49)
  have hN8 := Lib.hid ((Below.heap_alloc _ (.cells #[.pointer (some ⟨w6.heap.size, 0, none⟩)] 51) _ (heap_lt hN7)).trans hN7)
  have cB7 := cell_of_heap hA7.is.blk 0
  have cB8 := cell_of_heap hA8.is.blk 0
  have fB8 := free_of_heap hA8.is.blk 0
  have HA8 := Lib.hid hA8
  have hgB6 : (Value.slice (some ⟨g6, 0, none⟩) S.room.2.es.length cp6).ownBlock ≠ some B := HG6.out.now.is.ne_row
  have hgN6 : (Value.slice (some ⟨g6, 0, none⟩) S.room.2.es.length cp6).ownBlock ≠ some w6.heap.size := fun e => absurd (HG6.out.now.is.own.lt _ e).2 (Nat.lt_irrefl _)
  have hBN : B ≠ w6.heap.size := fun e => absurd (heap_lt HG6.out.now.is.blk) (by rw [e]; exact Nat.lt_irrefl _)
  clear hA7 hA8 hN7
  go_wp2_with (at_builtin; refine wpList_append_where _ rfl _ _ 50 rfl 51 i0 (.pointer none) 1 8 Tryd.underlying50 hi hz0 hz1 hz2 rfl (by decide) _ _ _ rfl HA8.out.is.own ⟨w6.heap.size + 1, 0, none⟩ 1 1 [.pointer (some ⟨w6.heap.size, 0, none⟩)] (by first | rfl | simp) rfl (by simpa using cell_one_new (w6.alloc (.cells #[.int .i64 l, .int .i64 r, .int .i64 0, .int .i64 0, .bool false, .string ⟨#[]⟩, .int .i64 0] 49)) (.pointer (some ⟨w6.heap.size, 0, none⟩)) 51) (by simp [Value.oneCell']) (by unfold maxLen; omega) (by omega) ?_; intro v9 w9 hown9 hgrow9 hold9; obtain ⟨g9, cp9, hv9⟩ := slice_at6 hown9 (by omega); subst hv9; have hk9 := Keeps.of_grown (S := fun k => (Value.slice (some ⟨g6, 0, none⟩) S.room.2.es.length cp6).ownBlock = some k) hgrow9 (fun _ e => e); have hB9 := Lib.hid ((hk9.block B (heap_lt HA8.out.is.blk) hgB6).trans HA8.out.is.blk); have hN9 := Lib.hid ((hk9.block w6.heap.size (heap_lt hN8.out) hgN6).trans hN8.out); have cB9 := cell_of_heap hB9.out 0; have fB9 := free_of_heap hB9.out 0; have hN10 := Lib.hid ((Below.heap_setCell w9 ⟨B, 0, none⟩ (.slice (some ⟨g9, 0, none⟩) (S.room.2.es.length + 1) cp9) _ hBN.symm).trans hN9.out); have cN := cell_of_heap hN10.out 2; have fN := free_of_heap hN10.out 2; have Hown9 := Lib.hid hown9; clear hown9; have Hk9 := Lib.hid hk9; clear hk9 hgrow9; have Hold9 := Lib.hid hold9; clear hold9)
  go_ret
  have hkeep : Keeps (fun b => b = B ∨ (Value.slice (some ⟨g6, 0, none⟩) S.room.2.es.length cp6).ownBlock = some b) w6 ((w9.setCell ⟨B, 0, none⟩ (.slice (some ⟨g9, 0, none⟩) (S.room.2.es.length + 1) cp9)).setCell ⟨w6.heap.size, 2, none⟩ (.int .i64 n)) :=
    (((((Keeps.refl _ w6).alloc _).alloc _).trans (Hk9.out.mono (fun _ e => .inr e))).setCell (.inl (.inl rfl))).setCell (.inr (Nat.le_refl _))
  have hblkB := (Below.heap_setCell (w9.setCell ⟨B, 0, none⟩ (.slice (some ⟨g9, 0, none⟩) (S.room.2.es.length + 1) cp9)) ⟨w6.heap.size, 2, none⟩ (.int .i64 n) _ hBN).trans (heap_setCell_at w9 B _ _ 0 _ hB9.out)
  have hblkN : RE w6.heap.size ⟨l, r, ⟨#[]⟩, 0, n, 0, false⟩ _ := ⟨0, ⟨fun _ => rfl, fun h => absurd rfl h, Int.le_refl _, by decide⟩, heap_setCell_at _ w6.heap.size _ _ 2 (.int .i64 n) hN10.out⟩
  have hold : OldOrNew (.slice (some ⟨g6, 0, none⟩) S.room.2.es.length cp6) (.slice (some ⟨g9, 0, none⟩) (S.room.2.es.length + 1) cp9) w6.heap.size := fun k hk => by
    rcases Hold9.out k hk with e | e
    · exact .inl e
    · exact .inr (by simp at e; omega)
  have hne9 : ∀ k, (Value.slice (some ⟨g9, 0, none⟩) (S.room.2.es.length + 1) cp9).ownBlock = some k → ¬ (k = B ∨ k = w6.heap.size) := fun k hk e => by
    rcases Hown9.out.2 with ⟨h1, _⟩ | ⟨g', cap', cur, hv', _, hgb, _⟩
    · cases h1
    · rw [hv'] at hk
      have hgk : g' = k := by simpa [Value.ownBlock] using hk
      subst hgk
      rcases e with e | e
      · rw [e, hB9.out] at hgb
        injection hgb with h1
        injection h1 with _ h2 _
        exact absurd h2 (by decide)
      · rw [e, hN9.out] at hgb
        injection hgb with h1
        injection h1 with _ h2 _
        exact absurd h2 (by decide)
  have hown := ownsRow_keeps Hown9.out (((Keeps.refl (fun k => k = B ∨ k = w6.heap.size) w9).setCell (j := 0) (v := .slice (some ⟨g9, 0, none⟩) (S.room.2.es.length + 1) cp9) (.inl (.inl rfl))).setCell (j := 2) (v := .int .i64 n) (.inl (.inr rfl))) hne9
  refine ⟨rfl, _, _, (HS.out.go_same HB5.out).trans (HG6.out.trans (HG6.out.now.growAt hlen6 (fun e he => PS.get_none Hg.out e (room_sub he)) hin.out hkeep hblkN hblkB hown hold))⟩

theorem rreceived_any (hS : RAt w0 B β S v w) (hprev : ∀ k, S.prev = some k → S.valid k = true) (hsm : ∀ e ∈ S.es, n ≤ 65536 → e.rcv + n ≤ 1000000000000) : RRecvSays w0 B β S v now l r n w := by
  cases h1 : within 0 1000000000 now with
  | false => exact rrecv_1 w0 B β S v now l r n w hS h1
  | true =>
    cases h2 : within 1 65535 l with
    | false => exact rrecv_2 w0 B β S v now l r n w hS h1 h2
    | true =>
      cases h3 : within 1 65535 r with
      | false => exact rrecv_3 w0 B β S v now l r n w hS h1 h2 h3
      | true =>
        cases h4 : within 0 65536 n with
        | false => exact rrecv_4 w0 B β S v now l r n w hS h1 h2 h3 h4
        | true =>
          cases hg : S.get (l, r) with
          | some e0 => exact rrecv_known w0 B β S v now l r n w hS h1 h2 h3 h4 e0 hg (hsm e0 (PS.get_mem hg).1 (within_le h4))
          | none =>
            cases hr : S.room.1 with
            | false => exact rrecv_full w0 B β S v now l r n w hS hprev h1 h2 h3 h4 hg hr
            | true => exact rrecv_new w0 B β S v now l r n w hS hprev h1 h2 h3 h4 hg hr
end
end Go.Proofs.YtmdfpknhfkgfoaaDoor
