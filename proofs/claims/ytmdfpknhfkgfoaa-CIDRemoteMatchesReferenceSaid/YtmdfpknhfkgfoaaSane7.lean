/- law07's sane. -/
import Derived.Test.YtmdfpknhfkgfoaaLaw7
namespace Go.Proofs.Ytmdfpknhfkgfoaa
open Go.RowKit Go.Shelf

theorem IsLoc.keeps {S : Nat → Prop} {B : Nat} {L : Loc} {w w' : World} (h : IsLoc B L w) (hk : Keeps S w w') (hB : ¬ S B) : IsLoc B L w' := ⟨h.blk.keeps hk hB, h.le, h.key⟩
theorem IsLoc.below {B : Nat} {L : Loc} {w w' : World} (h : IsLoc B L w) (hb : Below w.heap.size w w') : IsLoc B L w' := h.keeps (S := fun _ => False) (Keeps.of_below hb) (fun h => h)
theorem IsLoc.alloc {B : Nat} {L : Loc} {w : World} (h : IsLoc B L w) (o : Obj) : IsLoc B L (w.alloc o) := h.below ((Below.refl _ _).alloc (Nat.le_refl _) o)

/-- Issue, while all are active. -/
theorem issue_loc (B : Nat) (key : ByteArray) (n : Nat) (w : World) (hL : IsLoc B (locN key n) w) (h : n < 4) :
    Calls Try.prog 38 #[.pointer (some ⟨B, 0, none⟩)] w (IssuePost B (locN key (n + 1)) (frameV 24 n 0 (idB key n)) 0 w) := by
  have := issue_yes B (locN key n) w hL (by rw [locN_n]; omega) (by rw [locN_actives]; exact h)
  rw [locN_n, locN_key] at this
  exact this
theorem issue_loc4 (B : Nat) (key : ByteArray) (w : World) (hL : IsLoc B (locN key 4) w) :
    Calls Try.prog 38 #[.pointer (some ⟨B, 0, none⟩)] w (IssuePost B (locN key 4) (frameV 0 0 0 ⟨#[]⟩) 71 w) :=
  issue_many B (locN key 4) w hL (by rw [locN_n]; decide) (by rw [locN_actives]; decide)

theorem heap_keeps {S : Nat → Prop} {w w' : World} {b : Nat} {o : Obj} (h : w.heap[b]? = some o) (hk : Keeps S w w') (hS : ¬ S b) : w'.heap[b]? = some o := (hk.block b (Array.getElem?_eq_some_iff.1 h).1 hS).trans h
theorem heap_below {w w' : World} {b : Nat} {o : Obj} (h : w.heap[b]? = some o) (hb : Below w.heap.size w w') : w'.heap[b]? = some o := heap_keeps (S := fun _ => False) h (Keeps.of_below hb) (fun h => h)
theorem heap_alloc {w : World} {b : Nat} {o : Obj} (h : w.heap[b]? = some o) (o' : Obj) : (w.alloc o').heap[b]? = some o := heap_below h ((Below.refl _ _).alloc (Nat.le_refl _) _)
theorem below_alloc {w a : World} (h : Below w.heap.size w a) (o : Obj) : Below w.heap.size w (a.alloc o) := h.alloc h.size o

/-- A frame's cells. -/
abbrev frameC (ty seq ret : Int) (c : ByteArray) : Array Value := #[.int .i64 ty, .int .i64 0, .int .i64 0, .string ⟨#[]⟩, .bool false, .int .i64 0, .int .i64 0, .bool false, .int .i64 0, .slice none 0 0, .int .i64 seq, .int .i64 ret, .string c]

set_option maxRecDepth 100000 in
set_option maxHeartbeats 2000000 in
theorem sane7 (w : World) : Calls Try.prog 20 #[] w fun e w' => e = .returned (.bool true) ∧ Below w.heap.size w w' := by
  go_enter Try.func20, Try.ntmps20
  go_wp2_with (fail)
  refine (keyFrom_any ⟨#[120]⟩ w (by decide)).mono ?_
  rintro e w1 ⟨rfl, hb1⟩
  have hks := Lib.hid (keyFrom_size ⟨#[120]⟩)
  generalize keyFrom ⟨#[120]⟩ = key at *
  go_wp2_with (fail)
  refine (newLocal_yes key w1 hks.out).mono ?_
  rintro e w2 ⟨B, rfl, hL, hB, hb2⟩
  have HL1 : Hid (IsLoc B (locN key 1) w2) := hL
  have HB : Hid (Below w.heap.size w w2) := hb1.trans (hb2.mono hb1.size)
  have hBw : w.heap.size ≤ B := Nat.le_trans hb1.size hB
  clear hL hb1 hb2 hB
  go_wp2_with (fail)
  refine (newLocal_no ⟨#[120]⟩ w2 (by decide)).mono ?_
  rintro e w' ⟨rfl, rfl⟩
  go_wp2_with (fail)
  refine (issue_loc B key 1 w2 HL1.out (by decide)).mono ?_
  rintro e w3 ⟨rfl, hL2, hO2⟩
  have HL2 := Lib.hid (hL2.alloc (.cells (frameC 24 1 0 (idB key 1)) 42))
  have HB3 : Hid (Below w.heap.size w (w3.alloc (.cells (frameC 24 1 0 (idB key 1)) 42))) := below_alloc (hO2.keeps.below HB.out (fun i e => by rw [e]; exact hBw) HB.out.size) _
  have hBl := hL2.blk.lt
  have HFa := Lib.hid (heap_alloc_new w3 (.cells (frameC 24 1 0 (idB key 1)) 42))
  clear hL2 hO2 HL1 HB
  go_wp2_with (fail)
  refine (issue_loc B key 2 _ HL2.out (by decide)).mono ?_
  rintro e w4 ⟨rfl, hL3, hO3⟩
  have HL3 := Lib.hid (hL3.alloc (.cells (frameC 24 2 0 (idB key 2)) 42))
  have HB4 : Hid (Below w.heap.size w (w4.alloc (.cells (frameC 24 2 0 (idB key 2)) 42))) := below_alloc (hO3.keeps.below HB3.out (fun i e => by rw [e]; exact hBw) HB3.out.size) _
  have HFa4 := Lib.hid (heap_alloc (heap_keeps HFa.out hO3.keeps (by omega)) (.cells (frameC 24 2 0 (idB key 2)) 42))
  have HFb4 := Lib.hid (heap_alloc_new w4 (.cells (frameC 24 2 0 (idB key 2)) 42))
  have hBl4 := hL3.blk.lt
  have hs4 : w3.heap.size < w4.heap.size := by have := hO3.size; simp at this; omega
  clear hL3 hO3 HL2 HB3 HFa
  go_wp2_with (fail)
  refine (issue_loc B key 3 _ HL3.out (by decide)).mono ?_
  rintro e w5 ⟨rfl, hL4, hO4⟩
  have HL4 := Lib.hid (hL4.alloc (.cells (frameC 24 3 0 (idB key 3)) 42))
  have HB5 : Hid (Below w.heap.size w (w5.alloc (.cells (frameC 24 3 0 (idB key 3)) 42))) := below_alloc (hO4.keeps.below HB4.out (fun i e => by rw [e]; exact hBw) HB4.out.size) _
  have HFa5 := Lib.hid (heap_alloc (heap_keeps HFa4.out hO4.keeps (by omega)) (.cells (frameC 24 3 0 (idB key 3)) 42))
  have HFb5 := Lib.hid (heap_alloc (heap_keeps HFb4.out hO4.keeps (by omega)) (.cells (frameC 24 3 0 (idB key 3)) 42))
  have HFc5 := Lib.hid (heap_alloc_new w5 (.cells (frameC 24 3 0 (idB key 3)) 42))
  have hBl5 := hL4.blk.lt
  have hs5 : w4.heap.size < w5.heap.size := by have := hO4.size; simp at this; omega
  clear hL4 hO4 HL3 HB4 HFa4 HFb4
  go_wp2_with (fail)
  refine (issue_loc4 B key _ HL4.out).mono ?_
  rintro e w6 ⟨rfl, hL5, hO5⟩
  have HL5 := Lib.hid (hL5.alloc (.cells (frameC 0 0 0 ⟨#[]⟩) 42))
  have HB6 : Hid (Below w.heap.size w (w6.alloc (.cells (frameC 0 0 0 ⟨#[]⟩) 42))) := below_alloc (hO5.keeps.below HB5.out (fun i e => by rw [e]; exact hBw) HB5.out.size) _
  have HFa6 := Lib.hid (heap_alloc (heap_keeps HFa5.out hO5.keeps (by omega)) (.cells (frameC 0 0 0 ⟨#[]⟩) 42))
  have HFb6 := Lib.hid (heap_alloc (heap_keeps HFb5.out hO5.keeps (by omega)) (.cells (frameC 0 0 0 ⟨#[]⟩) 42))
  have HFc6 := Lib.hid (heap_alloc (heap_keeps HFc5.out hO5.keeps (by omega)) (.cells (frameC 0 0 0 ⟨#[]⟩) 42))
  have hs6 : w5.heap.size < w6.heap.size := by have := hO5.size; simp at this; omega
  have hBl6 := hL5.blk.lt
  clear hL5 hO5 HL4 HB5 HFa5 HFb5 HFc5
  go_wp2_with (fail)
  refine (newRemote_yes sA _ (by decide)).mono ?_
  rintro e w7 ⟨B2, rfl, hR, hB2, hb7⟩
  have HL7 := Lib.hid (HL5.out.below hb7)
  have HB7 := Lib.hid (below_then HB6.out hb7)
  have HFa7 := Lib.hid (heap_below HFa6.out hb7)
  have HFb7 := Lib.hid (heap_below HFb6.out hb7)
  have HFc7 := Lib.hid (heap_below HFc6.out hb7)
  have HR7 := Lib.hid hR
  have hB2' : w6.heap.size + 1 ≤ B2 := by simpa using hB2
  clear hR hb7 HL5 HB6 HFa6 HFb6 HFc6 hB2
  go_wp2_with (fail)
  refine (add_main B2 (newRem sA) (.slice none 0 0) w7 HR7.out _ _ _ _ _ _ _ _ _ 1 0 1 0 rfl rfl sB (by decide) (by decide) (by decide) r1_fits (by decide) (by decide)).mono ?_
  rintro e w8 ⟨he, v8, hR8, ho8, hk8⟩
  rw [r0_add] at he
  subst he
  have hS8 : ∀ k, k ≤ w6.heap.size → ¬ (k = B2 ∨ (Value.slice none 0 0).ownBlock = some k) := fun k hk e => by
    rcases e with e | e
    · omega
    · simp [Value.ownBlock] at e
  have HL8 := Lib.hid (HL7.out.keeps hk8 (hS8 _ (by omega)))
  have HB8 := Lib.hid (hk8.below HB7.out (fun i e => by rcases e with e | e; omega; simp [Value.ownBlock] at e) HB7.out.size)
  have HFa8 := Lib.hid (heap_keeps HFa7.out hk8 (hS8 _ (by omega)))
  have HFb8 := Lib.hid (heap_keeps HFb7.out hk8 (hS8 _ (by omega)))
  have HFc8 := Lib.hid (heap_keeps HFc7.out hk8 (hS8 _ (by omega)))
  have HR8 : Hid (IsRem B2 rem1 v8 w8) := hR8
  have hs7 := HR7.out.blk.lt
  have hv8 : ∀ k, v8.ownBlock = some k → w6.heap.size < k := fun k hk => by
    rcases ho8 k hk with e | e
    · simp [Value.ownBlock] at e
    · omega
  clear hR8 hk8 hS8 ho8 hs7 HL7 HB7 HFa7 HFb7 HFc7 HR7
  go_wp2_with (fail)
  refine (unused_any B2 rem1 v8 w8 HR8.out).mono ?_
  rintro e w9 ⟨rfl, hb9⟩
  rw [r1_unused]
  have HL9 := Lib.hid (HL8.out.below hb9)
  have HB9 := Lib.hid (below_then HB8.out hb9)
  have HFa9 := Lib.hid (heap_below HFa8.out hb9)
  have HFb9 := Lib.hid (heap_below HFb8.out hb9)
  have HFc9 := Lib.hid (heap_below HFc8.out hb9)
  have HR9 := Lib.hid (HR8.out.below hb9)
  clear hb9 HL8 HB8 HFa8 HFb8 HFc8 HR8
  go_wp2_with (fail)
  refine (rotate_yes B2 rem1 v8 w9 HR9.out (by decide) (fun h => by have := r1_unused; rw [h] at this; cases this)).mono ?_
  rintro e w10 ⟨rfl, v10, hR10, ho10, hk10⟩
  have hs9 : w6.heap.size < w9.heap.size := by have := HR9.out.blk.lt; omega
  have hv10 : ∀ k, v10.ownBlock = some k → w6.heap.size < k := fun k hk => by
    rcases ho10 k hk with e | e
    · exact hv8 k e
    · omega
  have hS10 : ∀ k, k ≤ w6.heap.size → ¬ (k = B2 ∨ v8.ownBlock = some k) := fun k hk e => by
    rcases e with e | e
    · omega
    · have := hv8 k e; omega
  have hw6 : w.heap.size ≤ w6.heap.size := by omega
  have HL10 := Lib.hid (HL9.out.keeps hk10 (hS10 _ (by omega)))
  have HB10 := Lib.hid (hk10.below HB9.out (fun i e => by rcases e with e | e; omega; have := hv8 i e; omega) HB9.out.size)
  have HFa10 := Lib.hid (heap_keeps HFa9.out hk10 (hS10 _ (by omega)))
  have HFb10 := Lib.hid (heap_keeps HFb9.out hk10 (hS10 _ (by omega)))
  have HFc10 := Lib.hid (heap_keeps HFc9.out hk10 (hS10 _ (by omega)))
  have HR10 := Lib.hid hR10
  clear hR10 hk10 hS10 ho10 hv8 hs9 HL9 HB9 HFa9 HFb9 HFc9 HR9
  go_wp2_with (fail)
  refine (current_any B2 rem1.rotate v10 w10 HR10.out).mono ?_
  rintro e w11 ⟨rfl, hb11⟩
  rw [r2_cur]
  have HL11 := Lib.hid (HL10.out.below hb11)
  have HB11 := Lib.hid (below_then HB10.out hb11)
  have HFa11 := Lib.hid (heap_below HFa10.out hb11)
  have HFb11 := Lib.hid (heap_below HFb10.out hb11)
  have HFc11 := Lib.hid (heap_below HFc10.out hb11)
  have HR11 := Lib.hid (HR10.out.below hb11)
  clear hb11 HL10 HB10 HFa10 HFb10 HFc10 HR10
  go_wp2_with (fail)
  refine (add_unfit B2 rem1.rotate v10 w11 HR11.out _ _ _ _ _ _ _ _ _ 1 0 1 0 rfl rfl sC (by decide) (by decide) (by decide) r2_fits).mono ?_
  rintro e w12 ⟨rfl, hb12⟩
  have HL12 := Lib.hid (HL11.out.below hb12)
  have HB12 := Lib.hid (below_then HB11.out hb12)
  have HFa12 := Lib.hid (heap_below HFa11.out hb12)
  have HFb12 := Lib.hid (heap_below HFb11.out hb12)
  have HFc12 := Lib.hid (heap_below HFc11.out hb12)
  have HR12 := Lib.hid (HR11.out.below hb12)
  clear hb12 HL11 HB11 HFa11 HFb11 HFc11 HR11
  go_wp2_with (fail)
  refine (retired_any B2 rem1.rotate v10 w12 HR12.out).mono ?_
  rintro e w13 ⟨rfl, hR13, hO13⟩
  have HL13 := Lib.hid (HL12.out.keeps hO13.keeps (by omega))
  have HB13 := Lib.hid (hO13.keeps.below HB12.out (fun i e => by omega) HB12.out.size)
  have HFa13 := Lib.hid (heap_keeps HFa12.out hO13.keeps (by omega))
  have HFb13 := Lib.hid (heap_keeps HFb12.out hO13.keeps (by omega))
  have HFc13 := Lib.hid (heap_keeps HFc12.out hO13.keeps (by omega))
  have HR13 := Lib.hid hR13
  have hown := ownsRow_keeps HR12.out.own hO13.keeps (HR12.out.blk.ne_row (by decide) HR12.out.own)
  rw [r2_left] at hown
  obtain ⟨g, cap, rfl⟩ := ownsRow_succ hown
  have HO13 := Lib.hid hown
  clear hR13 hO13 hown hv10 HL12 HB12 HFa12 HFb12 HFc12 HR12
  go_wp2_with (fail)
  refine (issue_nil w13).mono ?_
  rintro e w14 ⟨rfl, hb14'⟩
  have hb14 : Below w13.heap.size w13 (w14.alloc (.cells (frameC 0 0 0 ⟨#[]⟩) 42)) := below_alloc hb14' _
  clear hb14'
  have HL14 := Lib.hid (HL13.out.below hb14)
  have HB14 := Lib.hid (below_then HB13.out hb14)
  have HFa14 := Lib.hid (heap_below HFa13.out hb14)
  have HFb14 := Lib.hid (heap_below HFb13.out hb14)
  have HFc14 := Lib.hid (heap_below HFc13.out hb14)
  have HR14 := Lib.hid (HR13.out.below hb14)
  have HO14 := Lib.hid (ownsRow_below HO13.out hb14)
  clear hb14 HL13 HB13 HFa13 HFb13 HFc13 HR13 HO13
  have a10 := cell_of_heap HFa14.out 10
  have a12 := cell_of_heap HFa14.out 12
  have b10 := cell_of_heap HFb14.out 10
  have c10 := cell_of_heap HFc14.out 10
  go_wp2_with (fail)
  refine (owns_loop B (locN key 4) (idB key 1) 1 _ HL14.out (by rw [locN_n]; decide) (fun i hi h => by have := h.2; rw [locN_key] at this; have := idB_inj key i 1 (by omega) (by decide) this; omega) (.inr ⟨by rw [locN_n]; decide, locN_act key 4 1 (by decide), by rw [locN_key]⟩)).mono ?_
  rintro e w' ⟨rfl, rfl⟩
  rw [locN_n, if_pos (show 1 < 4 by decide), decide_eq_true (show 1 < 4 by decide)]
  go_wp2_with (fail)
  refine (active_any B (locN key 4) _ HL14.out).mono ?_
  rintro e w15 ⟨vA, rfl, hA, hb15⟩
  rw [locN_actives] at hA
  obtain ⟨gA, capA, rfl⟩ := ownsRow_succ hA
  have HB15 := Lib.hid (below_then HB14.out hb15)
  have HFa15 := Lib.hid (heap_below HFa14.out hb15)
  have HR15 := Lib.hid (HR14.out.below hb15)
  have HO15 := Lib.hid (ownsRow_below HO14.out hb15)
  clear hb15 HB14 HFa14 HR14 HO14
  clear hA HL14 HFb14 HFc14 a10 a12 b10 c10
  have hg0 := own_src HO15.out 0 _ rfl
  simp only [Addr.add_mid, Nat.zero_add] at hg0
  go_wp2_with (fail)
  refine (rotate_no B2 _ _ _ HR15.out r2_unused).mono ?_
  rintro e w16 ⟨rfl, hb16⟩
  have HB16 := Lib.hid (below_then HB15.out hb16)
  have HFa16 := Lib.hid (heap_below HFa15.out hb16)
  have HR16 := Lib.hid (HR15.out.below hb16)
  have HO16 := Lib.hid (ownsRow_below HO15.out hb16)
  clear hb16 HB15 HFa15 HR15 HO15
  have q0 := cell_of_heap HFa16.out 0
  have q1 := cell_of_heap HFa16.out 1
  have q2 := cell_of_heap HFa16.out 2
  have q3 := cell_of_heap HFa16.out 3
  have q4 := cell_of_heap HFa16.out 4
  have q5 := cell_of_heap HFa16.out 5
  have q6 := cell_of_heap HFa16.out 6
  have q7 := cell_of_heap HFa16.out 7
  have q8 := cell_of_heap HFa16.out 8
  have q9 := cell_of_heap HFa16.out 9
  have q10 := cell_of_heap HFa16.out 10
  have q11 := cell_of_heap HFa16.out 11
  have q12 := cell_of_heap HFa16.out 12
  clear hg0
  go_wp2_with (fail)
  refine (add_nil w16 _ _ _ _ _ _ _ _ _ _ _ _ _).mono ?_
  rintro e w17 ⟨rfl, hb17⟩
  have HB17 := Lib.hid (below_then HB16.out hb17)
  clear hb17 HB16 HFa16 HR16 HO16 q0 q1 q2 q3 q4 q5 q6 q7 q8 q9 q10 q11 q12
  go_wp2_with (fail)
  refine (rotate_nil w17).mono ?_
  rintro e w18 ⟨rfl, hb18⟩
  have HB18 := Lib.hid (below_then HB17.out hb18)
  clear hb18 HB17
  go_wp2_with (fail)
  refine (current_nil w18).mono ?_
  rintro e w19 ⟨rfl, hb19⟩
  have HB19 := Lib.hid (below_then HB18.out hb19)
  clear hb19 HB18
  go_wp2
  go_ret
  exact ⟨rfl, HB19.out⟩

end Go.Proofs.Ytmdfpknhfkgfoaa
