/- peregrineref07.Remote: copied, insert. -/
import Derived.Test.YtmdfpknhfkgfoaaRR2
namespace Go.Proofs.Ytmdfpknhfkgfoaa
open Go.RowKit Go.Shelf

theorem below_of_none {W w1 : World} (h : W.grownBy w1 (Value.slice none 0 0).ownBlock) : Below W.heap.size W w1 := ⟨h.os, h.tape, h.output, h.size, fun k hk => h.block k hk (by simp [Value.ownBlock])⟩
theorem fresh_of_none {v1 : Value} {n m : Nat} (h : OldOrNew (.slice none 0 0) v1 n) (hm : m ≤ n) : ∀ g, v1.ownBlock = some g → m ≤ g := fun g hg => by
  rcases h g hg with h | h
  · simp [Value.ownBlock] at h
  · omega

/-! ### copied -/
structure CopyAt (B : Nat) (X : RR) (v vl : Value) (w W : World) : Prop where
  rem : IsRR B X v vl W
  below : Below w.heap.size w W
structure CopyE (X : RR) (w : World) (v1 : Value) (W : World) : Prop where
  own : W.ownsRow 0 86 3 v1 X.es.length (eVals X.es)
  new : ∀ g, v1.ownBlock = some g → w.heap.size ≤ g
structure CopyL (X : RR) (w : World) (v1 : Value) (W : World) : Prop where
  own : W.ownsRow 0 3 1 v1 X.left.length (natVals X.left)
  new : ∀ g, v1.ownBlock = some g → w.heap.size ≤ g

section
variable {B : Nat} {X : RR} {v vl v1 : Value} {w W w1 : World}
theorem CopyAt.drew (h : CopyAt B X v vl w W) : CopyAt B X v vl w W.drew := ⟨h.rem.drew, h.below.drew⟩
theorem CopyAt.app_e (h : CopyAt B X v vl w W) (ho : w1.ownsRow 0 86 3 v1 (0 + X.es.length) ([] ++ eVals X.es)) (hg : W.grownBy w1 (Value.slice none 0 0).ownBlock) (hold : OldOrNew (.slice none 0 0) v1 W.heap.size) : CopyAt B X v vl w w1 ∧ CopyE X w v1 w1 :=
  ⟨⟨h.rem.below (below_of_none hg), below_then h.below (below_of_none hg)⟩, by simpa using ho, fresh_of_none hold h.below.size⟩
theorem CopyAt.app_l (h : CopyAt B X v vl w W) (ho : w1.ownsRow 0 3 1 v1 (0 + X.left.length) ([] ++ natVals X.left)) (hg : W.grownBy w1 (Value.slice none 0 0).ownBlock) (hold : OldOrNew (.slice none 0 0) v1 W.heap.size) : CopyAt B X v vl w w1 ∧ CopyL X w v1 w1 :=
  ⟨⟨h.rem.below (below_of_none hg), below_then h.below (below_of_none hg)⟩, by simpa using ho, fresh_of_none hold h.below.size⟩
theorem CopyE.keep (h : CopyE X w v1 W) (hg : W.grownBy w1 (Value.slice none 0 0).ownBlock) : CopyE X w v1 w1 := ⟨ownsRow_below h.own (below_of_none hg), h.new⟩
theorem CopyL.keep (h : CopyL X w v1 W) (hg : W.grownBy w1 (Value.slice none 0 0).ownBlock) : CopyL X w v1 w1 := ⟨ownsRow_below h.own (below_of_none hg), h.new⟩
end

theorem cells4 {B : Nat} {X : RR} {v vl : Value} {W : World} (h : IsRR B X v vl W) : W.cell? ⟨B, 0, none⟩ = some v ∧ W.cell? ⟨B, 1, none⟩ = some (.int .i64 (X.now : Int)) ∧ W.cell? ⟨B, 2, none⟩ = some (.int .i64 (X.bound : Int)) ∧ W.cell? ⟨B, 3, none⟩ = some vl :=
  ⟨cell_of_heap h.blk 0, cell_of_heap h.blk 1, cell_of_heap h.blk 2, cell_of_heap h.blk 3⟩

def RCopyPost (X : RR) (w : World) (e : Ending) (w' : World) : Prop :=
  ∃ B v vl, e = .returned (.pointer (some ⟨B, 0, none⟩)) ∧ IsRR B X v vl w' ∧ w.heap.size ≤ B ∧ (∀ g, v.ownBlock = some g → w.heap.size ≤ g) ∧ (∀ g, vl.ownBlock = some g → w.heap.size ≤ g) ∧ Below w.heap.size w w'

set_option maxRecDepth 100000 in
set_option maxHeartbeats 1600000 in
theorem rcopied_any (B : Nat) (X : RR) (v vl : Value) (w : World) (hX : IsRR B X v vl w) (hl : X.es.length ≤ 64) (hll : X.left.length ≤ 1000000) :
    Calls Try.prog 61 #[.pointer (some ⟨B, 0, none⟩)] w (RCopyPost X w) := by
  obtain ⟨i0, hi, hz0, hz1, hz2⟩ := info_parts info_int
  obtain ⟨i1, gi, gz0, gz1, gz2⟩ := info_parts info_entry
  have c0 := cell_of_heap hX.blk 0
  have c1 := cell_of_heap hX.blk 1
  have c2 := cell_of_heap hX.blk 2
  have c3 := cell_of_heap hX.blk 3
  simp at c0 c1 c2 c3
  have HC : Hid (CopyAt B X v vl w w.drew) := ⟨hX.drew, (Below.refl _ _).drew⟩
  obtain ⟨ov, cv, rfl⟩ := own_shape hX.own
  obtain ⟨ol, cl, rfl⟩ := own_shape hX.lft
  clear hX
  have Hl := Lib.hid hl
  go_enter Try.func61, Try.ntmps61
  go_wp2_with (fail)
  go_region_held3 (fun W => W.cell? ⟨B, 0, none⟩ = some (.slice ov X.es.length cv) ∧ W.cell? ⟨B, 1, none⟩ = some (.int .i64 (X.now : Int)) ∧ W.cell? ⟨B, 2, none⟩ = some (.int .i64 (X.bound : Int)) ∧ W.cell? ⟨B, 3, none⟩ = some (.slice ol X.left.length cl)) (first | exact hS2 | exact hS | go_keep)
    (first
      | (refine step_append_two _ rfl _ _ 87 rfl 86 i1 (.agg #[.int .i64 0, .string ⟨#[]⟩, .bool false]) 3 32 Try.underlying87 gi gz0 gz1 gz2 rfl (by decide) (.slice none 0 0) 0 [] (by simp [Act.eval]) (World.ownsRow_nil _ _ _ _) 0 (.slice ov X.es.length cv) X.es.length (eVals X.es) (by simp [Act.eval]) (by first | exact HCL.out.rem.own | exact HC.out.rem.own) (eVals_one X.es) (by unfold maxLen; omega) (by omega) ?_; intro v1 w1 hown1 hgrow1 hold1; have hAE := (by first | exact HCL.out.app_e hown1 hgrow1 hold1 | exact HC.out.app_e hown1 hgrow1 hold1 : CopyAt B X (.slice ov X.es.length cv) (.slice ol X.left.length cl) w w1 ∧ CopyE X w v1 w1); obtain ⟨oe, ce, hve⟩ := own_shape hAE.2.own; subst hve; have HCE := Lib.hid hAE.1; have HE := Lib.hid hAE.2; first | (have HL2 := Lib.hid (HL.out.keep hgrow1); have hS2 := cells4 HCE.out.rem) | (have hS := cells4 HCE.out.rem); clear hAE hown1 hgrow1 hold1)
      | (refine step_append_two _ rfl _ _ 47 rfl 3 i0 (.int .i64 0) 1 8 Try.underlying47 hi hz0 hz1 hz2 rfl (by decide) (.slice none 0 0) 0 [] (by simp [Act.eval]) (World.ownsRow_nil _ _ _ _) 0 (.slice ol X.left.length cl) X.left.length (natVals X.left) (by simp [Act.eval]) (by first | exact HCE.out.rem.lft | exact HC.out.rem.lft) (natVals_one X.left) (by unfold maxLen; omega) (by omega) ?_; intro v2 w2 hown2 hgrow2 hold2; have hAL := (by first | exact HCE.out.app_l hown2 hgrow2 hold2 | exact HC.out.app_l hown2 hgrow2 hold2 : CopyAt B X (.slice ov X.es.length cv) (.slice ol X.left.length cl) w w2 ∧ CopyL X w v2 w2); obtain ⟨ox, cx, hvx⟩ := own_shape hAL.2.own; subst hvx; have HCL := Lib.hid hAL.1; have HL := Lib.hid hAL.2; first | (have HE2 := Lib.hid (HE.out.keep hgrow2); have hS2 := cells4 HCL.out.rem) | (have hS := cells4 HCL.out.rem); clear hAL hown2 hgrow2 hold2))
  go_wp2
  go_ret
  refine ⟨_, .slice oe X.es.length ce, .slice ox X.left.length cx, rfl, ⟨heap_alloc_new w2 _, HE2.out.own.alloc _, HL.out.own.alloc _⟩, ?_, HE2.out.new, HL.out.new, ?_⟩
  · exact HCL.out.below.size
  · exact below_then HCL.out.below ((Below.refl _ _).alloc (Nat.le_refl _) _)

/-! ### insert -/
theorem eVals_take : ∀ (es : List EE) (k : Nat), (eVals es).take (k * 3) = eVals (es.take k)
  | es, 0 => by simp [eVals]
  | [], k + 1 => by simp [eVals]
  | e :: es, k + 1 => by
    rw [List.take_succ_cons, eVals_cons, eVals_cons, ← eVals_take es k, show (k + 1) * 3 = k * 3 + 3 by omega]
    rfl
theorem eVals_drop : ∀ (es : List EE) (k : Nat), (eVals es).drop (k * 3) = eVals (es.drop k)
  | es, 0 => by simp
  | [], k + 1 => by simp [eVals]
  | e :: es, k + 1 => by
    rw [List.drop_succ_cons, eVals_cons, ← eVals_drop es k, show (k + 1) * 3 = k * 3 + 3 by omega]
    rfl

theorem src_take {B : Nat} {X : RR} {v vl : Value} {W : World} {g k : Nat} (h : IsRR B X v vl W) (hv : v.ownBlock = some g) : ∀ j u, (eVals (X.es.take k))[j]? = some u → W.cell? ((⟨g, 0, none⟩ : Addr).add j) = some u := by
  intro j u hu
  rw [← eVals_take, List.getElem?_take] at hu
  split at hu
  · exact h.own.cells (g := g) hv j u hu
  · cases hu
theorem src_drop {B : Nat} {X : RR} {v vl : Value} {W : World} {g k : Nat} (h : IsRR B X v vl W) (hv : v.ownBlock = some g) : ∀ j u, (eVals (X.es.drop k))[j]? = some u → W.cell? ((⟨g, k * 3, none⟩ : Addr).add j) = some u := by
  intro j u hu
  rw [← eVals_drop, List.getElem?_drop] at hu
  have := h.own.cells (g := g) hv (k * 3 + j) u hu
  rw [Addr.add_mid, Nat.zero_add] at this
  rw [Addr.add_mid]
  exact this
theorem src_none (W : World) (a : Addr) : ∀ j u, ([] : List Value)[j]? = some u → W.cell? (a.add j) = some u := fun j u hu => by simp at hu

theorem slot_step {es : List EE} {s k : Nat} {e : EE} (he : es[k]? = some e) : slot es s (k + 1) = if s < e.seq then slot es s k else k + 1 := by
  conv => lhs; unfold slot
  rw [he]

theorem row_kept {W w1 : World} {cs : List Value} {t : TypeId} {b : Nat} (h : (W.alloc (.cells cs.toArray t)).grownBy w1 (Value.slice none 0 0).ownBlock) (hb : W.heap.size = b := by rfl) : ∀ j u, cs[j]? = some u → w1.cell? ((⟨b, 0, none⟩ : Addr).add j) = some u := by
  subst hb
  intro j u hu
  have h1 := (below_of_none h).block W.heap.size (by simp)
  rw [Addr.add_mid, Nat.zero_add, cell_of_heap (h1.trans (heap_alloc_new W (.cells cs.toArray t)))]
  simpa using hu

/-- The Remote, as it lay, beside a new row. -/
structure InsAt (B : Nat) (X : RR) (v vl : Value) (e0 : EE) (w W : World) : Prop where
  rem : IsRR B X v vl W
  box : W.heap[w.heap.size]? = some (.cells #[.int .i64 (e0.seq : Int), .string e0.id, .bool e0.gone] 86 (0, 0))
  below : Below w.heap.size w W
structure InsRow (w : World) (es : List EE) (n : Nat) (v1 : Value) (W : World) : Prop where
  own : W.ownsRow 0 86 3 v1 n (eVals es)
  new : ∀ g, v1.ownBlock = some g → w.heap.size + 1 ≤ g

section
variable {B : Nat} {X : RR} {v vl v1 v2 : Value} {e0 : EE} {w W w1 : World} {es : List EE} {n : Nat}
theorem InsAt.drewN (h : InsAt B X v vl e0 w W) (k : Nat) : InsAt B X v vl e0 w (W.drewN k) := ⟨h.rem.drewN k, h.box, below_drewN h.below k⟩
theorem InsAt.drew (h : InsAt B X v vl e0 w W) : InsAt B X v vl e0 w W.drew := ⟨h.rem.drew, h.box, h.below.drew⟩
theorem InsAt.alloc (h : InsAt B X v vl e0 w W) (o : Obj) : InsAt B X v vl e0 w (W.alloc o) := ⟨h.rem.alloc o, heap_alloc h.box o, below_alloc h.below o⟩
theorem InsAt.lt (h : InsAt B X v vl e0 w W) : w.heap.size < W.heap.size := heap_lt h.box
theorem InsAt.app (h : InsAt B X v vl e0 w W) (hB : B < w.heap.size) (hv : ∀ g, v.ownBlock = some g → g < w.heap.size) (hl : ∀ g, vl.ownBlock = some g → g < w.heap.size) (hr : ∀ g, v1.ownBlock = some g → w.heap.size + 1 ≤ g) (hg : W.grownBy w1 v1.ownBlock) : InsAt B X v vl e0 w w1 := by
  have hk : Keeps (fun k => v1.ownBlock = some k) W w1 := Keeps.of_grown hg (fun _ e => e)
  exact ⟨h.rem.keeps hk (fun e => by have := hr _ e; omega) (fun g hg e => by have := hr _ e; have := hv _ hg; omega) (fun g hg e => by have := hr _ e; have := hl _ hg; omega), heap_keeps h.box hk (fun e => by have := hr _ e; omega), hk.below h.below (fun i e => by have := hr _ e; omega) h.below.size⟩
theorem InsRow.app (hr : ∀ g, v1.ownBlock = some g → w.heap.size + 1 ≤ g) (hW : w.heap.size < W.heap.size) (ho : w1.ownsRow 0 86 3 v2 n (eVals es)) (hold : OldOrNew v1 v2 W.heap.size) : InsRow w es n v2 w1 :=
  ⟨ho, fun g hg => by
    rcases hold g hg with h | h
    · exact hr g h
    · omega⟩
theorem InsRow.alloc (h : InsRow w es n v1 W) (o : Obj) : InsRow w es n v1 (W.alloc o) := ⟨h.own.alloc o, h.new⟩
theorem InsRow.drew (h : InsRow w es n v1 W) : InsRow w es n v1 W.drew := ⟨ownsRow_below h.own (Below.refl _ _).drew, h.new⟩
end

theorem none_fresh (n : Nat) : ∀ g, (Value.slice none 0 0).ownBlock = some g → n ≤ g := fun g hg => by simp [Value.ownBlock] at hg

/-- The cells that insert's last statement loads. -/
def InsS (B Bx : Nat) (v : Value) (s : Nat) (id : ByteArray) (gn : Bool) (W : World) : Prop := W.cell? ⟨B, 0, none⟩ = some v ∧ W.cell? ⟨Bx, 0, none⟩ = some (.int .i64 (s : Int)) ∧ W.cell? ⟨Bx, 1, none⟩ = some (.string id) ∧ W.cell? ⟨Bx, 2, none⟩ = some (.bool gn)
theorem InsAt.cells {B : Nat} {X : RR} {v vl : Value} {s : Nat} {id : ByteArray} {gn : Bool} {w W : World} (h : InsAt B X v vl ⟨s, id, gn⟩ w W) : InsS B w.heap.size v s id gn W :=
  ⟨cell_of_heap h.rem.blk 0, cell_of_heap h.box 0, cell_of_heap h.box 1, cell_of_heap h.box 2⟩

theorem IsRR.setRow {B : Nat} {X : RR} {v v' vl : Value} {W : World} {es' : List EE} (h : IsRR B X v vl W) (ho : W.ownsRow 0 86 3 v' es'.length (eVals es')) : IsRR B { X with es := es' } v' vl (W.setCell ⟨B, 0, none⟩ v') := by
  have hk : Keeps (fun k => k = B) W (W.setCell ⟨B, 0, none⟩ v') := (Keeps.refl _ W).setCell (.inl rfl)
  refine ⟨?_, ?_, ?_⟩
  · rw [heap_setCell_at _ _ _ _ _ _ h.blk]; rfl
  · exact ownsRow_keeps ho hk (fun g hg e => row_type ho B _ h.blk (by decide) (by rw [hg, e]))
  · exact ownsRow_keeps h.lft hk (fun g hg e => row_type h.lft B _ h.blk (by decide) (by rw [hg, e]))

theorem ins_is {X : RR} {e0 : EE} {k : Nat} (h : slot X.es e0.seq X.es.length = k) : X.ins e0 = { X with es := X.es.take k ++ e0 :: X.es.drop k } := by unfold RR.ins; rw [h]

def RInsPost (B : Nat) (X : RR) (vl : Value) (e0 : EE) (w : World) (e : Ending) (w' : World) : Prop :=
  ∃ u v', e = .returned u ∧ IsRR B (X.ins e0) v' vl w' ∧ (∀ g, v'.ownBlock = some g → w.heap.size ≤ g) ∧ Only B w w'

set_option maxRecDepth 100000 in
set_option maxHeartbeats 3200000 in
theorem rinsert_any (B : Nat) (X : RR) (v vl : Value) (e0 : EE) (w : World) (hX : IsRR B X v vl w) (h1 : 1 ≤ X.es.length) (hl : X.es.length ≤ 64) :
    Calls Try.prog 62 #[.pointer (some ⟨B, 0, none⟩), .agg #[.int .i64 (e0.seq : Int), .string e0.id, .bool e0.gone]] w (RInsPost B X vl e0 w) := by
  obtain ⟨i1, gi, gz0, gz1, gz2⟩ := info_parts info_entry
  have hBl := heap_lt hX.blk
  have hvl := own_lt hX.own
  have hll := own_lt hX.lft
  obtain ⟨g, cap, hcap, rfl⟩ : ∃ g cap, X.es.length ≤ cap ∧ v = .slice (some ⟨g, 0, none⟩) X.es.length cap := by
    rcases hX.own.2 with ⟨_, h⟩ | ⟨g, cap, cur, h, _, _, hc, _⟩
    · omega
    · exact ⟨g, cap, hc, h⟩
  have HI0 : Hid (InsAt B X (.slice (some ⟨g, 0, none⟩) X.es.length cap) vl e0 w (w.alloc (.cells #[.int .i64 (e0.seq : Int), .string e0.id, .bool e0.gone] 86))) :=
    ⟨hX.alloc _, heap_alloc_new w _, (Below.refl _ _).alloc (Nat.le_refl _) _⟩
  clear hX
  obtain ⟨s, id, gn⟩ := e0
  simp only at HI0 ⊢
  obtain ⟨n, Hn⟩ : ∃ n, Hid (X.es.length = n) := ⟨_, rfl⟩
  have Hvl := Lib.hid hvl
  have Hll := Lib.hid hll
  rw [Hn.out] at h1 hl hcap HI0
  clear hvl hll
  go_enter Try.func62, Try.ntmps62
  have c00 := HI0.out.cells
  unfold InsS at c00
  obtain ⟨c0, x0, x1, x2⟩ := c00
  go_wp2_with (fail)
  go_loopg [4] (n + 1) (fun g0 i wx => ∃ (k : Nat) (z : Int), g0 = k + 1 ∧ k ≤ n ∧ z = (k : Int) ∧ i = .int .i64 z ∧ Hid (InsAt B X (.slice (some ⟨g, 0, none⟩) n cap) vl ⟨s, id, gn⟩ w wx) ∧ Hid (slot X.es s k = slot X.es s n))
  case atStart => exact ⟨n, _, rfl, Nat.le_refl _, rfl, rfl, HI0, rfl⟩
  case round =>
    clear HI0 c0 x0 x1 x2
    obtain ⟨k, z, hg0, hk, hz, rfl, HI, Hs⟩ := hrel
    have c00 := HI.out.cells
    unfold InsS at c00
    obtain ⟨c0, x0, x1, x2⟩ := c00
    by_cases hk0 : k = 0
    · subst hk0
      obtain rfl : z = 0 := hz
      have Hs := Lib.hid (show slot X.es s n = 0 from Hs.out.symm)
      have hcap0 : ¬ (cap = 0) := by omega
      go_wp2
      go_quiet (fail)
      have HI5 := Lib.hid (HI.out.drewN nq)
      have HS5 := Lib.hid HI5.out.cells
      unfold InsS at HS5
      have HSb := Lib.hid ((HI.out.drewN (nq + 1)).alloc (.cells #[.int .i64 (s : Int), .string id, .bool gn] 86)).cells
      unfold InsS at HSb
      clear HI
      go_wp2_with (fail)
      clear c0 x0 x1 x2
      go_region_held3 (fun W => W.cell? ⟨B, 0, none⟩ = some (.slice (some ⟨g, 0, none⟩) n cap) ∧ W.cell? ⟨w.heap.size, 0, none⟩ = some (.int .i64 (s : Int)) ∧ W.cell? ⟨w.heap.size, 1, none⟩ = some (.string id) ∧ W.cell? ⟨w.heap.size, 2, none⟩ = some (.bool gn)) (first | exact hS3 | exact hS2 | exact hS | exact HS5.out | exact HSb.out | go_keep)
        (first
          | (refine step_append_where _ rfl (.tmp 29) (.tmp 35) 87 rfl 86 i1 (.agg #[.int .i64 0, .string ⟨#[]⟩, .bool false]) 3 32 Try.underlying87 gi gz0 gz1 gz2 rfl (by decide) (.slice none 0 0) 0 [] (by simp [Act.eval]) (World.ownsRow_nil _ _ _ _) ⟨g, 0, none⟩ 0 cap (eVals (X.es.take 0)) (by simp [Act.eval]) (by rw [eVals_len, List.length_take, Hn.out]; omega) (by first | exact src_take HI5.out.drew.rem rfl | exact src_take (HI5.out.alloc _).drew.rem rfl) (eVals_one _) (by unfold maxLen; omega) (by omega) ?_; intro v1 w1 hown1 hgrow1 hold1; have hA1 := (by first | exact HI5.out.drew.app hBl Hvl.out Hll.out (none_fresh _) hgrow1 | exact (HI5.out.alloc _).drew.app hBl Hvl.out Hll.out (none_fresh _) hgrow1 : InsAt B X (.slice (some ⟨g, 0, none⟩) n cap) vl ⟨s, id, gn⟩ w w1); have hR1 := (by first | exact InsRow.app (none_fresh _) HI5.out.drew.lt (by rw [Nat.zero_add] at hown1; exact hown1) hold1 | exact InsRow.app (none_fresh _) (HI5.out.alloc _).drew.lt (by rw [Nat.zero_add] at hown1; exact hown1) hold1 : InsRow w (X.es.take 0) 0 v1 w1); (first | (have Hn1 : Hid (∀ j u, ([.int .i64 (s : Int), .string id, .bool gn] : List Value)[j]? = some u → w1.cell? ((⟨(wr.drewN nq).heap.size, 0, none⟩ : Addr).add j) = some u) := (by exact row_kept hgrow1)) | skip); have HJ1 := Lib.hid hA1; have HR1 := Lib.hid hR1; have hS := hA1.cells; unfold InsS at hS; clear hA1 hR1 hown1 hgrow1 hold1)
          | (refine step_append_where _ rfl (.tmp 36) (.tmp 38) 87 rfl 86 i1 (.agg #[.int .i64 0, .string ⟨#[]⟩, .bool false]) 3 32 Try.underlying87 gi gz0 gz1 gz2 rfl (by decide) v1 0 (eVals (X.es.take 0)) (by simp [Act.eval]) (by exact HR1.out.own) ⟨(wr.drewN nq).heap.size, 0, none⟩ 1 1 [.int .i64 (s : Int), .string id, .bool gn] (by simp [Act.eval]) rfl (by exact Hn1.out) (by intro u hu; simp at hu; rcases hu with rfl | rfl | rfl <;> rfl) (by unfold maxLen; omega) (by omega) ?_; intro v2 w2 hown2 hgrow2 hold2; have hA2 := (HJ1.out.app hBl Hvl.out Hll.out HR1.out.new hgrow2 : InsAt B X (.slice (some ⟨g, 0, none⟩) n cap) vl ⟨s, id, gn⟩ w w2); have hR2 : InsRow w (X.es.take 0 ++ [⟨s, id, gn⟩]) (0 + 1) v2 w2 := InsRow.app HR1.out.new HJ1.out.lt (by rw [eVals_append]; exact hown2) hold2; have HJ2 := Lib.hid hA2; have HR2 := Lib.hid hR2; have hS2 := hA2.cells; unfold InsS at hS2; clear hA2 hR2 hown2 hgrow2 hold2)
          | (refine step_append_where _ rfl (.tmp 39) (.tmp 45) 87 rfl 86 i1 (.agg #[.int .i64 0, .string ⟨#[]⟩, .bool false]) 3 32 Try.underlying87 gi gz0 gz1 gz2 rfl (by decide) v2 (0 + 1) (eVals (X.es.take 0 ++ [⟨s, id, gn⟩])) (by simp [Act.eval]) (by exact HR2.out.own) ⟨g, 0, none⟩ n cap (eVals (X.es.drop 0)) (by simp [Act.eval]) (by simp [eVals_len, Hn.out]) (by exact src_drop HJ2.out.rem rfl) (eVals_one _) (by unfold maxLen; omega) (by omega) ?_; intro v3 w3 hown3 hgrow3 hold3; obtain ⟨g3, cap3, hv3⟩ := slice_at hown3 (by omega); subst hv3; have hA3 := (HJ2.out.app hBl Hvl.out Hll.out HR2.out.new hgrow3 : InsAt B X (.slice (some ⟨g, 0, none⟩) n cap) vl ⟨s, id, gn⟩ w w3); have hR3 : InsRow w (X.es.take 0 ++ [⟨s, id, gn⟩] ++ X.es.drop 0) (0 + 1 + n) _ w3 := InsRow.app HR2.out.new HJ2.out.lt (by rw [eVals_append]; exact hown3) hold3; have HJ3 := Lib.hid hA3; have HR3 := Lib.hid hR3; have hS3 := hA3.cells; unfold InsS at hS3; have fB := free_of_heap hA3.rem.blk 0; clear hA3 hR3 hown3 hgrow3 hold3)
          | (refine step_append_where _ rfl (.tmp 36) (.tmp 38) 87 rfl 86 i1 (.agg #[.int .i64 0, .string ⟨#[]⟩, .bool false]) 3 32 Try.underlying87 gi gz0 gz1 gz2 rfl (by decide) v1 0 (eVals (X.es.take 0)) (by simp [Act.eval]) (by exact (HR1.out.alloc _).own) ⟨w1.heap.size, 0, none⟩ 1 1 [.int .i64 (s : Int), .string id, .bool gn] (by simp [Act.eval]) rfl (by exact cells_new w1 #[.int .i64 (s : Int), .string id, .bool gn] 86 _ rfl) (by intro u hu; simp at hu; rcases hu with rfl | rfl | rfl <;> rfl) (by unfold maxLen; omega) (by omega) ?_; intro v2 w2 hown2 hgrow2 hold2; have hA2 := ((HJ1.out.alloc _).app hBl Hvl.out Hll.out HR1.out.new hgrow2 : InsAt B X (.slice (some ⟨g, 0, none⟩) n cap) vl ⟨s, id, gn⟩ w w2); have hR2 : InsRow w (X.es.take 0 ++ [⟨s, id, gn⟩]) (0 + 1) v2 w2 := InsRow.app HR1.out.new (HJ1.out.alloc _).lt (by rw [eVals_append]; exact hown2) hold2; have HJ2 := Lib.hid hA2; have HR2 := Lib.hid hR2; have hS2 := hA2.cells; unfold InsS at hS2; clear hA2 hR2 hown2 hgrow2 hold2))
      all_goals
        clear hS2 hS
        obtain ⟨b0, _, _, _⟩ := hS3
        go_wp2
        go_end0
        refine ⟨_, _, rfl, ?_, fun q hq => by have := HR3.out.new q hq; omega, (Only.of_below HJ3.out.below).setCell _ _⟩
        rw [ins_is (k := 0) (by rw [Hn.out]; exact Hs.out)]
        refine HJ3.out.rem.setRow ?_
        rw [show (X.es.take 0 ++ ⟨s, id, gn⟩ :: X.es.drop 0).length = 0 + 1 + n by simp [Hn.out]; try omega, show X.es.take 0 ++ ⟨s, id, gn⟩ :: X.es.drop 0 = X.es.take 0 ++ [⟨s, id, gn⟩] ++ X.es.drop 0 by simp]
        exact HR3.out.own
    · obtain ⟨j, hjk⟩ : ∃ j, j + 1 = k := ⟨k - 1, by omega⟩
      obtain ⟨e, he⟩ : ∃ e, X.es[j]? = some e := ⟨_, List.getElem?_eq_getElem (by rw [Hn.out]; omega)⟩
      have ce := own_ent HI.out.rem.own rfl he
      have hstep := slot_step (s := s) he
      rw [hjk, Hs.out] at hstep
      obtain ⟨q, Hq⟩ : ∃ q, Hid (e.seq = q) := ⟨_, rfl⟩
      rw [Hq.out] at ce hstep
      clear he Hs Hq
      have hk1 : 0 < k := by omega
      have hw : IntKind.i64.wrap ((k : Int) - 1) = (j : Int) := by rw [show (k : Int) - 1 = (j : Int) by omega]; exact IntWalk.i64_in _ (by omega)
      have hw2 : (k : Int) - 1 = (j : Int) := by omega
      by_cases hq : s < q
      · have hq1 : (s : Int) < (q : Int) := by omega
        have Hs := Lib.hid (hstep.trans (if_pos hq)).symm
        clear hstep hq hk0
        subst hz
        go_wp2
        go_quiet (fail)
        go_wp2
        go_roundg (gk - 1)
        case measure => omega
        case rel => exact ⟨j, _, by omega, by omega, rfl, rfl, HI.out.drewN _, Hs.out⟩
      · have hq1 : ¬ ((s : Int) < (q : Int)) := by omega
        have hstep2 := hstep.trans (if_neg hq)
        have Hs := Lib.hid hstep2
        clear hstep hq hk0 hstep2
        subst hz
        go_wp2
        go_quiet (fail)
        have HI5 := Lib.hid (HI.out.drewN nq)
        have HS5 := Lib.hid HI5.out.cells
        unfold InsS at HS5
        have HSb := Lib.hid ((HI.out.drewN (nq + 1)).alloc (.cells #[.int .i64 (s : Int), .string id, .bool gn] 86)).cells
        unfold InsS at HSb
        clear HI hw hw2 ce hjk
        have hcap0 : ¬ (cap = 0) := by omega
        by_cases hkn : k = n
        · have HD := Lib.hid (show X.es.drop k = [] by rw [List.drop_eq_nil_iff, Hn.out]; omega)
          subst hkn
          by_cases hck : k = cap
          · subst hck
            have hb0 : (0 : Int) ≤ (k : Int) := by omega
            have hb1 : (k : Int) ≤ (k : Int) := by omega
            go_wp2_with (fail)
            clear c0 x0 x1 x2
            go_region_held3 (fun W => W.cell? ⟨B, 0, none⟩ = some (.slice (some ⟨g, 0, none⟩) k k) ∧ W.cell? ⟨w.heap.size, 0, none⟩ = some (.int .i64 (s : Int)) ∧ W.cell? ⟨w.heap.size, 1, none⟩ = some (.string id) ∧ W.cell? ⟨w.heap.size, 2, none⟩ = some (.bool gn)) (first | exact hS3 | exact hS2 | exact hS | exact HS5.out | exact HSb.out | go_keep)
              (first
                | (refine step_append_where _ rfl (.tmp 29) (.tmp 35) 87 rfl 86 i1 (.agg #[.int .i64 0, .string ⟨#[]⟩, .bool false]) 3 32 Try.underlying87 gi gz0 gz1 gz2 rfl (by decide) (.slice none 0 0) 0 [] (by simp [Act.eval]) (World.ownsRow_nil _ _ _ _) ⟨g, 0, none⟩ k k (eVals (X.es.take k)) (by simp [Act.eval]) (by rw [eVals_len, List.length_take, Hn.out]; omega) (by first | exact src_take HI5.out.drew.rem rfl | exact src_take (HI5.out.alloc _).drew.rem rfl) (eVals_one _) (by unfold maxLen; omega) (by omega) ?_; intro v1 w1 hown1 hgrow1 hold1; have hA1 := (by first | exact HI5.out.drew.app hBl Hvl.out Hll.out (none_fresh _) hgrow1 | exact (HI5.out.alloc _).drew.app hBl Hvl.out Hll.out (none_fresh _) hgrow1 : InsAt B X (.slice (some ⟨g, 0, none⟩) k k) vl ⟨s, id, gn⟩ w w1); have hR1 := (by first | exact InsRow.app (none_fresh _) HI5.out.drew.lt (by rw [Nat.zero_add] at hown1; exact hown1) hold1 | exact InsRow.app (none_fresh _) (HI5.out.alloc _).drew.lt (by rw [Nat.zero_add] at hown1; exact hown1) hold1 : InsRow w (X.es.take k) k v1 w1); (first | (have Hn1 : Hid (∀ j u, ([.int .i64 (s : Int), .string id, .bool gn] : List Value)[j]? = some u → w1.cell? ((⟨(wr.drewN nq).heap.size, 0, none⟩ : Addr).add j) = some u) := (by exact row_kept hgrow1)) | skip); have HJ1 := Lib.hid hA1; have HR1 := Lib.hid hR1; have hS := hA1.cells; unfold InsS at hS; clear hA1 hR1 hown1 hgrow1 hold1)
                | (refine step_append_where _ rfl (.tmp 36) (.tmp 38) 87 rfl 86 i1 (.agg #[.int .i64 0, .string ⟨#[]⟩, .bool false]) 3 32 Try.underlying87 gi gz0 gz1 gz2 rfl (by decide) v1 k (eVals (X.es.take k)) (by simp [Act.eval]) (by exact HR1.out.own) ⟨(wr.drewN nq).heap.size, 0, none⟩ 1 1 [.int .i64 (s : Int), .string id, .bool gn] (by simp [Act.eval]) rfl (by exact Hn1.out) (by intro u hu; simp at hu; rcases hu with rfl | rfl | rfl <;> rfl) (by unfold maxLen; omega) (by omega) ?_; intro v2 w2 hown2 hgrow2 hold2; have hA2 := (HJ1.out.app hBl Hvl.out Hll.out HR1.out.new hgrow2 : InsAt B X (.slice (some ⟨g, 0, none⟩) k k) vl ⟨s, id, gn⟩ w w2); have hR2 : InsRow w (X.es.take k ++ [⟨s, id, gn⟩]) (k + 1) v2 w2 := InsRow.app HR1.out.new HJ1.out.lt (by rw [eVals_append]; exact hown2) hold2; have HJ2 := Lib.hid hA2; have HR2 := Lib.hid hR2; have hS2 := hA2.cells; unfold InsS at hS2; clear hA2 hR2 hown2 hgrow2 hold2)
                | (refine step_append_where _ rfl (.tmp 39) (.tmp 45) 87 rfl 86 i1 (.agg #[.int .i64 0, .string ⟨#[]⟩, .bool false]) 3 32 Try.underlying87 gi gz0 gz1 gz2 rfl (by decide) v2 (k + 1) (eVals (X.es.take k ++ [⟨s, id, gn⟩])) (by simp [Act.eval]) (by exact HR2.out.own) ⟨g, 0, none⟩ 0 0 [] (by simp [Act.eval]) rfl (by exact src_none _ _) (by intro u hu; cases hu) (by unfold maxLen; omega) (by omega) ?_; intro v3 w3 hown3 hgrow3 hold3; obtain ⟨g3, cap3, hv3⟩ := slice_at hown3 (by omega); subst hv3; have hA3 := (HJ2.out.app hBl Hvl.out Hll.out HR2.out.new hgrow3 : InsAt B X (.slice (some ⟨g, 0, none⟩) k k) vl ⟨s, id, gn⟩ w w3); have hR3 : InsRow w (X.es.take k ++ [⟨s, id, gn⟩] ++ X.es.drop k) (k + 1 + 0) _ w3 := InsRow.app HR2.out.new HJ2.out.lt (by rw [HD.out, List.append_nil]; rw [List.append_nil] at hown3; exact hown3) hold3; have HJ3 := Lib.hid hA3; have HR3 := Lib.hid hR3; have hS3 := hA3.cells; unfold InsS at hS3; have fB := free_of_heap hA3.rem.blk 0; clear hA3 hR3 hown3 hgrow3 hold3)
                | (refine step_append_where _ rfl (.tmp 36) (.tmp 38) 87 rfl 86 i1 (.agg #[.int .i64 0, .string ⟨#[]⟩, .bool false]) 3 32 Try.underlying87 gi gz0 gz1 gz2 rfl (by decide) v1 k (eVals (X.es.take k)) (by simp [Act.eval]) (by exact (HR1.out.alloc _).own) ⟨w1.heap.size, 0, none⟩ 1 1 [.int .i64 (s : Int), .string id, .bool gn] (by simp [Act.eval]) rfl (by exact cells_new w1 #[.int .i64 (s : Int), .string id, .bool gn] 86 _ rfl) (by intro u hu; simp at hu; rcases hu with rfl | rfl | rfl <;> rfl) (by unfold maxLen; omega) (by omega) ?_; intro v2 w2 hown2 hgrow2 hold2; have hA2 := ((HJ1.out.alloc _).app hBl Hvl.out Hll.out HR1.out.new hgrow2 : InsAt B X (.slice (some ⟨g, 0, none⟩) k k) vl ⟨s, id, gn⟩ w w2); have hR2 : InsRow w (X.es.take k ++ [⟨s, id, gn⟩]) (k + 1) v2 w2 := InsRow.app HR1.out.new (HJ1.out.alloc _).lt (by rw [eVals_append]; exact hown2) hold2; have HJ2 := Lib.hid hA2; have HR2 := Lib.hid hR2; have hS2 := hA2.cells; unfold InsS at hS2; clear hA2 hR2 hown2 hgrow2 hold2))
            all_goals
              clear hS2 hS
              obtain ⟨b0, _, _, _⟩ := hS3
              go_wp2
              go_end0
              refine ⟨_, _, rfl, ?_, fun q hq => by have := HR3.out.new q hq; omega, (Only.of_below HJ3.out.below).setCell _ _⟩
              rw [ins_is (k := k) (by rw [Hn.out]; exact Hs.out)]
              refine HJ3.out.rem.setRow ?_
              rw [show (X.es.take k ++ ⟨s, id, gn⟩ :: X.es.drop k).length = k + 1 + 0 by simp [Hn.out]; try omega, show X.es.take k ++ ⟨s, id, gn⟩ :: X.es.drop k = X.es.take k ++ [⟨s, id, gn⟩] ++ X.es.drop k by simp]
              exact HR3.out.own
          · have hck2 : ¬ (cap = k) := by omega
            have hb0 : (0 : Int) ≤ (k : Int) := by omega
            have hb1 : (k : Int) ≤ (cap : Int) := by omega
            go_wp2_with (fail)
            clear c0 x0 x1 x2
            go_region_held3 (fun W => W.cell? ⟨B, 0, none⟩ = some (.slice (some ⟨g, 0, none⟩) k cap) ∧ W.cell? ⟨w.heap.size, 0, none⟩ = some (.int .i64 (s : Int)) ∧ W.cell? ⟨w.heap.size, 1, none⟩ = some (.string id) ∧ W.cell? ⟨w.heap.size, 2, none⟩ = some (.bool gn)) (first | exact hS3 | exact hS2 | exact hS | exact HS5.out | exact HSb.out | go_keep)
              (first
                | (refine step_append_where _ rfl (.tmp 29) (.tmp 35) 87 rfl 86 i1 (.agg #[.int .i64 0, .string ⟨#[]⟩, .bool false]) 3 32 Try.underlying87 gi gz0 gz1 gz2 rfl (by decide) (.slice none 0 0) 0 [] (by simp [Act.eval]) (World.ownsRow_nil _ _ _ _) ⟨g, 0, none⟩ k cap (eVals (X.es.take k)) (by simp [Act.eval]) (by rw [eVals_len, List.length_take, Hn.out]; omega) (by first | exact src_take HI5.out.drew.rem rfl | exact src_take (HI5.out.alloc _).drew.rem rfl) (eVals_one _) (by unfold maxLen; omega) (by omega) ?_; intro v1 w1 hown1 hgrow1 hold1; have hA1 := (by first | exact HI5.out.drew.app hBl Hvl.out Hll.out (none_fresh _) hgrow1 | exact (HI5.out.alloc _).drew.app hBl Hvl.out Hll.out (none_fresh _) hgrow1 : InsAt B X (.slice (some ⟨g, 0, none⟩) k cap) vl ⟨s, id, gn⟩ w w1); have hR1 := (by first | exact InsRow.app (none_fresh _) HI5.out.drew.lt (by rw [Nat.zero_add] at hown1; exact hown1) hold1 | exact InsRow.app (none_fresh _) (HI5.out.alloc _).drew.lt (by rw [Nat.zero_add] at hown1; exact hown1) hold1 : InsRow w (X.es.take k) k v1 w1); (first | (have Hn1 : Hid (∀ j u, ([.int .i64 (s : Int), .string id, .bool gn] : List Value)[j]? = some u → w1.cell? ((⟨(wr.drewN nq).heap.size, 0, none⟩ : Addr).add j) = some u) := (by exact row_kept hgrow1)) | skip); have HJ1 := Lib.hid hA1; have HR1 := Lib.hid hR1; have hS := hA1.cells; unfold InsS at hS; clear hA1 hR1 hown1 hgrow1 hold1)
                | (refine step_append_where _ rfl (.tmp 36) (.tmp 38) 87 rfl 86 i1 (.agg #[.int .i64 0, .string ⟨#[]⟩, .bool false]) 3 32 Try.underlying87 gi gz0 gz1 gz2 rfl (by decide) v1 k (eVals (X.es.take k)) (by simp [Act.eval]) (by exact HR1.out.own) ⟨(wr.drewN nq).heap.size, 0, none⟩ 1 1 [.int .i64 (s : Int), .string id, .bool gn] (by simp [Act.eval]) rfl (by exact Hn1.out) (by intro u hu; simp at hu; rcases hu with rfl | rfl | rfl <;> rfl) (by unfold maxLen; omega) (by omega) ?_; intro v2 w2 hown2 hgrow2 hold2; have hA2 := (HJ1.out.app hBl Hvl.out Hll.out HR1.out.new hgrow2 : InsAt B X (.slice (some ⟨g, 0, none⟩) k cap) vl ⟨s, id, gn⟩ w w2); have hR2 : InsRow w (X.es.take k ++ [⟨s, id, gn⟩]) (k + 1) v2 w2 := InsRow.app HR1.out.new HJ1.out.lt (by rw [eVals_append]; exact hown2) hold2; have HJ2 := Lib.hid hA2; have HR2 := Lib.hid hR2; have hS2 := hA2.cells; unfold InsS at hS2; clear hA2 hR2 hown2 hgrow2 hold2)
                | (refine step_append_where _ rfl (.tmp 39) (.tmp 45) 87 rfl 86 i1 (.agg #[.int .i64 0, .string ⟨#[]⟩, .bool false]) 3 32 Try.underlying87 gi gz0 gz1 gz2 rfl (by decide) v2 (k + 1) (eVals (X.es.take k ++ [⟨s, id, gn⟩])) (by simp [Act.eval]) (by exact HR2.out.own) ⟨g, k * 3, none⟩ 0 (cap - k) [] (by simp [Act.eval]) rfl (by exact src_none _ _) (by intro u hu; cases hu) (by unfold maxLen; omega) (by omega) ?_; intro v3 w3 hown3 hgrow3 hold3; obtain ⟨g3, cap3, hv3⟩ := slice_at hown3 (by omega); subst hv3; have hA3 := (HJ2.out.app hBl Hvl.out Hll.out HR2.out.new hgrow3 : InsAt B X (.slice (some ⟨g, 0, none⟩) k cap) vl ⟨s, id, gn⟩ w w3); have hR3 : InsRow w (X.es.take k ++ [⟨s, id, gn⟩] ++ X.es.drop k) (k + 1 + 0) _ w3 := InsRow.app HR2.out.new HJ2.out.lt (by rw [HD.out, List.append_nil]; rw [List.append_nil] at hown3; exact hown3) hold3; have HJ3 := Lib.hid hA3; have HR3 := Lib.hid hR3; have hS3 := hA3.cells; unfold InsS at hS3; have fB := free_of_heap hA3.rem.blk 0; clear hA3 hR3 hown3 hgrow3 hold3)
                | (refine step_append_where _ rfl (.tmp 36) (.tmp 38) 87 rfl 86 i1 (.agg #[.int .i64 0, .string ⟨#[]⟩, .bool false]) 3 32 Try.underlying87 gi gz0 gz1 gz2 rfl (by decide) v1 k (eVals (X.es.take k)) (by simp [Act.eval]) (by exact (HR1.out.alloc _).own) ⟨w1.heap.size, 0, none⟩ 1 1 [.int .i64 (s : Int), .string id, .bool gn] (by simp [Act.eval]) rfl (by exact cells_new w1 #[.int .i64 (s : Int), .string id, .bool gn] 86 _ rfl) (by intro u hu; simp at hu; rcases hu with rfl | rfl | rfl <;> rfl) (by unfold maxLen; omega) (by omega) ?_; intro v2 w2 hown2 hgrow2 hold2; have hA2 := ((HJ1.out.alloc _).app hBl Hvl.out Hll.out HR1.out.new hgrow2 : InsAt B X (.slice (some ⟨g, 0, none⟩) k cap) vl ⟨s, id, gn⟩ w w2); have hR2 : InsRow w (X.es.take k ++ [⟨s, id, gn⟩]) (k + 1) v2 w2 := InsRow.app HR1.out.new (HJ1.out.alloc _).lt (by rw [eVals_append]; exact hown2) hold2; have HJ2 := Lib.hid hA2; have HR2 := Lib.hid hR2; have hS2 := hA2.cells; unfold InsS at hS2; clear hA2 hR2 hown2 hgrow2 hold2))
            all_goals
              clear hS2 hS
              obtain ⟨b0, _, _, _⟩ := hS3
              go_wp2
              go_end0
              refine ⟨_, _, rfl, ?_, fun q hq => by have := HR3.out.new q hq; omega, (Only.of_below HJ3.out.below).setCell _ _⟩
              rw [ins_is (k := k) (by rw [Hn.out]; exact Hs.out)]
              refine HJ3.out.rem.setRow ?_
              rw [show (X.es.take k ++ ⟨s, id, gn⟩ :: X.es.drop k).length = k + 1 + 0 by simp [Hn.out]; try omega, show X.es.take k ++ ⟨s, id, gn⟩ :: X.es.drop k = X.es.take k ++ [⟨s, id, gn⟩] ++ X.es.drop k by simp]
              exact HR3.out.own
        · have hck : ¬ (cap = k) := by omega
          have hb0 : (0 : Int) ≤ (k : Int) := by omega
          have hb1 : (k : Int) ≤ (cap : Int) := by omega
          have hb2 : (k : Int) ≤ (n : Int) := by omega
          go_wp2_with (fail)
          clear c0 x0 x1 x2
          go_region_held3 (fun W => W.cell? ⟨B, 0, none⟩ = some (.slice (some ⟨g, 0, none⟩) n cap) ∧ W.cell? ⟨w.heap.size, 0, none⟩ = some (.int .i64 (s : Int)) ∧ W.cell? ⟨w.heap.size, 1, none⟩ = some (.string id) ∧ W.cell? ⟨w.heap.size, 2, none⟩ = some (.bool gn)) (first | exact hS3 | exact hS2 | exact hS | exact HS5.out | exact HSb.out | go_keep)
            (first
              | (refine step_append_where _ rfl (.tmp 29) (.tmp 35) 87 rfl 86 i1 (.agg #[.int .i64 0, .string ⟨#[]⟩, .bool false]) 3 32 Try.underlying87 gi gz0 gz1 gz2 rfl (by decide) (.slice none 0 0) 0 [] (by simp [Act.eval]) (World.ownsRow_nil _ _ _ _) ⟨g, 0, none⟩ k cap (eVals (X.es.take k)) (by simp [Act.eval]) (by rw [eVals_len, List.length_take, Hn.out]; omega) (by first | exact src_take HI5.out.drew.rem rfl | exact src_take (HI5.out.alloc _).drew.rem rfl) (eVals_one _) (by unfold maxLen; omega) (by omega) ?_; intro v1 w1 hown1 hgrow1 hold1; have hA1 := (by first | exact HI5.out.drew.app hBl Hvl.out Hll.out (none_fresh _) hgrow1 | exact (HI5.out.alloc _).drew.app hBl Hvl.out Hll.out (none_fresh _) hgrow1 : InsAt B X (.slice (some ⟨g, 0, none⟩) n cap) vl ⟨s, id, gn⟩ w w1); have hR1 := (by first | exact InsRow.app (none_fresh _) HI5.out.drew.lt (by rw [Nat.zero_add] at hown1; exact hown1) hold1 | exact InsRow.app (none_fresh _) (HI5.out.alloc _).drew.lt (by rw [Nat.zero_add] at hown1; exact hown1) hold1 : InsRow w (X.es.take k) k v1 w1); (first | (have Hn1 : Hid (∀ j u, ([.int .i64 (s : Int), .string id, .bool gn] : List Value)[j]? = some u → w1.cell? ((⟨(wr.drewN nq).heap.size, 0, none⟩ : Addr).add j) = some u) := (by exact row_kept hgrow1)) | skip); have HJ1 := Lib.hid hA1; have HR1 := Lib.hid hR1; have hS := hA1.cells; unfold InsS at hS; clear hA1 hR1 hown1 hgrow1 hold1)
              | (refine step_append_where _ rfl (.tmp 36) (.tmp 38) 87 rfl 86 i1 (.agg #[.int .i64 0, .string ⟨#[]⟩, .bool false]) 3 32 Try.underlying87 gi gz0 gz1 gz2 rfl (by decide) v1 k (eVals (X.es.take k)) (by simp [Act.eval]) (by exact HR1.out.own) ⟨(wr.drewN nq).heap.size, 0, none⟩ 1 1 [.int .i64 (s : Int), .string id, .bool gn] (by simp [Act.eval]) rfl (by exact Hn1.out) (by intro u hu; simp at hu; rcases hu with rfl | rfl | rfl <;> rfl) (by unfold maxLen; omega) (by omega) ?_; intro v2 w2 hown2 hgrow2 hold2; have hA2 := (HJ1.out.app hBl Hvl.out Hll.out HR1.out.new hgrow2 : InsAt B X (.slice (some ⟨g, 0, none⟩) n cap) vl ⟨s, id, gn⟩ w w2); have hR2 : InsRow w (X.es.take k ++ [⟨s, id, gn⟩]) (k + 1) v2 w2 := InsRow.app HR1.out.new HJ1.out.lt (by rw [eVals_append]; exact hown2) hold2; have HJ2 := Lib.hid hA2; have HR2 := Lib.hid hR2; have hS2 := hA2.cells; unfold InsS at hS2; clear hA2 hR2 hown2 hgrow2 hold2)
              | (refine step_append_where _ rfl (.tmp 39) (.tmp 45) 87 rfl 86 i1 (.agg #[.int .i64 0, .string ⟨#[]⟩, .bool false]) 3 32 Try.underlying87 gi gz0 gz1 gz2 rfl (by decide) v2 (k + 1) (eVals (X.es.take k ++ [⟨s, id, gn⟩])) (by simp [Act.eval]) (by exact HR2.out.own) ⟨g, k * 3, none⟩ (n - k) (cap - k) (eVals (X.es.drop k)) (by simp [Act.eval]) (by simp [eVals_len, Hn.out]) (by exact src_drop HJ2.out.rem rfl) (eVals_one _) (by unfold maxLen; omega) (by omega) ?_; intro v3 w3 hown3 hgrow3 hold3; obtain ⟨g3, cap3, hv3⟩ := slice_at hown3 (by omega); subst hv3; have hA3 := (HJ2.out.app hBl Hvl.out Hll.out HR2.out.new hgrow3 : InsAt B X (.slice (some ⟨g, 0, none⟩) n cap) vl ⟨s, id, gn⟩ w w3); have hR3 : InsRow w (X.es.take k ++ [⟨s, id, gn⟩] ++ X.es.drop k) (k + 1 + (n - k)) _ w3 := InsRow.app HR2.out.new HJ2.out.lt (by rw [eVals_append]; exact hown3) hold3; have HJ3 := Lib.hid hA3; have HR3 := Lib.hid hR3; have hS3 := hA3.cells; unfold InsS at hS3; have fB := free_of_heap hA3.rem.blk 0; clear hA3 hR3 hown3 hgrow3 hold3)
              | (refine step_append_where _ rfl (.tmp 36) (.tmp 38) 87 rfl 86 i1 (.agg #[.int .i64 0, .string ⟨#[]⟩, .bool false]) 3 32 Try.underlying87 gi gz0 gz1 gz2 rfl (by decide) v1 k (eVals (X.es.take k)) (by simp [Act.eval]) (by exact (HR1.out.alloc _).own) ⟨w1.heap.size, 0, none⟩ 1 1 [.int .i64 (s : Int), .string id, .bool gn] (by simp [Act.eval]) rfl (by exact cells_new w1 #[.int .i64 (s : Int), .string id, .bool gn] 86 _ rfl) (by intro u hu; simp at hu; rcases hu with rfl | rfl | rfl <;> rfl) (by unfold maxLen; omega) (by omega) ?_; intro v2 w2 hown2 hgrow2 hold2; have hA2 := ((HJ1.out.alloc _).app hBl Hvl.out Hll.out HR1.out.new hgrow2 : InsAt B X (.slice (some ⟨g, 0, none⟩) n cap) vl ⟨s, id, gn⟩ w w2); have hR2 : InsRow w (X.es.take k ++ [⟨s, id, gn⟩]) (k + 1) v2 w2 := InsRow.app HR1.out.new (HJ1.out.alloc _).lt (by rw [eVals_append]; exact hown2) hold2; have HJ2 := Lib.hid hA2; have HR2 := Lib.hid hR2; have hS2 := hA2.cells; unfold InsS at hS2; clear hA2 hR2 hown2 hgrow2 hold2))
          all_goals
            clear hS2 hS
            obtain ⟨b0, _, _, _⟩ := hS3
            go_wp2
            go_end0
            refine ⟨_, _, rfl, ?_, fun q hq => by have := HR3.out.new q hq; omega, (Only.of_below HJ3.out.below).setCell _ _⟩
            rw [ins_is (k := k) (by rw [Hn.out]; exact Hs.out)]
            refine HJ3.out.rem.setRow ?_
            rw [show (X.es.take k ++ ⟨s, id, gn⟩ :: X.es.drop k).length = k + 1 + (n - k) by simp [Hn.out]; try omega, show X.es.take k ++ ⟨s, id, gn⟩ :: X.es.drop k = X.es.take k ++ [⟨s, id, gn⟩] ++ X.es.drop k by simp]
            exact HR3.out.own




end Go.Proofs.Ytmdfpknhfkgfoaa
