/- cid.Remote.Add: the walk when the frame is in order. -/
import Derived.Test.YtmdfpknhfkgfoaaAdd2
namespace Go.Proofs.Ytmdfpknhfkgfoaa
open Go.RowKit Go.Shelf

def AddPost (B : Nat) (v : Value) (err : Int) (R' : Rem) (w : World) (e : Ending) (w' : World) : Prop := e = .returned (.int .i64 err) ∧ ChgPost B R' v w w'

/-- The copy of the entries. -/
theorem copy_ent (E : Ent) (w : World) :
    Blk w.heap.size 65 E.at 82 ((w.alloc (.cells Try.zeroCells82 82)).setCells w.heap.size 0 (rowOf 65 E.at).toList) ∧
    Below w.heap.size w ((w.alloc (.cells Try.zeroCells82 82)).setCells w.heap.size 0 (rowOf 65 E.at).toList) := by
  have hz : Try.zeroCells82 = rowOf 65 (Ent.at { ids := fun _ => ⟨#[]⟩, st := fun _ => 0, bound := 0 }) := by kernel_rfl
  rw [hz]
  have h := setCells_blk 65 0 E.at _ _ (Blk.new w 65 (Ent.at { ids := fun _ => ⟨#[]⟩, st := fun _ => 0, bound := 0 }) 82)
  refine ⟨h.1.congr (fun j hj => ?_), ?_⟩
  · unfold updR; rw [if_pos (by omega)]; simp
  · exact (h.2.keeps).below ((Below.refl _ w).alloc (Nat.le_refl _) _) (fun i e => by rw [e]; exact Nat.le_refl _) (by simp)

theorem row_ent (R : Rem) (v : Value) : ((List.range 65).map fun j => R.at v (0 + j)).toArray = rowOf 65 R.ent.at := rowOf_congr (f := fun j => R.at v (0 + j)) (fun j hj => by simp [Rem.at, hj])
theorem row_size (k : Nat) (f : Nat → Value) : (rowOf k f).size = k := by simp [rowOf]

theorem zero_there (w : World) : (w.alloc (.cells Try.zeroCells82 82)).there w.heap.size 0 65 := by
  have hz : Try.zeroCells82 = rowOf 65 (Ent.at { ids := fun _ => ⟨#[]⟩, st := fun _ => 0, bound := 0 }) := by kernel_rfl
  rw [hz]
  exact Blk.there (Blk.new w 65 _ _) 0 65 (by decide)

/-- Where the walk stands: the Remote as it was, the copy, the frame. -/
structure AddAt (B : Nat) (R : Rem) (v : Value) (Be : Nat) (E : Ent) (Bf : Nat) (F : Array Value) (w W : World) : Prop where
  rem : IsRem B R v W
  ent : Blk Be 65 E.at 82 W
  frm : W.heap[Bf]? = some (.cells F 42 (0, 0))
  below : Below w.heap.size w W

theorem AddAt.setCell {B : Nat} {R : Rem} {v : Value} {Be : Nat} {E E' : Ent} {Bf : Nat} {F : Array Value} {w W : World} (h : AddAt B R v Be E Bf F w W) (hB : Be ≠ B) (hv : ∀ k, v.ownBlock = some k → k ≠ Be) (hF : Be ≠ Bf) (hw : w.heap.size ≤ Be) (j : Nat) (x : Value)
    (he : ∀ i, i < 65 → upd E.at j x i = E'.at i) : AddAt B R v Be E' Bf F w (W.setCell ⟨Be, j, none⟩ x) :=
  ⟨h.rem.kept (S := fun k => k = Be) ((Keeps.refl (fun k => k = Be) W).setCell (.inl rfl)) (fun e => hB e.symm) hv, (h.ent.set j x).congr he, (Below.heap_setCell W _ _ _ hF.symm).trans h.frm, h.below.setCell (p := ⟨Be, j, none⟩) hw _⟩

theorem AddAt.drew {B : Nat} {R : Rem} {v : Value} {Be : Nat} {E : Ent} {Bf : Nat} {F : Array Value} {w W : World} (h : AddAt B R v Be E Bf F w W) : AddAt B R v Be E Bf F w W.drew :=
  ⟨h.rem.drew, h.ent.drew, h.frm, h.below.drew⟩

theorem AddAt.keeps {B : Nat} {R : Rem} {v : Value} {Be : Nat} {E : Ent} {Bf : Nat} {F : Array Value} {w W W' : World} {S : Nat → Prop} (h : AddAt B R v Be E Bf F w W) (hk : Keeps S W W') (hw : w.heap.size ≤ W.heap.size) (hB : ¬ S B) (hv : ∀ k, v.ownBlock = some k → ¬ S k) (hE : ¬ S Be) (hF : ¬ S Bf) (hb : ∀ k, S k → w.heap.size ≤ k) : AddAt B R v Be E Bf F w W' :=
  ⟨h.rem.kept hk hB hv, h.ent.keeps hk hE, (hk.block Bf (Array.getElem?_eq_some_iff.1 h.frm).1 hF).trans h.frm, hk.below h.below hb hw⟩

theorem AddAt.alloc {B : Nat} {R : Rem} {v : Value} {Be : Nat} {E : Ent} {Bf : Nat} {F : Array Value} {w W : World} (h : AddAt B R v Be E Bf F w W) (o : Obj) : AddAt B R v Be E Bf F w (W.alloc o) :=
  h.keeps (S := fun _ => False) ((Keeps.refl _ _).alloc o) h.below.size (fun e => e) (fun _ _ e => e) (fun e => e) (fun e => e) (fun _ e => e.elim)

theorem AddAt.of_below {B : Nat} {R : Rem} {v : Value} {Be : Nat} {E : Ent} {Bf : Nat} {F : Array Value} {w W W' : World} (h : AddAt B R v Be E Bf F w W) (hb : Below W.heap.size W W') : AddAt B R v Be E Bf F w W' :=
  h.keeps (S := fun _ => False) (Keeps.of_below hb) h.below.size (fun e => e) (fun _ _ e => e) (fun e => e) (fun e => e) (fun _ e => e.elim)

theorem row_ge {W : World} {base size n : Nat} {e : TypeId} {v : Value} {xs : List Value} (h : W.ownsRow base e size v n xs) : ∀ j, v.ownBlock = some j → base ≤ j := by
  intro j ej
  rcases h.2 with ⟨rfl, _⟩ | ⟨g, cap, cur, rfl, hb, hgb, _⟩
  · simp [Value.ownBlock] at ej
  · obtain rfl : g = j := by simpa [Value.ownBlock] using ej
    exact hb

theorem row_type {W : World} {base size n : Nat} {e t : TypeId} {v : Value} {xs : List Value} (h : W.ownsRow base e size v n xs) (B : Nat) (F : Array Value) (hB : W.heap[B]? = some (.cells F t (0, 0))) (hte : t ≠ e) : ¬ (v.ownBlock = some B) := by
  intro ej
  rcases h.2 with ⟨rfl, _⟩ | ⟨g, cap, cur, rfl, hb, hgb, _⟩
  · simp [Value.ownBlock] at ej
  · obtain rfl : g = B := by simpa [Value.ownBlock] using ej
    rw [hB] at hgb
    injection hgb with h1
    injection h1 with _ h2
    exact hte h2

theorem AddAt.grown {B : Nat} {R : Rem} {v : Value} {Be : Nat} {E : Ent} {Bf : Nat} {F : Array Value} {w W W' : World} (h : AddAt B R v Be E Bf F w W) {l : Value} {n : Nat} {xs : List Value} (hown : W.ownsRow w.heap.size 3 1 l n xs) (hg : W.grownBy W' l.ownBlock) (hvl : ∀ j, v.ownBlock = some j → j < w.heap.size) : AddAt B R v Be E Bf F w W' :=
  h.keeps (S := fun k => l.ownBlock = some k) (Keeps.of_grown hg (fun _ e => e)) h.below.size (row_type hown B _ h.rem.blk (by decide)) (fun k hk e => by have := hvl k hk; have := row_ge hown k e; omega) (row_type hown Be _ h.ent (by decide)) (row_type hown Bf _ h.frm (by decide)) (row_ge hown)

/-- append of one owned row onto another. -/
theorem wpList_append_two {P : Program} (w : World) {ops : Array Oper} {rest : List Oper} {o : Oper} {a : Act} {Q : Exit → Act → World → Prop} (hgd : o.guard = none) (s x : Operand) (t : TypeId)
    (ho : o.op = .call { callee := .builtin .append, args := #[s, x], argTypes := #[t, t] })
    (e : TypeId) (i : TypeInfo) (z : Value) (bytes : Nat) (ht : P.underlying t = some (.slice e)) (hi : P.info? e = some i) (hz : i.zero = some z)
    (hsize : i.size = 1) (hby : i.bytes = bytes) (hzs : z.cells.size = 1)
    (v : Value) (n : Nat) (xs : List Value) (hs : a.eval s = v) (hown : w.ownsRow 0 e 1 v n xs)
    (base : Nat) (l : Value) (m : Nat) (ys : List Value) (hx : a.eval x = l) (hl : w.ownsRow base e 1 l m ys) (h1 : ∀ u ∈ ys, u.oneCell' = true)
    (h63 : n + m ≤ maxLen) (hbytes : (n + m) * bytes ≤ 140737488355328)
    (h : ∀ v' w', w'.ownsRow 0 e 1 v' (n + m) (xs ++ ys) → w.grownBy w' v.ownBlock → OldOrNew v v' w.heap.size → wpList P ops Q rest (a.put o.dst v') w') : wpList P ops Q (o :: rest) a w := by
  rcases hl.2 with ⟨h2, h3⟩ | ⟨g, cap, cur, h2, hb, hgb, hrest⟩
  · have hys : ys = [] := List.eq_nil_of_length_eq_zero (by have := hl.1; omega)
    subst h3
    refine wpList_append_own_none hgd s x t ho 0 e i 1 ht hi v n xs hs hown (hx.trans h2) ?_
    refine h v w ?_ ⟨rfl, rfl, rfl, Nat.le_refl _, fun _ _ _ => rfl⟩ (OldOrNew.refl _ _)
    rw [hys, List.append_nil]; exact hown
  · subst h2
    refine wpList_append_where w hgd s x t ho e i z 1 bytes ht hi hz hsize hby hzs (by decide) v n xs hs hown ⟨g, 0, none⟩ m cap ys hx (by have := hl.1; omega) (own_src hl) h1 h63 hbytes h

theorem own_shape {W : World} {base size n : Nat} {e : TypeId} {v : Value} {xs : List Value} (h : W.ownsRow base e size v n xs) : ∃ o c, v = .slice o n c := by
  rcases h.2 with ⟨rfl, rfl⟩ | ⟨g, cap, cur, rfl, hb, hgb, _⟩
  · exact ⟨_, _, rfl⟩
  · exact ⟨_, _, rfl⟩

theorem ownsRow_below {w w' : World} {base : Nat} {e : TypeId} {size : Nat} {v : Value} {n : Nat} {xs : List Value} (h : w.ownsRow base e size v n xs) (hb : Below w.heap.size w w') : w'.ownsRow base e size v n xs :=
  ownsRow_keeps (S := fun _ => False) h (Keeps.of_below hb) (fun _ _ h => h)

theorem AddAt.entAt {B : Nat} {R : Rem} {v : Value} {Be : Nat} {E : Ent} {Bf : Nat} {F : Array Value} {w W : World} (h : AddAt B R v Be E Bf F w W) : EntAt Be 0 E 65 E.at 82 W := ⟨h.ent, Nat.le_refl _, fun j _ => by rw [Nat.zero_add]⟩

/-- advance on the copy. -/
theorem AddAt.adv {B : Nat} {R : Rem} {v : Value} {Be : Nat} {E : Ent} {Bf : Nat} {F : Array Value} {w W W' : World} {e : Ending} (h : AddAt B R v Be E Bf F w W) (hB : Be ≠ B) (hv : ∀ k, v.ownBlock = some k → k ≠ Be) (hF : Be ≠ Bf) (hw : w.heap.size ≤ Be) (ha : AdvPost Be 0 65 E.at 82 E W e W') : AddAt B R v Be E.adv Bf F w W' := by
  refine ⟨h.rem.kept ha.1 (fun e => hB e.symm) hv, ?_, (ha.1.block Bf (Array.getElem?_eq_some_iff.1 h.frm).1 hF.symm).trans h.frm, ha.1.below h.below (fun i e => by rw [e]; exact hw) h.below.size⟩
  rcases ha.2 with ⟨h1, _, h2⟩ | ⟨x, h1, _, h2⟩
  · have : E.adv = E := by unfold Ent.adv; rw [h1]; rfl
    rw [this]; exact h2
  · have hx := x.isLt
    have : E.adv = E.setSt x.val 2 := by unfold Ent.adv; rw [h1]
    rw [this]
    refine h2.congr ?_
    have := E.setSt_at 0 x.val 2 hx E.at (fun j _ => by rw [Nat.zero_add])
    simpa using this

theorem row_at (E : Ent) : ((List.range 65).map fun j => E.at (0 + j)).toArray = rowOf 65 E.at := rowOf_congr (f := fun j => E.at (0 + j)) (fun j _ => by rw [Nat.zero_add])

/-- The Remote takes the copy. -/
theorem take_ent {B : Nat} {R : Rem} {v : Value} {W : World} (h : IsRem B R v W) (E : Ent) : IsRem B { R with ent := E } v (W.setCells B 0 (rowOf 65 E.at).toList) ∧ Only B W (W.setCells B 0 (rowOf 65 E.at).toList) := by
  have h2 := setCells_blk 65 0 E.at _ _ h.blk
  refine ⟨⟨h2.1.congr (fun j hj => ?_), ?_⟩, h2.2⟩
  · unfold updR
    by_cases hj2 : j < 65
    · rw [if_pos (by omega)]; simp [Rem.at, hj2]
    · rw [if_neg (by omega)]; simp [Rem.at, hj2]
  · exact ownsRow_keeps h.own h2.2.keeps (h.blk.ne_row (by decide) h.own)

/-- The Remote's report grows. -/
theorem grow_left {B : Nat} {R : Rem} {v v' : Value} {W W' : World} (h : IsRem B R v W) (l : List Nat) (ho : W'.ownsRow 0 3 1 v' (R.left.length + l.length) (natVals R.left ++ natVals l)) (hg : W.grownBy W' v.ownBlock) :
    Blk B 66 (R.at v) 84 W' ∧ IsRem B { R with left := R.left ++ l } v' (W'.setCell ⟨B, 65, none⟩ v') := by
  have hb : Blk B 66 (R.at v) 84 W' := h.blk.keeps (Keeps.of_grown (S := fun k => v.ownBlock = some k) hg (fun _ e => e)) (fun e => h.blk.ne_row (e := 3) (by decide) h.own B e rfl)
  refine ⟨hb, (hb.set 65 v').congr (fun j hj => ?_), ?_⟩
  · simp only [upd, Rem.at]
    by_cases hj2 : j = 65
    · simp [hj2]
    · have : j < 65 := by omega
      simp [hj2, this]
  · rw [List.length_append, show natVals (R.left ++ l) = natVals R.left ++ natVals l by simp [natVals]]
    exact ownsRow_keeps ho ((Keeps.refl (fun k => k = B) W').setCell (.inl rfl)) (hb.ne_row (by decide) ho)

set_option maxRecDepth 100000 in
set_option maxHeartbeats 2000000 in
theorem add_main (B : Nat) (R : Rem) (v : Value) (w : World) (hR : IsRem B R v w) (v1 v2 v3 v4 v5 v6 v7 v8 v9 : Value) (seq ret : Nat) (z y : Int) (hz : z = ↑seq) (hy : y = ↑ret) (c : ByteArray) (h2 : c.size = 8) (h4 : ret ≤ seq) (h5 : seq < 32) (hf : R.ent.fits seq c = true) (hbd : R.ent.bound < 32) (hlen : R.left.length + 32 ≤ 1000000) :
    Calls Try.prog 29 #[.pointer (some ⟨B, 0, none⟩), frameA 24 v1 v2 v3 v4 v5 v6 v7 v8 v9 z y c] w (AddPost B v (R.add seq ret c).1 (R.add seq ret c).2 w) := by
  subst hz hy
  have h2' : ((c.size : Int) != 8) = false := by rw [h2]; rfl
  have h3' : ¬ ((ret : Int) < 0) := by omega
  have h4' : ¬ ((seq : Int) < ret) := by omega
  have h5' : ¬ ((32 : Int) ≤ seq) := by omega
  have HR := Lib.hid hR; clear hR h2
  have Hf := Lib.hid hf; clear hf
  go_enter Try.func29, Try.ntmps29
  go_wp2_with (fail)
  refine (consistent_any B R v _ (HR.out.alloc _) 24 v1 v2 v3 v4 v5 v6 v7 v8 v9 seq _ ret rfl c).mono ?_
  rintro e w1 ⟨rfl, hb1⟩
  rw [Hf.out]
  have hFr := Lib.hid ((hb1.block w.heap.size (by simp)).trans (heap_alloc_new w (.cells #[.int .i64 24, v1, v2, v3, v4, v5, v6, v7, v8, v9, .int .i64 seq, .int .i64 ret, .string c] 42)))
  have hR1 := Lib.hid ((HR.out.alloc (.cells #[.int .i64 24, v1, v2, v3, v4, v5, v6, v7, v8, v9, .int .i64 seq, .int .i64 ret, .string c] 42)).below hb1)
  have hbw := Lib.hid (((Below.refl _ w).alloc (Nat.le_refl _) (.cells #[.int .i64 24, v1, v2, v3, v4, v5, v6, v7, v8, v9, .int .i64 seq, .int .i64 ret, .string c] 42)).trans (hb1.mono (by simp)))
  have hs1 : w.heap.size + 1 ≤ w1.heap.size := by have := hb1.size; simpa using this
  have hrg := Lib.hid (hR1.out.blk.range 0 65 (by decide))
  clear hb1
  go_upto_region 13 with (first
    | (refine wpList_load_mid rfl 82 (.tmp 38) rfl B 0 rfl _ _ hrg.out Try.underlying82 rfl (by simpa using size_ent) ?_; rw [row_ent])
    | (refine wpList_store_mid rfl 82 (.tmp 5) (.tmp 39) rfl w1.heap.size 0 _ rfl rfl (by rw [row_size]; exact zero_there w1) (by rw [row_size]; exact size_ent) R.ent.all_one ?_; have hcp := copy_ent R.ent w1; generalize World.setCells _ _ _ _ = W2 at hcp ⊢))
  have Hat : Hid (AddAt B R v w1.heap.size R.ent w.heap.size #[.int .i64 24, v1, v2, v3, v4, v5, v6, v7, v8, v9, .int .i64 seq, .int .i64 ret, .string c] w W2) :=
    ⟨hR1.out.below hcp.2, hcp.1, (hcp.2.block _ hs1).trans hFr.out, hbw.out.trans (hcp.2.mono (by omega))⟩
  have hvl := own_lt HR.out.own
  have hbl := HR.out.blk.lt
  have hneB : w1.heap.size ≠ B := by omega
  have hneF : w1.heap.size ≠ w.heap.size := by omega
  have hnv : ∀ k, v.ownBlock = some k → k ≠ w1.heap.size := fun k hk => by have := hvl k hk; omega
  clear hrg hcp hFr hR1 hbw
  have c10 := cell_of_heap Hat.out.frm 10
  have c11 := cell_of_heap Hat.out.frm 11
  have c12 := cell_of_heap Hat.out.frm 12
  have cst := Hat.out.ent.cell (32 + seq) (by omega)
  rw [R.ent.at_st seq h5] at cst
  have cid := Hat.out.ent.cell seq (by omega)
  have fid := Hat.out.ent.free seq
  have fst := Hat.out.ent.free (32 + seq)
  have h5i : (seq : Int) < 32 := by omega
  go_upto_if 45 with (fail)
  go_cut [5] (fun u wx => u = .pointer (some ⟨w1.heap.size, 0, none⟩) ∧ Hid (AddAt B R v w1.heap.size (R.ent.put seq c) w.heap.size #[.int .i64 24, v1, v2, v3, v4, v5, v6, v7, v8, v9, .int .i64 seq, .int .i64 ret, .string c] w wx))
  case first =>
    by_cases h0 : R.ent.st seq = 0
    · have h0' : ((R.ent.st seq : Int) == 0) = true := by rw [h0]; rfl
      have cid' := ((Hat.out.ent.set seq (.string c)).cell (32 + seq) (by omega))
      have fst' := ((Hat.out.ent.set seq (.string c)).free (32 + seq))
      have d10 := (Below.heap_setCell W2 ⟨w1.heap.size, seq, none⟩ (.string c) w.heap.size hneF.symm).trans Hat.out.frm
      have d10' := cell_of_heap d10 10
      have HE : Hid (AddAt B R v w1.heap.size (R.ent.put seq c) w.heap.size #[.int .i64 24, v1, v2, v3, v4, v5, v6, v7, v8, v9, .int .i64 seq, .int .i64 ret, .string c] w ((W2.setCell ⟨w1.heap.size, seq, none⟩ (.string c)).setCell ⟨w1.heap.size, 32 + seq, none⟩ (.int .i64 1))) := by
        refine ⟨?_, ?_, ?_, ?_⟩
        · exact (Hat.out.rem.kept (S := fun k => k = w1.heap.size) (((Keeps.refl (fun k => k = w1.heap.size) W2).setCell (.inl rfl)).setCell (.inl rfl)) (fun e => hneB e.symm) hnv)
        · exact ((Hat.out.ent.set seq (.string c)).set (32 + seq) (.int .i64 1)).congr (R.ent.at_put seq c h5 h0)
        · exact (Below.heap_setCell _ _ _ _ hneF.symm).trans d10
        · exact (Hat.out.below.setCell (p := ⟨w1.heap.size, seq, none⟩) (by show w.heap.size ≤ w1.heap.size; omega) _).setCell (p := ⟨w1.heap.size, 32 + seq, none⟩) (by show w.heap.size ≤ w1.heap.size; omega) _
      clear h0 d10 Hat HR hnv hvl
      go_wp2
      go_region
      all_goals go_wp2_with (fail)
      all_goals go_meet
      all_goals exact ⟨rfl, HE.out.drew⟩
    · have h0' : ((R.ent.st seq : Int) == 0) = false := by rw [beq_eq_false_iff_ne]; omega
      have HE := Hat.out
      rw [show R.ent.st seq = 0 ↔ False from ⟨fun h => h0 h, False.elim⟩] at h0
      go_wp2_with (fail)
      go_meet
      refine ⟨rfl, ?_⟩
      have : R.ent.put seq c = R.ent := by unfold Ent.put; rw [if_neg (by intro h; rw [h] at h0'; cases h0')]
      rw [this]; exact Hat
  case rest =>
    obtain ⟨rfl, Hat2⟩ := hcut
    clear Hat c10 c11 c12 cst cid fid fst h2' h3' h4' h5'
    have hpb : (R.ent.put seq c).bound = R.ent.bound := by unfold Ent.put; split <;> rfl
    have c11 := cell_of_heap Hat2.out.frm 11
    have c64 := Hat2.out.ent.cell 64 (by decide)
    have f64 := Hat2.out.ent.free 64
    rw [Ent.at_bound, hpb] at c64
    go_upto_region 15 with (fail)
    go_cut [5] (fun u wx => u = .pointer (some ⟨w1.heap.size, 0, none⟩) ∧ Hid (AddAt B R v w1.heap.size (R.ent.made seq ret c) w.heap.size #[.int .i64 24, v1, v2, v3, v4, v5, v6, v7, v8, v9, .int .i64 seq, .int .i64 ret, .string c] w wx))
    case first =>
      have hst : ∀ m : Int, m = (max R.ent.bound ret : Nat) → AddAt B R v w1.heap.size (R.ent.made seq ret c) w.heap.size #[.int .i64 24, v1, v2, v3, v4, v5, v6, v7, v8, v9, .int .i64 seq, .int .i64 ret, .string c] w (wc.setCell ⟨w1.heap.size, 64, none⟩ (.int .i64 m)) := fun m hm =>
        Hat2.out.setCell hneB hnv hneF (by omega) 64 _ (by rw [hm, ← hpb]; exact Ent.at_bnd _ ret)
      have Hst := Lib.hid hst; clear hst
      go_wp2_with (fail)
      all_goals go_meet
      all_goals exact ⟨rfl, Hst.out _ (by omega)⟩
    case rest =>
      obtain ⟨rfl, Hat3⟩ := hcut
      clear Hat2 c11 c64 f64
      rename_i wc3
      have hmb : (R.ent.made seq ret c).bound < 32 := by show max (R.ent.put seq c).bound ret < 32; rw [hpb]; omega
      obtain ⟨E, hE⟩ : ∃ E, R.ent.made seq ret c = E := ⟨_, rfl⟩
      rw [hE] at Hat3 hmb
      have HE := Lib.hid hE; clear hE hpb hbd
      have c64 := Hat3.out.ent.cell 64 (by decide)
      rw [Ent.at_bound] at c64
      obtain ⟨i0, hi, hz0, hz1, hz2⟩ := info_parts info_int
      go_wp2
      go_loopw [6, 64] (fun l i wr => ∃ k : Nat, k ≤ E.bound ∧ i = .int .i64 k ∧ Hid (AddAt B R v w1.heap.size (E.prune k) w.heap.size #[.int .i64 24, v1, v2, v3, v4, v5, v6, v7, v8, v9, .int .i64 seq, .int .i64 ret, .string c] w wr) ∧ Hid (wr.ownsRow w.heap.size 3 1 l (E.gone k).length (natVals (E.gone k)))) (fun _ i _ => E.bound - (intOf i).toNat)
      case atStart => exact ⟨0, Nat.zero_le _, rfl, Hat3, World.ownsRow_nil _ _ _ _⟩
      case round =>
        clear c64 Hat3
        obtain ⟨k, hk, rfl, hat, hown⟩ := hrel
        by_cases hlt : k < E.bound
        · have cs := hat.out.ent.cell (32 + k) (by omega)
          have fs := hat.out.ent.free (32 + k)
          rw [Ent.at_st _ k (by omega), E.prune_st k k (Nat.le_refl _)] at cs
          have hlt1 : (k : Int) < 32 := by omega
          by_cases h1 : E.st k = 1
          · have Hl := Lib.hid (show E.live k = true by unfold Ent.live; rw [h1]; rfl)
            rw [h1] at cs
            clear h1
            have hown2 := ownsRow_keeps hown.out ((Keeps.refl (fun k => k = w1.heap.size) wr).setCell (j := 32 + k) (v := .int .i64 3) (.inl rfl)) (fun g hg e => row_type hown.out w1.heap.size _ hat.out.ent (by decide) (by rw [hg, e]))
            have hat2 := hat.out.setCell (E' := (E.prune k).setSt k 3) hneB hnv hneF (by omega) (32 + k) (.int .i64 3) (by have := (E.prune k).setSt_at 0 k 3 (by omega) (E.prune k).at (fun j _ => by rw [Nat.zero_add]); simpa using this)
            have hwr := hat.out.below.size
            have hgl := E.gone_le k
            have Hat2 := Lib.hid hat2; clear hat2
            have Hown2 := Lib.hid hown2; clear hown2
            clear hat hown
            go_wp2_with (at_builtin; refine wpList_append_own _ rfl _ _ 47 rfl w.heap.size 3 i0 (.int .i64 0) 1 8 Try.underlying47 hi hz0 hz1 hz2 rfl (by decide) _ _ _ rfl (Hown2.out.alloc _) ⟨wr.heap.size, 0, none⟩ 1 1 [.int .i64 (k : Int)] rfl rfl (by simpa using cell_one_new (wr.setCell ⟨w1.heap.size, 32 + k, none⟩ (.int .i64 3)) (.int .i64 (k : Int)) 3) (by simp [Value.oneCell']) (by unfold maxLen; omega) (by omega) (by simp; omega) ?_; intro v' w5 hown' hgrow _)
            go_roundw
            case rel => exact ⟨k + 1, by omega, by go_num, by unfold Ent.prune; rw [if_pos Hl.out]; exact (Hat2.out.alloc _).grown (Hown2.out.alloc _) hgrow hvl, by unfold Ent.gone; rw [if_pos Hl.out, natVals_snoc, List.length_append]; exact hown'⟩
            case measure => simp [intOf]; omega
          · have h1' : ((E.st k : Int) == 1) = false := by rw [beq_eq_false_iff_ne]; omega
            by_cases h2 : E.st k = 2
            · have Hl := Lib.hid (show E.live k = true by unfold Ent.live; rw [h2]; rfl)
              rw [h2] at cs
              clear h1 h1' h2
              have hown2 := ownsRow_keeps hown.out ((Keeps.refl (fun k => k = w1.heap.size) wr).setCell (j := 32 + k) (v := .int .i64 3) (.inl rfl)) (fun g hg e => row_type hown.out w1.heap.size _ hat.out.ent (by decide) (by rw [hg, e]))
              have hat2 := hat.out.setCell (E' := (E.prune k).setSt k 3) hneB hnv hneF (by omega) (32 + k) (.int .i64 3) (by have := (E.prune k).setSt_at 0 k 3 (by omega) (E.prune k).at (fun j _ => by rw [Nat.zero_add]); simpa using this)
              have hwr := hat.out.below.size
              have hgl := E.gone_le k
              have Hat2 := Lib.hid hat2; clear hat2
              have Hown2 := Lib.hid hown2; clear hown2
              clear hat hown
              go_wp2_with (at_builtin; refine wpList_append_own _ rfl _ _ 47 rfl w.heap.size 3 i0 (.int .i64 0) 1 8 Try.underlying47 hi hz0 hz1 hz2 rfl (by decide) _ _ _ rfl (Hown2.out.alloc _) ⟨wr.heap.size, 0, none⟩ 1 1 [.int .i64 (k : Int)] rfl rfl (by simpa using cell_one_new (wr.setCell ⟨w1.heap.size, 32 + k, none⟩ (.int .i64 3)) (.int .i64 (k : Int)) 3) (by simp [Value.oneCell']) (by unfold maxLen; omega) (by omega) (by simp; omega) ?_; intro v' w5 hown' hgrow _)
              go_roundw
              case rel => exact ⟨k + 1, by omega, by go_num, by unfold Ent.prune; rw [if_pos Hl.out]; exact (Hat2.out.alloc _).grown (Hown2.out.alloc _) hgrow hvl, by unfold Ent.gone; rw [if_pos Hl.out, natVals_snoc, List.length_append]; exact hown'⟩
              case measure => simp [intOf]; omega
            · have h2' : ((E.st k : Int) == 2) = false := by rw [beq_eq_false_iff_ne]; omega
              have Hl := Lib.hid (show E.live k = false by unfold Ent.live; rw [beq_eq_false_iff_ne.2 h1, beq_eq_false_iff_ne.2 h2]; rfl)
              clear h1 h2
              go_wp2
              go_roundw
              case rel => exact ⟨k + 1, by omega, by go_num, by unfold Ent.prune; rw [if_neg (by rw [Hl.out]; simp)]; exact hat, by unfold Ent.gone; rw [if_neg (by rw [Hl.out]; simp)]; exact hown⟩
              case measure => simp [intOf]; omega
        · obtain rfl : k = E.bound := by omega
          obtain ⟨l6, hl6⟩ : ∃ l6 : List Nat, E.gone E.bound = l6 := ⟨_, rfl⟩
          rw [hl6] at hown
          have Hl6 := Lib.hid hl6; clear hl6
          obtain ⟨E3, hE3⟩ : ∃ E3 : Ent, E.prune E.bound = E3 := ⟨_, rfl⟩
          rw [hE3] at hat
          have HE3 := Lib.hid hE3; clear hE3
          go_upto_region 24 with (fail)
          go_cut [5, 6, 92] (fun u l b wx => u = .pointer (some ⟨w1.heap.size, 0, none⟩) ∧ l = u6 ∧ b = .bool (decide (hits (E3.isIn 2) 32 = [] ∧ hits (E3.isIn 1) 32 = [])) ∧ Hid (AddAt B R v w1.heap.size E3.next w.heap.size #[.int .i64 24, v1, v2, v3, v4, v5, v6, v7, v8, v9, .int .i64 seq, .int .i64 ret, .string c] w wx) ∧ Hid (wx.ownsRow w.heap.size 3 1 u6 l6.length (natVals l6)))
          case first =>
            by_cases h2 : hits (E3.isIn 2) 32 = []
            · have h2' : (((hits (E3.isIn 2) 32).length : Int) == 0) = true := by rw [h2]; rfl
              have hn2 : E3.next = E3.adv := by unfold Ent.next; rw [if_pos h2]
              have H2 := Lib.hid h2; clear h2
              have Hn2 := Lib.hid hn2; clear hn2
              go_wp2_with (fail)
              refine (count_any w1.heap.size 0 2 65 _ _ E3 _ hat.out.entAt).mono ?_
              rintro e w7 ⟨rfl, hb7⟩
              have hat7 := Lib.hid (hat.out.of_below hb7)
              have hown7 := Lib.hid (ownsRow_below hown.out hb7)
              go_wp2_with (fail)
              refine (advance_any w1.heap.size 0 65 _ _ E3 _ hat7.out.entAt).mono ?_
              intro e w8 ha
              have hat8 := Lib.hid (hat7.out.adv hneB hnv hneF (by omega) ha)
              have hown8 := Lib.hid (ownsRow_keeps hown7.out ha.1 (fun g hg e => row_type hown7.out w1.heap.size _ hat7.out.ent (by decide) (by rw [hg, e])))
              rcases ha.2 with ⟨h1, rfl, _⟩ | ⟨x, h1, rfl, _⟩
              · have H1 := Lib.hid h1; clear h1 ha
                go_wp2_with (fail)
                go_meet
                exact ⟨rfl, rfl, by rw [decide_eq_true ⟨H2.out, H1.out⟩], by rw [Hn2.out]; exact hat8, hown8⟩
              · have H1 := Lib.hid h1; clear h1 ha
                go_wp2_with (fail)
                go_meet
                exact ⟨rfl, rfl, by rw [decide_eq_false (fun h => by have := H1.out; rw [h.2] at this; cases this)], by rw [Hn2.out]; exact hat8, hown8⟩
            · have h2' : (((hits (E3.isIn 2) 32).length : Int) == 0) = false := by
                rw [beq_eq_false_iff_ne]; intro e; exact h2 (List.eq_nil_of_length_eq_zero (by omega))
              have hn2 : E3.next = E3 := by unfold Ent.next; rw [if_neg h2]
              have H2 := Lib.hid h2; clear h2
              have Hn2 := Lib.hid hn2; clear hn2
              go_wp2_with (fail)
              refine (count_any w1.heap.size 0 2 65 _ _ E3 _ hat.out.entAt).mono ?_
              rintro e w7 ⟨rfl, hb7⟩
              have hat7 := Lib.hid (hat.out.of_below hb7)
              have hown7 := Lib.hid (ownsRow_below hown.out hb7)
              go_wp2_with (fail)
              go_meet
              exact ⟨rfl, rfl, by rw [decide_eq_false (fun h => H2.out h.1)], by rw [Hn2.out]; exact hat7, hown7⟩
          case rest =>
            obtain ⟨rfl, rfl, rfl, hat8, hown8⟩ := hcut
            clear hat hown
            have hkept : R.ent.kept seq ret c = E3 := by unfold Ent.kept; rw [HE.out, HE3.out]
            have hlost : R.ent.lost seq ret c = l6 := by unfold Ent.lost; rw [HE.out, Hl6.out]
            have hll : l6.length ≤ 32 := by have := E.gone_le E.bound; rw [Hl6.out] at this; omega
            have hnf : ¬ (R.ent.fits seq c = false) := by rw [Hf.out]; simp
            by_cases hboth : hits (E3.isIn 2) 32 = [] ∧ hits (E3.isIn 1) 32 = []
            · have hadd : R.add seq ret c = (70, R) := by unfold Rem.add; rw [if_neg hnf, hkept, if_pos hboth]
              rw [decide_eq_true hboth]
              have Hadd := Lib.hid hadd
              clear hboth hadd hkept hlost hnf
              go_wp2
              go_ret
              rw [Hadd.out]
              exact ⟨rfl, v, hat8.out.rem, OldOrNew.refl _ _, Keeps.of_below hat8.out.below⟩
            · have hadd : R.add seq ret c = if 4 ≤ (hits (E3.next.isIn 1) 32).length then (71, R) else (0, { ent := E3.next, left := R.left ++ l6 }) := by unfold Rem.add; rw [if_neg hnf, hkept, if_neg hboth, hlost]
              rw [decide_eq_false hboth]
              obtain ⟨E4, hE4⟩ : ∃ E4 : Ent, E3.next = E4 := ⟨_, rfl⟩
              rw [hE4] at hat8 hadd
              have Hadd := Lib.hid hadd
              clear hE4 hboth hadd hkept hlost hnf HE3 HE Hl6
              go_wp2_with (fail)
              refine (count_any w1.heap.size 0 1 65 _ _ E4 _ hat8.out.entAt).mono ?_
              rintro e w9 ⟨rfl, hb9⟩
              have hat9 := Lib.hid (hat8.out.of_below hb9)
              have hown9 := Lib.hid (ownsRow_below hown8.out hb9)
              clear hb9 hat8 hown8
              by_cases h4c : 4 ≤ (hits (E4.isIn 1) 32).length
              · have h4i : (4 : Int) ≤ (hits (E4.isIn 1) 32).length := by omega
                have Hadd2 := Lib.hid (Hadd.out.trans (if_pos h4c))
                clear h4c Hadd
                go_wp2
                go_ret
                rw [Hadd2.out]
                exact ⟨rfl, v, hat9.out.rem, OldOrNew.refl _ _, Keeps.of_below hat9.out.below⟩
              · have h4i : ¬ ((4 : Int) ≤ (hits (E4.isIn 1) 32).length) := by omega
                have Hadd2 := Lib.hid (Hadd.out.trans (if_neg h4c))
                clear h4c Hadd
                have hrg := Lib.hid (hat9.out.ent.range 0 65 (by decide))
                have hth := Lib.hid (hat9.out.rem.blk.there 0 65 (by decide))
                have htk := take_ent hat9.out.rem E4
                have hl10 := ownsRow_keeps hown9.out htk.2.keeps (fun g hg e => row_type hown9.out B _ hat9.out.rem.blk (by decide) (by rw [hg, e]))
                have hk9 : Keeps (fun k => k = B ∨ v.ownBlock = some k) w w9 := Keeps.of_below hat9.out.below
                have hs9 := hat9.out.below.size
                clear hat9 hown9
                go_wp2_with (first
                  | (refine wpList_load_mid rfl 82 (.tmp 5) rfl w1.heap.size 0 rfl _ _ hrg.out Try.underlying82 rfl (by simpa using size_ent) ?_; rw [row_at])
                  | (refine wpList_store_mid rfl 82 (.tmp 98) (.tmp 96) rfl B 0 _ rfl rfl (by rw [row_size]; exact hth.out) (by rw [row_size]; exact size_ent) E4.all_one ?_; generalize World.setCells _ _ _ _ = W10 at htk hl10 ⊢; have c65 := htk.1.blk.cell 65 (by decide); have f65 := htk.1.blk.free 65; rw [Rem.at_left] at c65)
                  | (at_builtin; refine wpList_append_two _ rfl _ _ 47 rfl 3 i0 (.int .i64 0) 8 Try.underlying47 hi hz0 hz1 hz2 rfl v _ _ rfl htk.1.own w.heap.size u6 _ _ rfl hl10 (by intro u hu; obtain ⟨j, _, rfl⟩ := List.mem_map.1 hu; rfl) (by unfold maxLen; show R.left.length + _ ≤ _; omega) (by show (R.left.length + _) * 8 ≤ _; omega) ?_; intro v' w11 ho11 hg11 hold; obtain ⟨o', c', rfl⟩ := own_shape ho11; have hgl := grow_left htk.1 l6 ho11 hg11; have c65' := hgl.1.cell 65 (by decide); have f65' := hgl.1.free 65))
                go_ret
                rw [Hadd2.out]
                refine ⟨rfl, _, hgl.2, ?_, ?_⟩
                · intro k hk
                  rcases hold k hk with h | h
                  · exact .inl h
                  · exact .inr (by have := htk.2.size; omega)
                · exact ((hk9.trans (htk.2.keeps.mono (fun _ e => .inl e))).trans (Keeps.of_grown hg11 (fun _ e => .inr e))).setCell (.inl (.inl rfl))

end Go.Proofs.Ytmdfpknhfkgfoaa
