/- The walk of CIDPairAgrees. -/
import Derived.Test.YtmdfpknhfkgfoaaPair
import Derived.Test.YtmdfpknhfkgfoaaDisW
import Derived.Deep.CutBlock
import Derived.Deep.RegionHeld3
namespace Go.Proofs.Ytmdfpknhfkgfoaa
open Go.RowKit Go.Shelf

/-- The frames of the IDs 1 to m. -/
def sentVals (k : ByteArray) (m : Nat) : List Value := (List.range m).flatMap fun (i : Nat) => (frameC 24 ((i : Int) + 1) 0 (idB k (i + 1))).toList
theorem sentVals_succ (k : ByteArray) (m : Nat) : sentVals k (m + 1) = sentVals k m ++ (frameC 24 ((m : Int) + 1) 0 (idB k (m + 1))).toList := by
  simp [sentVals, List.range_succ]

theorem sentVals_len (k : ByteArray) : ∀ m, (sentVals k m).length = m * 13 := by
  intro m
  induction m with
  | zero => rfl
  | succ m ih => rw [sentVals_succ, List.length_append, ih]; simp; omega
theorem sentVals_get (k : ByteArray) (p i : Nat) (hi : i < 13) : ∀ m, p < m → (sentVals k m)[p * 13 + i]? = (frameC 24 ((p : Int) + 1) 0 (idB k (p + 1)))[i]? := by
  intro m
  induction m with
  | zero => intro h; omega
  | succ m ih =>
    intro h
    rw [sentVals_succ]
    by_cases e : p = m
    · subst e
      rw [List.getElem?_append_right (by rw [sentVals_len]; omega), sentVals_len, show p * 13 + i - p * 13 = i by omega, Array.getElem?_toList]
    · rw [List.getElem?_append_left (by rw [sentVals_len]; omega), ih (by omega)]

theorem info_frame : (Try.prog.info? 42).map (fun i => (i.zero, i.size, i.bytes)) = some (some (.agg zeroFrame), 13, 136) := by kernel_rfl

theorem cells_new (W : World) (cs : Array Value) (t : TypeId) (b : Nat) (hb : W.heap.size = b) : ∀ (j : Nat) (u : Value), cs.toList[j]? = some u → (W.alloc (.cells cs t)).cell? ((⟨b, 0, none⟩ : Addr).add j) = some u := by
  subst hb
  intro j u hu
  rw [Addr.add_mid, Nat.zero_add, cell_of_heap (heap_alloc_new W (.cells cs t))]
  simpa using hu

theorem slice_at {w : World} {base size : Nat} {e : TypeId} {v : Value} {n : Nat} {xs : List Value} (h : w.ownsRow base e size v n xs) (hn : 1 ≤ n) : ∃ (g cap : Nat), v = .slice (some ⟨g, 0, none⟩) n cap := by
  rcases h.2 with ⟨_, h2⟩ | ⟨g, cap, cur, hv, _⟩
  · omega
  · exact ⟨g, cap, hv⟩
theorem slice_any {w : World} {base size : Nat} {e : TypeId} {v : Value} {n : Nat} {xs : List Value} (h : w.ownsRow base e size v n xs) : ∃ (a : Option Addr) (cap : Nat), v = .slice a n cap ∧ (1 ≤ n → ∃ g, a = some ⟨g, 0, none⟩) := by
  rcases h.2 with ⟨h1, h2⟩ | ⟨g, cap, cur, hv, _⟩
  · subst h2; exact ⟨none, 0, h1, fun h => by omega⟩
  · exact ⟨_, cap, hv, fun _ => ⟨g, rfl⟩⟩

theorem rows_ne {W : World} {b1 b2 s1 s2 n1 n2 : Nat} {e1 e2 : TypeId} {v1 v2 : Value} {x1 x2 : List Value} (h1 : W.ownsRow b1 e1 s1 v1 n1 x1) (h2 : W.ownsRow b2 e2 s2 v2 n2 x2) (he : e1 ≠ e2) : ∀ g, v1.ownBlock = some g → ¬ (v2.ownBlock = some g) := by
  intro g hg
  rcases h1.2 with ⟨rfl, _⟩ | ⟨g1, cap, cur, rfl, hb, hgb, _⟩
  · simp [Value.ownBlock] at hg
  · obtain rfl : g1 = g := by simpa [Value.ownBlock] using hg
    exact row_type h2 _ _ hgb he

/-- Where the law stands between two calls. -/
structure PairAt (B B2 : Nat) (k : ByteArray) (L : Loc) (R : Rem) (v sent : Value) (m : Nat) (old : Value) (ol : List Nat) (w W : World) : Prop where
  loc : IsLoc B L W
  rem : IsRem B2 R v W
  vw : ∀ g, v.ownBlock = some g → w.heap.size ≤ g
  snt : W.ownsRow w.heap.size 42 13 sent m (sentVals k m)
  olds : W.ownsRow w.heap.size 9 1 old ol.length (strVals (ol.map (idB k)))
  below : Below w.heap.size w W

section
variable {B B2 : Nat} {k : ByteArray} {L : Loc} {R : Rem} {v sent : Value} {m : Nat} {old : Value} {ol : List Nat} {w W : World}

theorem PairAt.of_below (h : PairAt B B2 k L R v sent m old ol w W) {W' : World} (hb : Below W.heap.size W W') : PairAt B B2 k L R v sent m old ol w W' :=
  ⟨h.loc.below hb, h.rem.below hb, h.vw, ownsRow_below h.snt hb, ownsRow_below h.olds hb, below_then h.below hb⟩
theorem PairAt.alloc (h : PairAt B B2 k L R v sent m old ol w W) (o : Obj) : PairAt B B2 k L R v sent m old ol w (W.alloc o) := h.of_below ((Below.refl _ _).alloc (Nat.le_refl _) _)
theorem PairAt.drew (h : PairAt B B2 k L R v sent m old ol w W) : PairAt B B2 k L R v sent m old ol w W.drew := h.of_below (Below.refl _ _).drew
theorem PairAt.ne (h : PairAt B B2 k L R v sent m old ol w W) : B ≠ B2 := fun e => by
  have h1 : W.heap[B]? = _ := h.loc.blk
  have h2 : W.heap[B2]? = _ := h.rem.blk
  rw [← e, h1] at h2
  injection h2 with h3
  injection h3 with _ h4
  exact absurd h4 (by decide)

/-- The Local has turned. -/
theorem PairAt.setLoc (h : PairAt B B2 k L R v sent m old ol w W) (hB : w.heap.size ≤ B) {W' : World} {L' : Loc} (hL : IsLoc B L' W') (ho : Only B W W') : PairAt B B2 k L' R v sent m old ol w W' :=
  ⟨hL, h.rem.kept ho.keeps (fun e => h.ne e.symm) (h.loc.blk.ne_row (by decide) h.rem.own), h.vw, ownsRow_keeps h.snt ho.keeps (h.loc.blk.ne_row (by decide) h.snt), ownsRow_keeps h.olds ho.keeps (h.loc.blk.ne_row (by decide) h.olds),
    ho.keeps.below h.below (fun i e => by rw [e]; exact hB) h.below.size⟩

/-- The Remote has turned. -/
theorem PairAt.setRem (h : PairAt B B2 k L R v sent m old ol w W) (hB : w.heap.size ≤ B2) {W' : World} {R' : Rem} {v' : Value} (hR : IsRem B2 R' v' W') (hv : OldOrNew v v' W.heap.size) (hk : Keeps (fun i => i = B2 ∨ v.ownBlock = some i) W W') : PairAt B B2 k L R' v' sent m old ol w W' :=
  ⟨h.loc.keeps hk (fun e => e.elim h.ne (fun e => h.loc.blk.ne_row (by decide) h.rem.own _ e rfl)), hR, fun g hg => by
      rcases hv g hg with e | e
      · exact h.vw g e
      · exact Nat.le_trans h.below.size e,
    ownsRow_keeps h.snt hk (fun g hg e => e.elim (h.rem.blk.ne_row (by decide) h.snt g hg) (rows_ne h.snt h.rem.own (by decide) g hg)),
    ownsRow_keeps h.olds hk (fun g hg e => e.elim (h.rem.blk.ne_row (by decide) h.olds g hg) (rows_ne h.olds h.rem.own (by decide) g hg)),
    hk.below h.below (fun i e => e.elim (fun e => by rw [e]; exact hB) (h.vw i)) h.below.size⟩

/-- A frame is noted. -/
theorem PairAt.setSent (h : PairAt B B2 k L R v sent m old ol w W) {W' : World} {sent' : Value} {m' : Nat} (hs : W'.ownsRow w.heap.size 42 13 sent' m' (sentVals k m')) (hg : W.grownBy W' sent.ownBlock) : PairAt B B2 k L R v sent' m' old ol w W' :=
  have hk : Keeps (fun i => sent.ownBlock = some i) W W' := Keeps.of_grown hg (fun _ e => e)
  ⟨h.loc.keeps hk (fun e => h.loc.blk.ne_row (by decide) h.snt _ e rfl), h.rem.kept hk (fun e => h.rem.blk.ne_row (by decide) h.snt _ e rfl) (rows_ne h.rem.own h.snt (by decide)), h.vw, hs,
    ownsRow_keeps h.olds hk (rows_ne h.olds h.snt (by decide)), hk.below h.below (fun i e => row_ge h.snt i e) h.below.size⟩

/-- An old ID is noted. -/
theorem PairAt.setOld (h : PairAt B B2 k L R v sent m old ol w W) {W' : World} {old' : Value} {ol' : List Nat} (hs : W'.ownsRow w.heap.size 9 1 old' ol'.length (strVals (ol'.map (idB k)))) (hg : W.grownBy W' old.ownBlock) : PairAt B B2 k L R v sent m old' ol' w W' :=
  have hk : Keeps (fun i => old.ownBlock = some i) W W' := Keeps.of_grown hg (fun _ e => e)
  ⟨h.loc.keeps hk (fun e => h.loc.blk.ne_row (by decide) h.olds _ e rfl), h.rem.kept hk (fun e => h.rem.blk.ne_row (by decide) h.olds _ e rfl) (rows_ne h.rem.own h.olds (by decide)), h.vw,
    ownsRow_keeps h.snt hk (rows_ne h.snt h.olds (by decide)), hs, hk.below h.below (fun i e => row_ge h.olds i e) h.below.size⟩
end

set_option maxRecDepth 100000 in
set_option maxHeartbeats 4000000 in
theorem pair_any (key : ByteArray) (a : Option Addr) (len cap : Nat) (C : Nat → Call7) (w : World) (hs : key.size ≤ maxLen) (hA : ArgCalls a len C w) :
    Calls Try.prog 11 #[.string key, .slice a len cap] w (TrueBelow w) := by
  have Hs := Lib.hid hs; clear hs
  have HA := Lib.hid hA; clear hA
  obtain ⟨i0, hi, hz0, hz1, hz2⟩ := info_parts info_str
  obtain ⟨i1, gi, gz0, gz1, gz2⟩ := info_parts info_frame
  go_enter Try.func11, Try.ntmps11
  go_wp2_with (fail)
  refine (sane7 w).mono ?_
  rintro e w0 ⟨rfl, hb0⟩
  go_wp2_with (fail)
  refine (keyFrom_any key w0 Hs.out).mono ?_
  rintro e w1 ⟨rfl, hb1⟩
  have hks := Lib.hid (keyFrom_size key)
  generalize keyFrom key = k at *
  go_wp2_with (fail)
  refine (newLocal_yes k w1 hks.out).mono ?_
  rintro e w2 ⟨B, rfl, hL, hB, hb2⟩
  have HL : Hid (IsLoc B (locN k 1) w2) := hL
  have HB : Hid (Below w.heap.size w w2) := below_then (below_then hb0 hb1) hb2
  have hBw : w.heap.size ≤ B := Nat.le_trans (below_then hb0 hb1).size hB
  clear hL hb0 hb1 hb2 hB
  go_wp2_with (fail)
  refine (active_any B (locN k 1) _ HL.out).mono ?_
  rintro e w3 ⟨v0, rfl, hown, hb3⟩
  rw [locN_actives] at hown
  obtain ⟨g0, cp0, rfl⟩ := slice_pos hown (Nat.le_refl _)
  have HL3 := Lib.hid (HL.out.below hb3)
  have HB3 := Lib.hid (below_then HB.out hb3)
  clear hown hb3 HL HB
  go_wp2_with (fail)
  refine (active_any B (locN k 1) _ HL3.out).mono ?_
  rintro e w4 ⟨v1, rfl, hown, hb4⟩
  rw [locN_actives] at hown
  obtain ⟨g1, cp1, rfl⟩ := slice_pos hown (Nat.le_refl _)
  have HL4 := Lib.hid (HL3.out.below hb4)
  have HB4 := Lib.hid (below_then HB3.out hb4)
  have hc0 := own_src hown 0 (.string (idB k 0)) rfl
  simp only [Addr.add_mid, Nat.zero_add] at hc0
  clear hown hb4 HL3 HB3
  go_wp2_with (fail)
  refine (newRemote_yes (idB k 0) w4 (idB_size k 0)).mono ?_
  rintro e w5 ⟨B2, rfl, hR, hB2, hb5⟩
  have HP : Hid (PairAt B B2 k (locN k 1) (newRem (idB k 0)) (.slice none 0 0) (.slice none 0 0) 0 (.slice none 0 0) [] w w5) :=
    ⟨HL4.out.below hb5, hR, fun g hg => by simp [Value.ownBlock] at hg, World.ownsRow_nil _ _ _ _, World.ownsRow_nil _ _ _ _, below_then HB4.out hb5⟩
  have HI := Lib.hid (pinv_new k)
  have hB2w : w.heap.size ≤ B2 := Nat.le_trans HB4.out.size hB2
  clear hR hB2 hb5 HL4 HB4 hc0
  go_wp2_with (fail)
  go_loopg [9, 10, 11] 100 (fun g sent old i wr => ∃ (j : Nat) (L : Loc) (R : Rem) (v : Value) (ol : List Nat), g + j = 100 ∧ i = .int .i64 j ∧ Hid (PairAt B B2 k L R v sent (L.n - 1) old ol w wr) ∧ Hid (PInv k L R ol) ∧ R.left.length ≤ j ∧ ol.length ≤ j)
  case atStart => exact ⟨0, _, _, _, _, rfl, rfl, HP, HI, Nat.le_refl _, Nat.le_refl _⟩
  case round =>
    clear HP HI
    obtain ⟨j, L, R, v, ol, hg, rfl, HP, HI, hlf, hol⟩ := hrel
    by_cases hjl : j < len
    · by_cases hj100 : j < 100
      · obtain ⟨hok, b, o, rfl, hbw, hcell⟩ := HA.out j hjl
        have HC1 := Lib.hid (hcell 1 (by decide))
        have hc0 := (HP.out.below.cell (p := ⟨b, o + j * 16 + 0, none⟩) hbw).trans (hcell 0 (by decide))
        rw [show (C j).at 0 = .int .u8 (C j).kind from rfl] at hc0
        simp only [Nat.add_zero] at hc0
        clear hcell
        have hz := hok.n
        obtain ⟨q, hq1, hq⟩ : ∃ q : Nat, ((C j).kind : Int).tmod 4 = (q : Int) ∧ q < 4 := ⟨(C j).kind % 4, by rw [Int.tmod_eq_emod_of_nonneg (by omega)]; omega, by omega⟩
        go_upto_block 2 with (fail)
        go_cut [9, 10] (fun sent' old' wx => ∃ (L' : Loc) (R' : Rem) (v' : Value) (ol' : List Nat), Hid (PairAt B B2 k L' R' v' sent' (L'.n - 1) old' ol' w wx) ∧ Hid (PInv k L' R' ol') ∧ R'.left.length ≤ j + 1 ∧ ol'.length ≤ j + 1)
        case first =>
          clear hc0 hq1
          rcases (show q = 0 ∨ q = 1 ∨ q = 2 ∨ q = 3 by omega) with rfl | rfl | rfl | rfl
          · go_wp2_with (fail)
            refine (retired_any B2 R v wr HP.out.rem).mono ?_
            rintro e w2 ⟨rfl, hR2, hO2⟩
            have hrow := ownsRow_keeps HP.out.rem.own hO2.keeps (HP.out.rem.blk.ne_row (by decide) HP.out.rem.own)
            have HP2 := Lib.hid (HP.out.setRem hB2w hR2 (fun g hg => by simp [Value.ownBlock] at hg) (hO2.keeps.mono (fun _ e => .inl e)))
            have HI2 := Lib.hid HI.out.retired
            have Hl := Lib.hid HI.out.lft
            obtain ⟨al, cl, rfl, hal⟩ := slice_any hrow
            have Hrow := Lib.hid hrow
            clear hrow hR2 hO2 HP HI HC1
            go_wp2_with (fail)
            go_loopw [13] (fun i wx => ∃ (t : Nat) (L' : Loc), t ≤ R.left.length ∧ i = .int .i64 t ∧ Hid (PairAt B B2 k L' { R with left := [] } (.slice none 0 0) u9 (L.n - 1) u10 ol w wx) ∧ Hid (PInv k L' { R with left := [] } ol) ∧ Hid (L'.n = L.n) ∧ Hid (wx.ownsRow 0 3 1 (.slice al R.left.length cl) R.left.length (natVals R.left))) (fun i _ => R.left.length - (intOf i).toNat)
            case atStart => exact ⟨0, L, Nat.zero_le _, rfl, HP2, HI2, rfl, Hrow⟩
            case round =>
              clear HP2 HI2 Hrow
              obtain ⟨t, L', ht, rfl, HP2, HI2, HLn, Hrow⟩ := hrel
              by_cases htl : t < R.left.length
              · obtain ⟨gl, rfl⟩ := hal (by omega)
                obtain ⟨x, hx⟩ : ∃ x, R.left[t]? = some x := ⟨_, List.getElem?_eq_getElem htl⟩
                have hc := own_src Hrow.out t (.int .i64 (x : Int)) (by simp [natVals, hx])
                simp only [Addr.add_mid, Nat.zero_add] at hc
                obtain ⟨h1, h2⟩ := Hl.out x (List.mem_of_getElem? hx)
                have Hst := Lib.hid h2
                clear hx h2
                go_wp2_with (fail)
                refine (retire_yes B x L' _ HP2.out.loc (by rw [HLn.out]; exact h1)).mono ?_
                rintro e w3 ⟨rfl, hL3, hO3⟩
                have HP3 := Lib.hid (HP2.out.setLoc hBw hL3 hO3)
                have HI3 := Lib.hid (HI2.out.retire x Hst.out)
                have Hrow3 := Lib.hid (ownsRow_keeps Hrow.out hO3.keeps (HP2.out.loc.blk.ne_row (by decide) Hrow.out))
                clear hL3 hO3 HP2 HI2 Hrow hc
                go_wp2
                go_roundw
                case rel => exact ⟨t + 1, L'.retire x, by omega, by go_num, HP3, HI3, HLn, Hrow3⟩
                case measure => simp [intOf]; omega
              · go_wp2_with (fail)
                refine (issue_any B L' _ HP2.out.loc).mono ?_
                rintro e w4 ⟨ty, seq, c, err, L4, rfl, hL4, hO4, hcase⟩
                have HP4 := Lib.hid ((HP2.out.setLoc hBw hL4 hO4).alloc (.cells (frameC ty seq 0 c) 42))
                clear hL4 hO4 HP2 Hrow Hl
                rcases hcase with ⟨rfl, rfl, rfl, rfl, rfl, hn32, hf4⟩ | ⟨rfl, rfl, rfl, rfl, rfl, _⟩
                · have HI4 := Lib.hid (HI2.out.issue hn32 hf4)
                  have hn1 := HI2.out.n1
                  have Hkey := Lib.hid HI2.out.key
                  have hsz := HP4.out.below.size
                  have hn := HLn.out
                  obtain ⟨m, hm⟩ : ∃ m, L'.n = m + 1 := ⟨L'.n - 1, by omega⟩
                  have hm' : L.n - 1 = m := by omega
                  have Hm := Lib.hid hm
                  have hP4 := HP4.out
                  rw [hm'] at hP4
                  have HP5 := Lib.hid hP4
                  have hmle : m < 32 := by omega
                  clear hP4 HP4 hm' hm hn HI2 hf4
                  go_wp2_with (at_builtin; refine wpList_append_own _ rfl _ _ 70 rfl w.heap.size 42 i1 (.agg zeroFrame) 13 136 Try.underlying70 gi gz0 gz1 gz2 rfl (by decide) _ _ _ rfl (HP5.out.snt.alloc _) ⟨w4.heap.size + 1, 0, none⟩ 1 1 (frameC 24 L'.n 0 (idB L'.key L'.n)).toList rfl rfl (cells_new _ _ _ _ (by simp)) (by simp [Value.oneCell']) (by unfold maxLen; omega) (by omega) (by simp at hsz ⊢; omega) ?_; intro v' w5 hown' hgrow _)
                  go_meet
                  refine ⟨L'.add, { R with left := [] }, _, ol, (HP5.out.alloc _).setSent (m' := L'.add.n - 1) ?_ hgrow, HI4, Nat.zero_le _, by omega⟩
                  show w5.ownsRow _ _ _ v' (L'.n + 1 - 1) (sentVals k (L'.n + 1 - 1))
                  rw [Nat.add_sub_cancel, Hm.out, sentVals_succ]
                  rw [Hkey.out, Hm.out] at hown'
                  exact hown'
                · have Hn := Lib.hid (show L4.n - 1 = L.n - 1 by rw [HLn.out])
                  go_wp2
                  go_meet
                  exact ⟨L4, { R with left := [] }, _, ol, by rw [Hn.out]; exact HP4, HI2, Nat.zero_le _, by omega⟩
          · -- Add of a sent frame
            by_cases hn1 : L.n = 1
            · have hm0 : L.n - 1 = 0 := by omega
              have hP0 := HP.out
              rw [hm0] at hP0
              obtain ⟨as1, cs, rfl, _⟩ := slice_any hP0.snt
              have HP0 := Lib.hid hP0
              have Hm := Lib.hid hm0
              clear hm0 hP0 hn1 HP
              go_wp2
              go_meet
              exact ⟨L, R, v, ol, by rw [Hm.out]; exact HP0, HI, by omega, by omega⟩
            · have hL1 := HI.out.n1
              have hL32 := HI.out.nle
              obtain ⟨m, Hm⟩ : ∃ m, Hid (L.n - 1 = m) := ⟨_, rfl⟩
              have hm1 : 1 ≤ m := by rw [← Hm.out]; omega
              have hm32 : m < 32 := by rw [← Hm.out]; omega
              have hP0 := HP.out
              rw [Hm.out] at hP0
              obtain ⟨gs, cs, rfl⟩ := slice_at hP0.snt hm1
              have HP0 := Lib.hid hP0
              clear hP0 HP hn1 hL1 hL32
              have hc1 := (HP0.out.below.cell (p := ⟨b, o + j * 16 + 1, none⟩) hbw).trans HC1.out
              rw [show (C j).at 1 = .int .i64 (C j).n from rfl] at hc1
              have hm1' : (0 : Int) < (m : Int) := by omega
              go_wp2_with (fail)
              refine (pick7_any (C j).n m _ (by omega) (by omega) hz.1 hz.2).mono ?_
              rintro e w' ⟨rfl, rfl⟩
              have hpl := pickN_lt (C j).n m (by omega)
              generalize pickN (C j).n m = p at *
              have hpl' : (p : Int) < (m : Int) := by omega
              have hsrc : ∀ i, i < 13 → ∀ u, (frameC 24 ((p : Int) + 1) 0 (idB k (p + 1)))[i]? = some u → wr.cell? ⟨gs, p * 13 + i, none⟩ = some u := fun i hi u hu => by
                have h1 := HP0.out.snt.cells (g := gs) rfl (p * 13 + i) u ((sentVals_get k p i hi m hpl).trans hu)
                simpa only [Addr.add_mid, Nat.zero_add] using h1
              have x0 := hsrc 0 (by decide) _ rfl
              have x1 := hsrc 1 (by decide) _ rfl
              have x2 := hsrc 2 (by decide) _ rfl
              have x3 := hsrc 3 (by decide) _ rfl
              have x4 := hsrc 4 (by decide) _ rfl
              have x5 := hsrc 5 (by decide) _ rfl
              have x6 := hsrc 6 (by decide) _ rfl
              have x7 := hsrc 7 (by decide) _ rfl
              have x8 := hsrc 8 (by decide) _ rfl
              have x9 := hsrc 9 (by decide) _ rfl
              have x10 := hsrc 10 (by decide) _ rfl
              have x11 := hsrc 11 (by decide) _ rfl
              have x12 := hsrc 12 (by decide) _ rfl
              rw [Nat.add_zero] at x0
              clear hsrc hc1
              go_wp2_with (fail)
              clear x0 x1 x2 x3 x4 x5 x6 x7 x8 x9 x10 x11 x12
              have hpn : p + 1 < L.n := by have := Hm.out; omega
              obtain ⟨ha1, ha2, ha3⟩ := HI.out.add (p + 1) hpn
              refine (add_main B2 R v wr HP0.out.rem _ _ _ _ _ _ _ _ _ (p + 1) 0 ((p : Int) + 1) 0 rfl rfl (idB k (p + 1)) (idB_size _ _) (Nat.zero_le _) (by omega) (HI.out.fits (p + 1) hpn) (by rw [HI.out.bound]; decide) (by omega)).mono ?_
              rintro e w3 ⟨he, v3, hR3, ho3, hk3⟩
              rw [ha1] at he
              subst he
              have HP3 := Lib.hid (HP0.out.setRem hB2w hR3 ho3 hk3)
              have HI3 := Lib.hid ha2
              have hlf3 : (R.add (p + 1) 0 (idB k (p + 1))).2.left.length ≤ j + 1 := by rw [ha3]; omega
              clear hR3 ho3 hk3 ha1 ha2 ha3 HP0 HI
              go_wp2
              go_meet
              exact ⟨L, _, v3, ol, by rw [Hm.out]; exact HP3, HI3, hlf3, by omega⟩
          · -- Add of a sent frame
            by_cases hn1 : L.n = 1
            · have hm0 : L.n - 1 = 0 := by omega
              have hP0 := HP.out
              rw [hm0] at hP0
              obtain ⟨as1, cs, rfl, _⟩ := slice_any hP0.snt
              have HP0 := Lib.hid hP0
              have Hm := Lib.hid hm0
              clear hm0 hP0 hn1 HP
              go_wp2
              go_meet
              exact ⟨L, R, v, ol, by rw [Hm.out]; exact HP0, HI, by omega, by omega⟩
            · have hL1 := HI.out.n1
              have hL32 := HI.out.nle
              obtain ⟨m, Hm⟩ : ∃ m, Hid (L.n - 1 = m) := ⟨_, rfl⟩
              have hm1 : 1 ≤ m := by rw [← Hm.out]; omega
              have hm32 : m < 32 := by rw [← Hm.out]; omega
              have hP0 := HP.out
              rw [Hm.out] at hP0
              obtain ⟨gs, cs, rfl⟩ := slice_at hP0.snt hm1
              have HP0 := Lib.hid hP0
              clear hP0 HP hn1 hL1 hL32
              have hc1 := (HP0.out.below.cell (p := ⟨b, o + j * 16 + 1, none⟩) hbw).trans HC1.out
              rw [show (C j).at 1 = .int .i64 (C j).n from rfl] at hc1
              have hm1' : (0 : Int) < (m : Int) := by omega
              go_wp2_with (fail)
              refine (pick7_any (C j).n m _ (by omega) (by omega) hz.1 hz.2).mono ?_
              rintro e w' ⟨rfl, rfl⟩
              have hpl := pickN_lt (C j).n m (by omega)
              generalize pickN (C j).n m = p at *
              have hpl' : (p : Int) < (m : Int) := by omega
              have hsrc : ∀ i, i < 13 → ∀ u, (frameC 24 ((p : Int) + 1) 0 (idB k (p + 1)))[i]? = some u → wr.cell? ⟨gs, p * 13 + i, none⟩ = some u := fun i hi u hu => by
                have h1 := HP0.out.snt.cells (g := gs) rfl (p * 13 + i) u ((sentVals_get k p i hi m hpl).trans hu)
                simpa only [Addr.add_mid, Nat.zero_add] using h1
              have x0 := hsrc 0 (by decide) _ rfl
              have x1 := hsrc 1 (by decide) _ rfl
              have x2 := hsrc 2 (by decide) _ rfl
              have x3 := hsrc 3 (by decide) _ rfl
              have x4 := hsrc 4 (by decide) _ rfl
              have x5 := hsrc 5 (by decide) _ rfl
              have x6 := hsrc 6 (by decide) _ rfl
              have x7 := hsrc 7 (by decide) _ rfl
              have x8 := hsrc 8 (by decide) _ rfl
              have x9 := hsrc 9 (by decide) _ rfl
              have x10 := hsrc 10 (by decide) _ rfl
              have x11 := hsrc 11 (by decide) _ rfl
              have x12 := hsrc 12 (by decide) _ rfl
              rw [Nat.add_zero] at x0
              clear hsrc hc1
              go_wp2_with (fail)
              clear x0 x1 x2 x3 x4 x5 x6 x7 x8 x9 x10 x11 x12
              have hpn : p + 1 < L.n := by have := Hm.out; omega
              obtain ⟨ha1, ha2, ha3⟩ := HI.out.add (p + 1) hpn
              refine (add_main B2 R v wr HP0.out.rem _ _ _ _ _ _ _ _ _ (p + 1) 0 ((p : Int) + 1) 0 rfl rfl (idB k (p + 1)) (idB_size _ _) (Nat.zero_le _) (by omega) (HI.out.fits (p + 1) hpn) (by rw [HI.out.bound]; decide) (by omega)).mono ?_
              rintro e w3 ⟨he, v3, hR3, ho3, hk3⟩
              rw [ha1] at he
              subst he
              have HP3 := Lib.hid (HP0.out.setRem hB2w hR3 ho3 hk3)
              have HI3 := Lib.hid ha2
              have hlf3 : (R.add (p + 1) 0 (idB k (p + 1))).2.left.length ≤ j + 1 := by rw [ha3]; omega
              clear hR3 ho3 hk3 ha1 ha2 ha3 HP0 HI
              go_wp2
              go_meet
              exact ⟨L, _, v3, ol, by rw [Hm.out]; exact HP3, HI3, hlf3, by omega⟩
          · go_wp2_with (fail)
            refine (current_any B2 R v wr HP.out.rem).mono ?_
            rintro e w2 ⟨rfl, hb2⟩
            have HP2 := Lib.hid (HP.out.of_below hb2)
            clear hb2 HP
            go_wp2_with (fail)
            by_cases hu : hits (R.ent.isIn 1) 32 = []
            · refine (rotate_no B2 R v w2 HP2.out.rem hu).mono ?_
              rintro e w3 ⟨rfl, hb3⟩
              have HP3 := Lib.hid (HP2.out.of_below hb3)
              clear hu hb3
              go_wp2
              go_meet
              exact ⟨L, R, v, ol, HP3, HI, by omega, by omega⟩
            · obtain ⟨c, hc1, hI2, hc3⟩ := HI.out.rotate hu
              refine (rotate_yes B2 R v w2 HP2.out.rem (by omega) hu).mono ?_
              rintro e w3 ⟨rfl, v3, hR3, ho3, hk3⟩
              have HP3 := Lib.hid (HP2.out.setRem hB2w hR3 ho3 hk3)
              have HI2 := Lib.hid hI2
              have Hc3 := Lib.hid hc3
              rw [hc1]
              have hsz := HP3.out.below.size
              clear hR3 ho3 hk3 hu hc1 hI2 hc3 HP2 HI
              go_wp2_with (at_builtin; refine wpList_append_own _ rfl _ _ 24 rfl w.heap.size 9 i0 (.string ⟨#[]⟩) 1 16 Try.underlying24 hi hz0 hz1 hz2 rfl (by decide) _ _ _ rfl (HP3.out.olds.alloc _) ⟨w3.heap.size, 0, none⟩ 1 1 [.string (idB k c.val)] rfl rfl (cell_one_new _ _ _) (by simp [Value.oneCell']) (by unfold maxLen; omega) (by omega) (by simp; omega) ?_; intro v' w5 hown' hgrow _)
              go_meet
              refine ⟨L, _, v3, ol ++ [c.val], (HP3.out.alloc _).setOld (ol' := ol ++ [c.val]) ?_ hgrow, HI2, by rw [Hc3.out]; simp; omega, by simp; omega⟩
              simpa [strVals] using hown'
        case rest =>
          clear hc0 hq1 HP HI HC1 hz
          obtain ⟨L5, R5, v5, ol5, HP, HI, hlf5, hol5⟩ := hcut
          obtain ⟨c, hc1, hc2, hc3, hc4, hc5⟩ := HI.out.current
          have hc32 := c.isLt
          have Hc5 := Lib.hid hc5
          go_wp2_with (fail)
          refine (current_any B2 R5 v5 _ HP.out.rem).mono ?_
          rintro e w7 ⟨rfl, hb7⟩
          rw [hc2]
          have HP7 := Lib.hid (HP.out.of_below hb7)
          have Hc2 := Lib.hid hc2
          clear hb7 HP hc1 hc2 hc5
          go_wp2_with (fail)
          refine (owns_loop B L5 (idB k c.val) c.val _ HP7.out.loc (by omega) (fun i hi h => by
            have h2 := h.2
            rw [HI.out.key] at h2
            have := idB_inj k i c.val (by omega) (by omega) h2
            omega) (.inr ⟨hc3, hc4, by rw [HI.out.key]⟩)).mono ?_
          rintro e w' ⟨rfl, rfl⟩
          rw [if_pos hc3, decide_eq_true hc3]
          have Ha := Lib.hid hc4; clear hc4
          obtain ⟨ao, co, rfl, hao⟩ := slice_any HP7.out.olds
          go_wp2_with (fail)
          go_loopw [19] (fun i wx => ∃ t : Nat, t ≤ ol5.length ∧ i = .int .i64 t ∧ Hid (PairAt B B2 k L5 R5 v5 u9 (L5.n - 1) (.slice ao ol5.length co) ol5 w wx)) (fun i _ => ol5.length - (intOf i).toNat)
          case atStart => exact ⟨0, Nat.zero_le _, rfl, HP7⟩
          case round =>
            clear HP7
            obtain ⟨t, ht, rfl, HP⟩ := hrel
            by_cases htl : t < ol5.length
            · obtain ⟨go, rfl⟩ := hao (by omega)
              obtain ⟨x, hx⟩ : ∃ x, ol5[t]? = some x := ⟨_, List.getElem?_eq_getElem htl⟩
              have hc := own_src HP.out.olds t (.string (idB k x)) (by simp [strVals, hx])
              simp only [Addr.add_mid, Nat.zero_add] at hc
              obtain ⟨h1, h2⟩ := HI.out.old x (List.mem_of_getElem? hx)
              have hle := HI.out.nle
              have hne : ((idB k x).toList == (idB k c.val).toList) = false := str_eq_false (fun h => by
                have := idB_inj k x c.val (by omega) (by omega) h
                rw [this] at h2
                have := Hc5.out
                omega)
              have hget : (strVals (ol5.map (idB k)))[t]? = some (.string (idB k x)) := by simp [strVals, hx]
              have Hget := Lib.hid hget
              clear hx h2 hget
              have hcd : wr.drew.cell? ⟨go, t, none⟩ = some (.string (idB k x)) := hc
              go_wp2_with (fail)
              go_region_held3 (fun w' => w'.cell? ⟨go, t, none⟩ = some (.string (idB k x))) (first | exact hS | go_keep)
                (first | (go_at_call 31; refine (current_any B2 R5 v5 _ HP.out.drew.rem).mono ?_; rintro e w8 ⟨rfl, hb8⟩; rw [Hc2.out]; have HP8 := Lib.hid (HP.out.drew.of_below hb8); have hS : w8.cell? ⟨go, t, none⟩ = some (.string (idB k x)) := by (have := own_src HP8.out.olds t (.string (idB k x)) Hget.out; simpa only [Addr.add_mid, Nat.zero_add] using this)))
              clear HP hc hcd hS
              go_wp2
              go_roundw
              case rel => exact ⟨t + 1, by omega, by go_num, HP8⟩
              case measure => simp [intOf]; omega
            · go_wp2
              go_roundg (gk - 1)
              case measure => omega
              case rel => exact ⟨j + 1, L5, R5, v5, ol5, by omega, by go_num, HP, HI, hlf5, hol5⟩
      · go_wp2
        go_ret
        exact ⟨rfl, HP.out.below⟩
    · go_wp2
      go_ret
      exact ⟨rfl, HP.out.below⟩

end Go.Proofs.Ytmdfpknhfkgfoaa
