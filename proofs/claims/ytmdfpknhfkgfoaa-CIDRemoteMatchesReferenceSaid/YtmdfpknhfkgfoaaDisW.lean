/- The walk of CIDDistinct. -/
import Derived.Test.YtmdfpknhfkgfoaaDis
namespace Go.Proofs.Ytmdfpknhfkgfoaa
open Go.RowKit Go.Shelf

theorem slice_len {w : World} {base : Nat} {e : TypeId} {v : Value} {n : Nat} {xs : List Value} (h : w.ownsRow base e 1 v n xs) : ∃ (a : Option Addr) (cap : Nat), v = .slice a n cap := by
  rcases h.2 with ⟨h1, h2⟩ | ⟨g, cap, cur, hv, _⟩
  · subst h2; exact ⟨none, 0, h1⟩
  · exact ⟨_, cap, hv⟩

theorem ownsRow_base {w : World} {base base' : Nat} {e : TypeId} {size n : Nat} {v : Value} {xs : List Value} (h : w.ownsRow base e size v n xs) (hb : base' ≤ base) : w.ownsRow base' e size v n xs := by
  refine ⟨h.1, ?_⟩
  rcases h.2 with h1 | ⟨g, cap, cur, rfl, hg, rest⟩
  · exact .inl h1
  · exact .inr ⟨g, cap, cur, rfl, Nat.le_trans hb hg, rest⟩

theorem slice_pos {w : World} {base : Nat} {e : TypeId} {v : Value} {n : Nat} {xs : List Value} (h : w.ownsRow base e 1 v n xs) (hn : 1 ≤ n) : ∃ (g cap : Nat), v = .slice (some ⟨g, 0, none⟩) n cap := by
  rcases h.2 with ⟨_, h2⟩ | ⟨g, cap, cur, hv, _⟩
  · omega
  · exact ⟨g, cap, hv⟩

set_option maxRecDepth 100000 in
set_option maxHeartbeats 2000000 in
theorem distinct_any (key : ByteArray) (a : Option Addr) (len cap : Nat) (C : Nat → Call7) (w : World) (hs : key.size ≤ maxLen) (hA : ArgCalls a len C w) :
    Calls Try.prog 10 #[.string key, .slice a len cap] w (TrueBelow w) := by
  have Hs := Lib.hid hs; clear hs
  obtain ⟨i0, hi, hz0, hz1, hz2⟩ := info_parts info_str
  have HA := Lib.hid hA; clear hA
  go_enter Try.func10, Try.ntmps10
  go_wp2_with (fail)
  refine (sane7 w).mono ?_
  rintro e w0 ⟨rfl, hb0⟩
  go_wp2_with (fail)
  refine (keyFrom_any key w0 Hs.out).mono ?_
  rintro e w1 ⟨rfl, hb1⟩
  have hks := Lib.hid (keyFrom_size key)
  generalize keyFrom key = k at *
  go_wp2_with (fail)
  refine (newLocal_yes k w1 hks.out).mono ?_
  rintro e w2 ⟨B, rfl, hL, hB, hb2⟩
  have HL : Hid (IsLoc B (locN k 1) w2) := hL
  have HB : Hid (Below w.heap.size w w2) := below_then (below_then hb0 hb1) hb2
  have hBw : w.heap.size ≤ B := Nat.le_trans (below_then hb0 hb1).size hB
  clear hL hb0 hb1 hb2 hB
  go_wp2_with (fail)
  refine (active_any B (locN k 1) _ HL.out).mono ?_
  rintro e w3 ⟨v0, rfl, hown, hb3⟩
  have HD : Hid (DisAt B k (locN k 1) 1 v0 w w3) := by
    refine ⟨HL.out.below hb3, locN_key k 1, by rw [locN_actives]; decide, ?_, below_then HB.out hb3⟩
    have e1 : (locN k 1).actives (locN k 1).n = idsTo k 1 := rfl
    rw [e1, idsTo_len] at hown
    exact ownsRow_base hown HB.out.size
  clear HL HB hown hb3
  go_wp2_with (fail)
  go_loopg [7, 8] 120 (fun g v i wr => ∃ (j : Nat) (L : Loc), g + j = 120 ∧ i = .int .i64 j ∧ Hid (DisAt B k L L.n v w wr) ∧ 1 ≤ L.n)
  case atStart => exact ⟨0, locN k 1, rfl, rfl, HD, Nat.le_refl _⟩
  case round =>
    clear HD
    obtain ⟨j, L, hg, rfl, HD, hL1⟩ := hrel
    rename_i v _
    by_cases hjl : j < len
    · by_cases hj120 : j < 120
      · obtain ⟨hok, b, o, rfl, hbw, hcell⟩ := HA.out j hjl
        have HC := Lib.hid (hcell 1 (by decide)); clear hcell
        have hz := hok.n
        go_wp2_with (fail)
        refine (issue_any B L wr HD.out.loc).mono ?_
        rintro e w4 ⟨ty, seq, c, err, L', rfl, hL4, hO4, hcase⟩
        have hkey : L'.key = k := by
          rcases hcase with ⟨_, rfl, _⟩ | ⟨_, rfl, _⟩
          · exact HD.out.key
          · exact HD.out.key
        have hfew : (L'.actives L'.n).length ≤ 4 := by
          rcases hcase with ⟨_, rfl, _, _, _, _, h⟩ | ⟨_, rfl, _⟩
          · rw [L.add_actives]; omega
          · exact HD.out.few
        have HD4 := Lib.hid ((HD.out.keeps hBw hL4 hO4 hkey hfew).alloc (.cells (frameC ty seq 0 c) 42))
        have HF4 := Lib.hid (heap_alloc_new w4 (.cells (frameC ty seq 0 c) 42))
        have Hcase := Lib.hid hcase
        have Hkey := Lib.hid HD.out.key
        clear hL4 hO4 hkey hfew HD hcase
        go_upto_if 44 with (fail)
        go_cut [7] (fun v' wx => ∃ L' : Loc, Hid (DisAt B k L' L'.n v' w wx) ∧ 1 ≤ L'.n)
        case first =>
          rcases Hcase.out with ⟨rfl, rfl, rfl, rfl, rfl, hn, _⟩ | ⟨rfl, rfl, rfl, rfl, rfl, _⟩
          · obtain ⟨g, cp, rfl⟩ := slice_pos HD4.out.ids hL1
            clear Hcase
            go_wp2
            go_loopw [11] (fun i wx => ∃ t : Nat, t ≤ L.n ∧ i = .int .i64 t ∧ Hid (DisAt B k L.add L.n (.slice (some ⟨g, 0, none⟩) L.n cp) w wx) ∧ Hid (wx.heap[w4.heap.size]? = some (.cells (frameC 24 L.n 0 (idB L.key L.n)) 42 (0, 0)))) (fun i _ => L.n - (intOf i).toNat)
            case atStart => exact ⟨0, Nat.zero_le _, rfl, HD4, HF4⟩
            case round =>
              clear HD4 HF4
              obtain ⟨t, ht, rfl, HD5, HF5⟩ := hrel
              have f12 := cell_of_heap HF5.out 12
              by_cases htl : t < L.n
              · have hc := own_src HD5.out.ids t _ (idsTo_get k L.n t htl)
                simp only [Addr.add_mid, Nat.zero_add] at hc
                have hne : ((idB k t).toList == (idB L.key L.n).toList) = false := str_eq_false (fun h => by
                  rw [Hkey.out] at h
                  have := idB_inj k t L.n (by omega) (by omega) h
                  omega)
                go_wp2
                go_region
                go_wp2
                go_roundw
                case rel => exact ⟨t + 1, by omega, by go_num, HD5.out.drew, HF5⟩
                case measure => simp [intOf]; omega
              · obtain rfl : t = L.n := by omega
                have hsz := HD5.out.below.size
                go_wp2_with (at_builtin; refine wpList_append_own _ rfl _ _ 24 rfl w.heap.size 9 i0 (.string ⟨#[]⟩) 1 16 Try.underlying24 hi hz0 hz1 hz2 rfl (by decide) _ _ _ rfl (HD5.out.ids.alloc _) ⟨wr.heap.size, 0, none⟩ 1 1 [.string (idB L.key L.n)] rfl rfl (cell_one_new _ _ _) (by simp [Value.oneCell']) (by unfold maxLen; omega) (by omega) (by simp; omega) ?_; intro v' w5 hown' hgrow _)
                go_meet
                refine ⟨L.add, ?_, by show 1 ≤ L.n + 1; omega⟩
                have hd := HD5.out.alloc (.cells #[.string (idB L.key L.n)] 9)
                have hne := hd.loc.blk.ne_row (by decide) hd.ids
                refine ⟨hd.loc.keeps (S := fun i => (Value.slice (some ⟨g, 0, none⟩) L.n cp).ownBlock = some i) (Keeps.of_grown hgrow (fun _ e => e)) (fun e => hne B e rfl), hd.key, hd.few, ?_, hd.below.grown hgrow hd.below.size (fun i e => row_ge hd.ids i e)⟩
                show w5.ownsRow _ _ _ v' (L.n + 1) (strVals (idsTo k (L.n + 1)))
                rw [idsTo_succ, ← Hkey.out]
                rw [← Hkey.out] at hown'
                exact hown'
          · clear Hcase HF4
            go_wp2
            go_meet
            exact ⟨_, HD4, hL1⟩
        case rest =>
          clear HF4 HD4 Hcase Hkey
          obtain ⟨L5, HD5, hn5⟩ := hcut
          have hc := (HD5.out.below.cell (p := ⟨b, o + j * 16 + 1, none⟩) hbw).trans HC.out
          rw [show (C j).at 1 = .int .i64 (C j).n from rfl] at hc
          generalize (C j).n = z at *
          go_wp2_with (fail)
          refine (pick7_any z 33 _ (by decide) (by decide) hz.1 hz.2).mono ?_
          rintro e w' ⟨rfl, rfl⟩
          go_wp2_with (fail)
          refine (retire_any B _ L5 _ HD5.out.loc).mono ?_
          rintro e w6 ⟨err6, L6, rfl, hL6, hO6, hc6⟩
          obtain ⟨hk6, hf6, hn6⟩ : L6.key = k ∧ (L6.actives L6.n).length ≤ 4 ∧ L6.n = L5.n := by
            rcases hc6 with ⟨_, m, _, _, rfl⟩ | ⟨_, rfl, _⟩
            · exact ⟨HD5.out.key, Nat.le_trans (L5.retire_actives m) HD5.out.few, rfl⟩
            · exact ⟨HD5.out.key, HD5.out.few, rfl⟩
          have hD6 := HD5.out.keeps hBw hL6 hO6 hk6 hf6
          rw [← hn6] at hD6 hn5
          have HD6 := Lib.hid hD6
          clear hD6 hL6 hO6 hk6 hf6 hn6 hc6 HD5 hc
          go_wp2_with (fail)
          refine (active_any B L6 _ HD6.out.loc).mono ?_
          rintro e w7 ⟨v7, rfl, hown7, hb7⟩
          obtain ⟨a7, cp7, rfl⟩ := slice_len hown7
          have h4 := HD6.out.few
          have HD7 := Lib.hid (HD6.out.of_below hb7)
          generalize (L6.actives L6.n).length = m7 at *
          obtain ⟨a5, cp5, rfl⟩ := slice_len HD7.out.ids
          have hle := HD7.out.loc.le
          have t1 : ¬ ((4 : Int) < (m7 : Int)) := by omega
          have t2 : ¬ ((32 : Int) < (L6.n : Int)) := by omega
          have t3 : ((L6.n : Int) == 0) = false := by rw [beq_eq_false_iff_ne]; omega
          clear hown7 hb7 HD6
          go_wp2
          go_roundg (gk - 1)
          case measure => omega
          case rel => exact ⟨j + 1, L6, by omega, by go_num, HD7, hn5⟩
      · go_wp2
        go_ret
        exact ⟨rfl, HD.out.below⟩
    · go_wp2
      go_ret
      exact ⟨rfl, HD.out.below⟩

end Go.Proofs.Ytmdfpknhfkgfoaa
