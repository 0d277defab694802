/- The walk of PathBounded. -/
import Derived.Test.YtmdfpknhfkgfoaaDoorPLoop
import Derived.Test.YtmdfpknhfkgfoaaDoorPArgs
import Derived.Test.YtmdfpknhfkgfoaaDoorPLineW
import Derived.Test.YtmdfpknhfkgfoaaDoorBlk
namespace Go.Proofs.YtmdfpknhfkgfoaaDoor
open Go.RowKit Go.Shelf

structure BdAt (B : Nat) (β : Int × Int → Nat) (S : PS) (v : Value) (V : Nat → Bool) (bV m : Nat) (w W : World) : Prop where
  now : PAt w B β S v W
  good : S.good m
  near : S.near
  blk : Blk bV 8 (fun i => .bool (V i)) 58 W
  free : ¬ POwn B β S v bV
  high : w.heap.size ≤ bV
  ok : ∀ r : Nat, r < 8 → V r = true → S.valid (100, (r : Int)) = true

theorem POwn.lt {B : Nat} {β : Int × Int → Nat} {S : PS} {v : Value} {W : World} (h : IsPS B β S v W) {b : Nat} (hb : POwn B β S v b) : b < W.heap.size := by
  rcases hb with rfl | hb | ⟨e, he, rfl⟩
  · exact heap_lt h.blk
  · rcases h.own.2 with ⟨rfl, _⟩ | ⟨g, cap, cur, rfl, _, hgb, _⟩
    · simp [Value.ownBlock] at hb
    · obtain rfl : g = b := by simpa [Value.ownBlock] using hb
      exact heap_lt hgb
  · exact heap_lt (h.ent e he)

section
variable {B : Nat} {β β' : Int × Int → Nat} {S S' : PS} {v v' : Value} {V : Nat → Bool} {bV m : Nat} {w W W' : World}
theorem BdAt.of_below (h : BdAt B β S v V bV m w W) (hb : Below W.heap.size W W') : BdAt B β S v V bV m w W' :=
  ⟨h.now.of_below hb, h.good, h.near, h.blk.below hb h.blk.lt, h.free, h.high, h.ok⟩
theorem BdAt.go (h : BdAt B β S v V bV m w W) (hg : PGo w B β S v β' S' v' W W') (hto : S.To S') (hn : S'.near) : BdAt B β' S' v' V bV (m + 1) w W' :=
  ⟨hg.now, hto.good h.good, hn, (hg.keeps.block _ h.blk.lt h.free).trans h.blk, fun ho => (hg.grow _ ho).elim h.free (fun hl => absurd h.blk.lt (Nat.not_lt.2 hl)), h.high, fun r hr hv => hto.valid (h.ok r hr hv)⟩
theorem BdAt.mono (h : BdAt B β S v V bV m w W) {m' : Nat} (hm : m ≤ m') : BdAt B β S v V bV m' w W := ⟨h.now, h.good.mono hm, h.near, h.blk, h.free, h.high, h.ok⟩
theorem BdAt.store (h : BdAt B β S v V bV m w W) (r : Nat) (x : Bool) (hx : x = S.valid (100, (r : Int))) : BdAt B β S v (put V r x) bV m w (W.setCell ⟨bV, r, none⟩ (.bool x)) := by
  have hk : Keeps (fun b => b = bV) W (W.setCell ⟨bV, r, none⟩ (.bool x)) := (Keeps.refl _ _).setCell (.inl rfl)
  refine ⟨⟨h.now.is.keeps hk (fun e => h.free (.inl e.symm)) (fun g hg e => h.free (.inr (.inl (by rw [← e]; exact hg)))) (fun e he e2 => h.free (.inr (.inr ⟨e, he, e2.symm⟩))), h.now.base, hk.below h.now.below (fun i e => by rw [e]; exact h.high) h.now.below.size, h.now.small⟩, h.good, h.near, (h.blk.set r (.bool x)).congr (fun j _ => ?_), h.free, h.high, fun i hi hv => ?_⟩
  · unfold upd put
    split <;> rfl
  · unfold put at hv
    split at hv
    · next e => subst e; rw [← hx]; exact hv
    · exact h.ok i hi hv
end

set_option maxRecDepth 100000 in
set_option maxHeartbeats 2000000 in
theorem bounded_any (aA aP : Addr) (ok : Bool) (a : Option Addr) (len cap : Nat) (C : Nat → Call24) (w : World) (hE : Errs aA aP w) (hA : ArgC a len C w) :
    Calls Tryd.prog 7 #[.bool ok, .slice a len cap] w (SomeB (.bool true) w) := by
  have HE := Lib.hid hE; clear hE
  have HA := Lib.hid hA; clear hA
  go_enter Tryd.func7, Tryd.ntmps7
  go_wp2_with (fail)
  refine (sane24_any aA aP w HE.out).mono ?_
  rintro e w0 ⟨rfl, hb0⟩
  have HB0 := Lib.hid hb0; clear hb0
  go_wp2_with (fail)
  refine (pnew_yes 100 1 ok _ rfl).mono ?_
  rintro e w1 ⟨B, β1, v1, rfl, hA⟩
  have HA1 := Lib.hid (hA.base_mono HB0.out); clear hA HB0
  have HD : Hid (BdAt B β1 (PS1 100 1 ok) v1 (fun _ => false) w1.heap.size 0 w (w1.alloc (.cells #[.bool false, .bool false, .bool false, .bool false, .bool false, .bool false, .bool false, .bool false] 58))) :=
    ⟨HA1.out.of_below ((Below.refl _ w1).alloc (Nat.le_refl _) _), good_PS1 100 1 ok 0, near_PS1 1 ok (by decide), heap_alloc_new w1 _, fun ho => absurd (ho.lt HA1.out.is) (Nat.lt_irrefl _), HA1.out.below.size, fun _ _ h => by cases h⟩
  go_wp2_with (fail)
  go_loopg [8, 10] 60 (fun g x i wr => ∃ (j n : Nat) (β : Int × Int → Nat) (S : PS) (v : Value) (V : Nat → Bool), g + j = 60 ∧ i = .int .i64 j ∧ x = .int .i64 n ∧ n ≤ 120 * j ∧ Hid (BdAt B β S v V w1.heap.size j w wr))
  case atStart => exact ⟨0, 0, _, _, _, _, rfl, rfl, rfl, Nat.zero_le _, HD⟩
  case round =>
    clear HD HA1
    obtain ⟨j, n, β, S, v, V, hg, rfl, rfl, hn, HD⟩ := hrel
    by_cases hjl : j < len
    · by_cases hj120 : j < 60
      · obtain ⟨hok, b, o, rfl, hbw, hcell⟩ := HA.out j hjl
        have c0 := (HD.out.now.below.cell (p := ⟨b, o + j * 5, none⟩) hbw).trans (hcell 0 (by decide))
        have c1 := (HD.out.now.below.cell (p := ⟨b, o + j * 5 + 1, none⟩) hbw).trans (hcell 1 (by decide))
        have c2 := (HD.out.now.below.cell (p := ⟨b, o + j * 5 + 2, none⟩) hbw).trans (hcell 2 (by decide))
        have c3 := (HD.out.now.below.cell (p := ⟨b, o + j * 5 + 3, none⟩) hbw).trans (hcell 3 (by decide))
        have c4 := (HD.out.now.below.cell (p := ⟨b, o + j * 5 + 4, none⟩) hbw).trans (hcell 4 (by decide))
        clear hcell
        generalize C j = c at *
        go_wp2_with (fail)
        refine (pick24_any c.later 120 _ (by decide) (by decide) hok.later.1 hok.later.2).mono ?_
        rintro e w2 ⟨rfl, rfl⟩
        have hpl := pkN_lt c.later 120 (by decide)
        generalize pkN c.later 120 = p at *
        have hk : c.kind < 0 ∨ 6 < c.kind ∨ c.tame := by unfold Call24.tame; omega
        rcases hk with hk | hk | hk
        · go_wp2
          go_roundg (gk - 1)
          case measure => omega
          case rel => exact ⟨j + 1, n + p, β, S, v, V, by omega, by go_num, by go_num, by omega, HD.out.mono (Nat.le_succ j)⟩
        · go_wp2
          go_roundg (gk - 1)
          case measure => omega
          case rel => exact ⟨j + 1, n + p, β, S, v, V, by omega, by go_num, by go_num, by omega, HD.out.mono (Nat.le_succ j)⟩
        · have hk0 := hk.1
          have hk6 := hk.2
          go_wp2_with (fail)
          refine (do_any aA aP w B β S v ((n : Int) + (p : Int)) c _ HE.out HD.out.now j HD.out.good (by omega) hok).mono ?_
          rintro e w3 ⟨rfl, β2, v2, hG⟩
          have hdid := doo_did HD.out.now.is.nd ((n : Int) + (p : Int)) c hk
          have HD3 := Lib.hid (HD.out.go hG (doo_to HD.out.now.is.nd ((n : Int) + (p : Int)) c) (HD.out.near.did hdid))
          clear HD hG hdid c0 c1 c2 c3 c4 hk hk0 hk6 hok
          generalize S.doo ((n : Int) + (p : Int)) c = X at *
          obtain ⟨x, S2⟩ := X
          simp only at HD3
          obtain ⟨r, hr1, hr7, hact, HR⟩ : ∃ r : Int, 1 ≤ r ∧ r ≤ 7 ∧ S2.act = (100, r) ∧ Hid (S2.allows (100, r) 0 = true) := by
            obtain ⟨e0, hem, hek⟩ := HD3.out.now.is.act
            have hget := (get_iff HD3.out.now.is.nd).2 ⟨hem, hek⟩
            obtain ⟨h1, h2, h3⟩ := HD3.out.near _ _ hget
            have hact : S2.act = (100, S2.act.2) := by rw [← h1]
            refine ⟨S2.act.2, h2, h3, hact, ?_⟩
            rw [← hact]
            exact good_allows0 HD3.out.good hget
          have HT := Lib.hid hact; clear hact
          obtain ⟨L, hL, hL1, hL4⟩ : ∃ L : Nat, Hid (S2.es.length = L) ∧ 1 ≤ L ∧ L ≤ 4 := by
            refine ⟨_, rfl, ?_, HD3.out.now.is.len⟩
            obtain ⟨e0, hem, _⟩ := HD3.out.now.is.act
            exact List.length_pos_of_mem hem
          go_wp2_with (fail)
          refine (pactive_is B β2 S2 v2 _ HD3.out.now.is 100 r HT.out).mono ?_
          rintro e w4 ⟨rfl, hb⟩
          have HD4 := Lib.hid (HD3.out.of_below hb); clear hb HD3
          go_wp2_with (fail)
          refine (len_any B β2 S2 v2 _ HD4.out.now.is).mono ?_
          rintro e w5 ⟨rfl, hb⟩
          have HD5 := Lib.hid (HD4.out.of_below hb); clear hb HD4
          rw [hL.out]
          go_wp2_with (fail)
          refine (len_any B β2 S2 v2 _ HD5.out.now.is).mono ?_
          rintro e w6 ⟨rfl, hb⟩
          have HD6 := Lib.hid (HD5.out.of_below hb); clear hb HD5
          rw [hL.out]
          go_wp2_with (fail)
          refine (allows_any aA aP w B β2 S2 v2 100 r 0 _ (HE.out.below HD6.out.now.below) HD6.out.now).mono ?_
          rintro e w7 ⟨rfl, hb⟩
          have HD7 := Lib.hid (HD6.out.of_below hb); clear hb HD6
          rw [HR.out]
          go_wp2_with (fail)
          go_loopw [13] (fun i wx => ∃ (t : Nat) (V : Nat → Bool), 1 ≤ t ∧ t ≤ 8 ∧ i = .int .i64 t ∧ Hid (BdAt B β2 S2 v2 V w1.heap.size (j + 1) w wx)) (fun i _ => 8 - (intOf i).toNat)
          case atStart => exact ⟨1, V, Nat.le_refl _, by decide, rfl, HD7⟩
          case round =>
            clear HD7
            obtain ⟨t, V, ht1, ht8, rfl, HD8⟩ := hrel
            by_cases ht : t < 8
            · have hcv := HD8.out.blk.cell t ht
              have hfv := HD8.out.blk.free t
              have hvt : Hid (V t = true → S2.valid (100, (t : Int)) = true) := HD8.out.ok t ht
              cases hv : V t with
              | true =>
                simp only [hv] at hcv
                have Hs := Lib.hid (hvt.out hv)
                clear hv hvt
                go_wp2_with (fail)
                refine (valid_any aA aP B β2 S2 v2 100 t _ (HE.out.below HD8.out.now.below) HD8.out.now.is).mono ?_
                rintro e w9 ⟨rfl, hb⟩
                have HD9 := Lib.hid (HD8.out.of_below hb); clear hb HD8
                rw [Hs.out]
                go_wp2_with (fail)
                refine (valid_any aA aP B β2 S2 v2 100 t _ (HE.out.below HD9.out.now.below) HD9.out.now.is).mono ?_
                rintro e w10 ⟨rfl, hb⟩
                have HD10 := Lib.hid (HD9.out.of_below hb); clear hb HD9
                obtain ⟨y, hy⟩ : ∃ y, Hid (y = S2.valid (100, (t : Int))) := ⟨_, rfl⟩
                rw [← hy.out]
                have HD11 := Lib.hid (HD10.out.store t y hy.out)
                have hcv2 := HD10.out.blk.cell t ht
                have hfv2 := HD10.out.blk.free t
                go_wp2
                go_roundw
                case rel => exact ⟨t + 1, put V t y, by omega, by omega, by go_num, HD11⟩
                case measure => simp [intOf]; omega
              | false =>
                simp only [hv] at hcv
                clear hv hvt
                go_wp2_with (fail)
                refine (valid_any aA aP B β2 S2 v2 100 t _ (HE.out.below HD8.out.now.below) HD8.out.now.is).mono ?_
                rintro e w10 ⟨rfl, hb⟩
                have HD10 := Lib.hid (HD8.out.of_below hb); clear hb HD8
                obtain ⟨y, hy⟩ : ∃ y, Hid (y = S2.valid (100, (t : Int))) := ⟨_, rfl⟩
                rw [← hy.out]
                have HD11 := Lib.hid (HD10.out.store t y hy.out)
                have hcv2 := HD10.out.blk.cell t ht
                have hfv2 := HD10.out.blk.free t
                go_wp2
                go_roundw
                case rel => exact ⟨t + 1, put V t y, by omega, by omega, by go_num, HD11⟩
                case measure => simp [intOf]; omega
            · obtain rfl : t = 8 := by omega
              go_wp2
              go_roundg (gk - 1)
              case measure => omega
              case rel => exact ⟨j + 1, n + p, β2, S2, v2, V, by omega, by go_num, by go_num, by omega, HD8⟩
      · go_wp2
        go_ret
        exact ⟨rfl, HD.out.now.below⟩
    · go_wp2
      go_ret
      exact ⟨rfl, HD.out.now.below⟩
end Go.Proofs.YtmdfpknhfkgfoaaDoor
