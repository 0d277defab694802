/- slices.Delete of one of four pointers. -/
import Derived.Test.YtmdfpknhfkgfoaaDoorPTick
import Derived.Deep.RegionLaw
import Derived.Lib.SliceRun
namespace Go.Proofs.YtmdfpknhfkgfoaaDoor
open Go.RowKit Go.Shelf

theorem info_ptr : (Tryd.prog.info? 90).map (fun i => (i.zero, i.size, i.bytes)) = some (some (.pointer none), 1, 8) := by kernel_rfl

theorem own_take {w : World} {base : Nat} {e : TypeId} {g n m cap : Nat} {xs : List Value} (h : w.ownsRow base e 1 (.slice (some ⟨g, 0, none⟩) n cap) n xs) (hm : m ≤ n) : w.ownsRow base e 1 (.slice (some ⟨g, 0, none⟩) m cap) m (xs.take m) := by
  have hl := h.1
  refine ⟨by rw [List.length_take]; omega, ?_⟩
  rcases h.2 with ⟨h1, _⟩ | ⟨g', cap', cur, hv, hb, hg, hnc, hcm, hcs, htake⟩
  · cases h1
  · injection hv with h1 h2 h3
    injection h1 with h1
    injection h1 with h1
    subst h1 h3
    refine .inr ⟨g, cap, cur, rfl, hb, hg, by omega, hcm, hcs, ?_⟩
    rw [Nat.mul_one] at htake ⊢
    rw [← htake, List.take_take, Nat.min_eq_left hm]

def DelPost (g cp : Nat) (xs : List Value) (w : World) (e : Ending) (w' : World) : Prop :=
  e = .returned (.slice (some ⟨g, 0, none⟩) 3 cp) ∧ w'.ownsRow 0 90 1 (.slice (some ⟨g, 0, none⟩) 3 cp) 3 xs ∧ Keeps (fun b => b = g) w w'

set_option maxRecDepth 100000 in
set_option maxHeartbeats 800000 in
theorem delete4_0 (g cp b0 b1 b2 b3 : Nat) (w : World) (h : w.ownsRow 0 90 1 (.slice (some ⟨g, 0, none⟩) 4 cp) 4 [(.pointer (some ⟨b0, 0, none⟩)), (.pointer (some ⟨b1, 0, none⟩)), (.pointer (some ⟨b2, 0, none⟩)), (.pointer (some ⟨b3, 0, none⟩))]) (hcp : 4 ≤ cp) :
    Calls Tryd.prog 83 #[.slice (some ⟨g, 0, none⟩) 4 cp, .int .i64 0, .int .i64 1] w (DelPost g cp [(.pointer (some ⟨b1, 0, none⟩)), (.pointer (some ⟨b2, 0, none⟩)), (.pointer (some ⟨b3, 0, none⟩))] w) := by
  obtain ⟨i0, hi, hz0, hz1, hz2⟩ := info_parts info_ptr
  have hcell : ∀ j u, ([(.pointer (some ⟨b0, 0, none⟩)), (.pointer (some ⟨b1, 0, none⟩)), (.pointer (some ⟨b2, 0, none⟩)), (.pointer (some ⟨b3, 0, none⟩))] : List Value)[j]? = some u → w.cell? ⟨g, j, none⟩ = some u := fun j u hu => by
    have := own_src h j u hu
    simpa only [Addr.add_mid, Nat.zero_add] using this
  have hfree : ∀ j, w.frozen? ⟨g, j, none⟩ = false := fun j => h.frozenAt j
  have H := Lib.hid h; clear h
  have hnews : Hid (∀ j u, ([(.pointer (some ⟨b1, 0, none⟩)), (.pointer (some ⟨b2, 0, none⟩)), (.pointer (some ⟨b3, 0, none⟩))] : List Value)[j]? = some u → w.drew.cell? ((⟨g, 1, none⟩ : Addr).add j) = some u) := fun j u hu => by
    rw [Addr.add_mid]
    exact hcell (1 + j) u (by
      match j, hu with
      | 0, hu => exact hu
      | 1, hu => exact hu
      | 2, hu => exact hu
      | _ + 3, hu => simp at hu)
  have hspare : Hid (∀ j, j < ([(.pointer (some ⟨b1, 0, none⟩)), (.pointer (some ⟨b2, 0, none⟩)), (.pointer (some ⟨b3, 0, none⟩))] : List Value).length → (w.drew.cell? ⟨g, 0 + 0 * 1 + j, none⟩).isSome = true ∧ w.drew.frozen? ⟨g, 0 + 0 * 1 + j, none⟩ = false) := fun j hj => by
    refine ⟨?_, hfree _⟩
    have hj' : j < 3 := hj
    obtain ⟨u, hu⟩ : ∃ u, ([(.pointer (some ⟨b0, 0, none⟩)), (.pointer (some ⟨b1, 0, none⟩)), (.pointer (some ⟨b2, 0, none⟩)), (.pointer (some ⟨b3, 0, none⟩))] : List Value)[0 + j]? = some u := ⟨_, List.getElem?_eq_getElem (show 0 + j < 4 by omega)⟩
    have := hcell _ u hu
    rw [show 0 + 0 * 1 + j = 0 + j by omega]
    show (w.cell? _).isSome = true
    rw [this]; rfl
  have e3 := hcell 3 _ rfl
  have g3 := hfree 3
  clear hcell hfree
  have hne : ¬ (cp = 1) := by omega
  have hne2 : ¬ (cp = 3) := by omega
  have hne3 : ¬ (cp = 0) := by omega
  have hcl := Lib.run_clear_slice (P := Tryd.prog) (w.drew.setCells g 0 [(.pointer (some ⟨b1, 0, none⟩)), (.pointer (some ⟨b2, 0, none⟩)), (.pointer (some ⟨b3, 0, none⟩))]) 97 90 0 (.pointer none) Tryd.underlying97 (fun _ => by kernel_rfl) rfl rfl g 3 1 (cp - 3) (by decide) (fun j hj => by
    obtain rfl : j = 0 := by omega
    simp [World.setCells, go_sem, e3]) (fun j hj => by
    obtain rfl : j = 0 := by omega
    simp [World.setCells, go_sem, g3])
  go_enter Tryd.func83, Tryd.ntmps83
  go_wp2
  go_region_law (refine step_append_room rfl (.tmp 22) (.tmp 25) 97 rfl 90 i0 1 Tryd.underlying97 hi hz1 g 0 0 cp (by simp [Act.eval, Act.put]) ⟨g, 1, none⟩ 3 (cp - 1) [(.pointer (some ⟨b1, 0, none⟩)), (.pointer (some ⟨b2, 0, none⟩)), (.pointer (some ⟨b3, 0, none⟩))] (by simp [Act.eval, Act.put]) rfl hnews.out (by simp [Value.oneCell']) (by omega) hspare.out ?_)
  go_wp2
  go_ret
  have H1 : w.drew.ownsRow 0 90 1 (.slice (some ⟨g, 0, none⟩) 4 cp) 4 [(.pointer (some ⟨b0, 0, none⟩)), (.pointer (some ⟨b1, 0, none⟩)), (.pointer (some ⟨b2, 0, none⟩)), (.pointer (some ⟨b3, 0, none⟩))] := H.out
  refine ⟨rfl, own_take (m := 3) ((((H1.stored 0 (.pointer (some ⟨b1, 0, none⟩))).1.stored 1 (.pointer (some ⟨b2, 0, none⟩))).1.stored 2 (.pointer (some ⟨b3, 0, none⟩))).1.stored 3 (.pointer none)).1 (by decide), ?_⟩
  exact (((((Keeps.refl (fun b => b = g) w).drew.setCell (.inl rfl)).setCell (.inl rfl)).setCell (.inl rfl)).setCell (.inl rfl))

set_option maxRecDepth 100000 in
set_option maxHeartbeats 800000 in
theorem delete4_1 (g cp b0 b1 b2 b3 : Nat) (w : World) (h : w.ownsRow 0 90 1 (.slice (some ⟨g, 0, none⟩) 4 cp) 4 [(.pointer (some ⟨b0, 0, none⟩)), (.pointer (some ⟨b1, 0, none⟩)), (.pointer (some ⟨b2, 0, none⟩)), (.pointer (some ⟨b3, 0, none⟩))]) (hcp : 4 ≤ cp) :
    Calls Tryd.prog 83 #[.slice (some ⟨g, 0, none⟩) 4 cp, .int .i64 1, .int .i64 2] w (DelPost g cp [(.pointer (some ⟨b0, 0, none⟩)), (.pointer (some ⟨b2, 0, none⟩)), (.pointer (some ⟨b3, 0, none⟩))] w) := by
  obtain ⟨i0, hi, hz0, hz1, hz2⟩ := info_parts info_ptr
  have hcell : ∀ j u, ([(.pointer (some ⟨b0, 0, none⟩)), (.pointer (some ⟨b1, 0, none⟩)), (.pointer (some ⟨b2, 0, none⟩)), (.pointer (some ⟨b3, 0, none⟩))] : List Value)[j]? = some u → w.cell? ⟨g, j, none⟩ = some u := fun j u hu => by
    have := own_src h j u hu
    simpa only [Addr.add_mid, Nat.zero_add] using this
  have hfree : ∀ j, w.frozen? ⟨g, j, none⟩ = false := fun j => h.frozenAt j
  have H := Lib.hid h; clear h
  have hnews : Hid (∀ j u, ([(.pointer (some ⟨b2, 0, none⟩)), (.pointer (some ⟨b3, 0, none⟩))] : List Value)[j]? = some u → w.drew.cell? ((⟨g, 2, none⟩ : Addr).add j) = some u) := fun j u hu => by
    rw [Addr.add_mid]
    exact hcell (2 + j) u (by
      match j, hu with
      | 0, hu => exact hu
      | 1, hu => exact hu
      | _ + 2, hu => simp at hu)
  have hspare : Hid (∀ j, j < ([(.pointer (some ⟨b2, 0, none⟩)), (.pointer (some ⟨b3, 0, none⟩))] : List Value).length → (w.drew.cell? ⟨g, 0 + 1 * 1 + j, none⟩).isSome = true ∧ w.drew.frozen? ⟨g, 0 + 1 * 1 + j, none⟩ = false) := fun j hj => by
    refine ⟨?_, hfree _⟩
    have hj' : j < 2 := hj
    obtain ⟨u, hu⟩ : ∃ u, ([(.pointer (some ⟨b0, 0, none⟩)), (.pointer (some ⟨b1, 0, none⟩)), (.pointer (some ⟨b2, 0, none⟩)), (.pointer (some ⟨b3, 0, none⟩))] : List Value)[1 + j]? = some u := ⟨_, List.getElem?_eq_getElem (show 1 + j < 4 by omega)⟩
    have := hcell _ u hu
    rw [show 0 + 1 * 1 + j = 1 + j by omega]
    show (w.cell? _).isSome = true
    rw [this]; rfl
  have e3 := hcell 3 _ rfl
  have g3 := hfree 3
  clear hcell hfree
  have hne : ¬ (cp = 2) := by omega
  have hne2 : ¬ (cp = 3) := by omega
  have hne3 : ¬ (cp = 0) := by omega
  have hle : 1 ≤ cp := by omega
  have hle1 : (1 : Int) ≤ (cp : Int) := by omega
  have hcl := Lib.run_clear_slice (P := Tryd.prog) (w.drew.setCells g 1 [(.pointer (some ⟨b2, 0, none⟩)), (.pointer (some ⟨b3, 0, none⟩))]) 97 90 0 (.pointer none) Tryd.underlying97 (fun _ => by kernel_rfl) rfl rfl g 3 1 (cp - 3) (by decide) (fun j hj => by
    obtain rfl : j = 0 := by omega
    simp [World.setCells, go_sem, e3]) (fun j hj => by
    obtain rfl : j = 0 := by omega
    simp [World.setCells, go_sem, g3])
  go_enter Tryd.func83, Tryd.ntmps83
  go_wp2
  go_region_law (refine step_append_room rfl (.tmp 22) (.tmp 25) 97 rfl 90 i0 1 Tryd.underlying97 hi hz1 g 0 1 cp (by simp [Act.eval, Act.put]) ⟨g, 2, none⟩ 2 (cp - 2) [(.pointer (some ⟨b2, 0, none⟩)), (.pointer (some ⟨b3, 0, none⟩))] (by simp [Act.eval, Act.put]) rfl hnews.out (by simp [Value.oneCell']) (by omega) hspare.out ?_)
  go_wp2
  go_ret
  have H1 : w.drew.ownsRow 0 90 1 (.slice (some ⟨g, 0, none⟩) 4 cp) 4 [(.pointer (some ⟨b0, 0, none⟩)), (.pointer (some ⟨b1, 0, none⟩)), (.pointer (some ⟨b2, 0, none⟩)), (.pointer (some ⟨b3, 0, none⟩))] := H.out
  refine ⟨rfl, own_take (m := 3) (((H1.stored 1 (.pointer (some ⟨b2, 0, none⟩))).1.stored 2 (.pointer (some ⟨b3, 0, none⟩))).1.stored 3 (.pointer none)).1 (by decide), ?_⟩
  exact ((((Keeps.refl (fun b => b = g) w).drew.setCell (.inl rfl)).setCell (.inl rfl)).setCell (.inl rfl))

set_option maxRecDepth 100000 in
set_option maxHeartbeats 800000 in
theorem delete4_2 (g cp b0 b1 b2 b3 : Nat) (w : World) (h : w.ownsRow 0 90 1 (.slice (some ⟨g, 0, none⟩) 4 cp) 4 [(.pointer (some ⟨b0, 0, none⟩)), (.pointer (some ⟨b1, 0, none⟩)), (.pointer (some ⟨b2, 0, none⟩)), (.pointer (some ⟨b3, 0, none⟩))]) (hcp : 4 ≤ cp) :
    Calls Tryd.prog 83 #[.slice (some ⟨g, 0, none⟩) 4 cp, .int .i64 2, .int .i64 3] w (DelPost g cp [(.pointer (some ⟨b0, 0, none⟩)), (.pointer (some ⟨b1, 0, none⟩)), (.pointer (some ⟨b3, 0, none⟩))] w) := by
  obtain ⟨i0, hi, hz0, hz1, hz2⟩ := info_parts info_ptr
  have hcell : ∀ j u, ([(.pointer (some ⟨b0, 0, none⟩)), (.pointer (some ⟨b1, 0, none⟩)), (.pointer (some ⟨b2, 0, none⟩)), (.pointer (some ⟨b3, 0, none⟩))] : List Value)[j]? = some u → w.cell? ⟨g, j, none⟩ = some u := fun j u hu => by
    have := own_src h j u hu
    simpa only [Addr.add_mid, Nat.zero_add] using this
  have hfree : ∀ j, w.frozen? ⟨g, j, none⟩ = false := fun j => h.frozenAt j
  have H := Lib.hid h; clear h
  have hnews : Hid (∀ j u, ([(.pointer (some ⟨b3, 0, none⟩))] : List Value)[j]? = some u → w.drew.cell? ((⟨g, 3, none⟩ : Addr).add j) = some u) := fun j u hu => by
    rw [Addr.add_mid]
    exact hcell (3 + j) u (by
      match j, hu with
      | 0, hu => exact hu
      | _ + 1, hu => simp at hu)
  have hspare : Hid (∀ j, j < ([(.pointer (some ⟨b3, 0, none⟩))] : List Value).length → (w.drew.cell? ⟨g, 0 + 2 * 1 + j, none⟩).isSome = true ∧ w.drew.frozen? ⟨g, 0 + 2 * 1 + j, none⟩ = false) := fun j hj => by
    refine ⟨?_, hfree _⟩
    have hj' : j < 1 := hj
    obtain ⟨u, hu⟩ : ∃ u, ([(.pointer (some ⟨b0, 0, none⟩)), (.pointer (some ⟨b1, 0, none⟩)), (.pointer (some ⟨b2, 0, none⟩)), (.pointer (some ⟨b3, 0, none⟩))] : List Value)[2 + j]? = some u := ⟨_, List.getElem?_eq_getElem (show 2 + j < 4 by omega)⟩
    have := hcell _ u hu
    rw [show 0 + 2 * 1 + j = 2 + j by omega]
    show (w.cell? _).isSome = true
    rw [this]; rfl
  have e3 := hcell 3 _ rfl
  have g3 := hfree 3
  clear hcell hfree
  have hne : ¬ (cp = 3) := by omega
  have hne2 : ¬ (cp = 3) := by omega
  have hne3 : ¬ (cp = 0) := by omega
  have hle : 2 ≤ cp := by omega
  have hle1 : (2 : Int) ≤ (cp : Int) := by omega
  have hcl := Lib.run_clear_slice (P := Tryd.prog) (w.drew.setCells g 2 [(.pointer (some ⟨b3, 0, none⟩))]) 97 90 0 (.pointer none) Tryd.underlying97 (fun _ => by kernel_rfl) rfl rfl g 3 1 (cp - 3) (by decide) (fun j hj => by
    obtain rfl : j = 0 := by omega
    simp [World.setCells, go_sem, e3]) (fun j hj => by
    obtain rfl : j = 0 := by omega
    simp [World.setCells, go_sem, g3])
  go_enter Tryd.func83, Tryd.ntmps83
  go_wp2
  go_region_law (refine step_append_room rfl (.tmp 22) (.tmp 25) 97 rfl 90 i0 1 Tryd.underlying97 hi hz1 g 0 2 cp (by simp [Act.eval, Act.put]) ⟨g, 3, none⟩ 1 (cp - 3) [(.pointer (some ⟨b3, 0, none⟩))] (by simp [Act.eval, Act.put]) rfl hnews.out (by simp [Value.oneCell']) (by omega) hspare.out ?_)
  go_wp2
  go_ret
  have H1 : w.drew.ownsRow 0 90 1 (.slice (some ⟨g, 0, none⟩) 4 cp) 4 [(.pointer (some ⟨b0, 0, none⟩)), (.pointer (some ⟨b1, 0, none⟩)), (.pointer (some ⟨b2, 0, none⟩)), (.pointer (some ⟨b3, 0, none⟩))] := H.out
  refine ⟨rfl, own_take (m := 3) ((H1.stored 2 (.pointer (some ⟨b3, 0, none⟩))).1.stored 3 (.pointer none)).1 (by decide), ?_⟩
  exact (((Keeps.refl (fun b => b = g) w).drew.setCell (.inl rfl)).setCell (.inl rfl))

set_option maxRecDepth 100000 in
set_option maxHeartbeats 800000 in
theorem delete4_3a (g cp b0 b1 b2 b3 : Nat) (w : World) (h : w.ownsRow 0 90 1 (.slice (some ⟨g, 0, none⟩) 4 cp) 4 [(.pointer (some ⟨b0, 0, none⟩)), (.pointer (some ⟨b1, 0, none⟩)), (.pointer (some ⟨b2, 0, none⟩)), (.pointer (some ⟨b3, 0, none⟩))]) (hcp : cp = 4) :
    Calls Tryd.prog 83 #[.slice (some ⟨g, 0, none⟩) 4 cp, .int .i64 3, .int .i64 4] w (DelPost g cp [(.pointer (some ⟨b0, 0, none⟩)), (.pointer (some ⟨b1, 0, none⟩)), (.pointer (some ⟨b2, 0, none⟩))] w) := by
  subst hcp
  obtain ⟨i0, hi, hz0, hz1, hz2⟩ := info_parts info_ptr
  have hcell : ∀ j u, ([(.pointer (some ⟨b0, 0, none⟩)), (.pointer (some ⟨b1, 0, none⟩)), (.pointer (some ⟨b2, 0, none⟩)), (.pointer (some ⟨b3, 0, none⟩))] : List Value)[j]? = some u → w.cell? ⟨g, j, none⟩ = some u := fun j u hu => by
    have := own_src h j u hu
    simpa only [Addr.add_mid, Nat.zero_add] using this
  have hfree : ∀ j, w.frozen? ⟨g, j, none⟩ = false := fun j => h.frozenAt j
  have H := Lib.hid h; clear h
  have hnews : Hid (∀ j u, ([] : List Value)[j]? = some u → w.drew.cell? ((⟨g, 0, none⟩ : Addr).add j) = some u) := fun j u hu => by simp at hu
  have hspare : Hid (∀ j, j < ([] : List Value).length → (w.drew.cell? ⟨g, 0 + 3 * 1 + j, none⟩).isSome = true ∧ w.drew.frozen? ⟨g, 0 + 3 * 1 + j, none⟩ = false) := fun j hj => by
    refine ⟨?_, hfree _⟩
    have hj' : j < 0 := hj
    obtain ⟨u, hu⟩ : ∃ u, ([(.pointer (some ⟨b0, 0, none⟩)), (.pointer (some ⟨b1, 0, none⟩)), (.pointer (some ⟨b2, 0, none⟩)), (.pointer (some ⟨b3, 0, none⟩))] : List Value)[3 + j]? = some u := ⟨_, List.getElem?_eq_getElem (show 3 + j < 4 by omega)⟩
    have := hcell _ u hu
    rw [show 0 + 3 * 1 + j = 3 + j by omega]
    show (w.cell? _).isSome = true
    rw [this]; rfl
  have e3 := hcell 3 _ rfl
  have g3 := hfree 3
  clear hcell hfree
  have hcl := Lib.run_clear_slice (P := Tryd.prog) (w.drew.setCells g 3 []) 97 90 0 (.pointer none) Tryd.underlying97 (fun _ => by kernel_rfl) rfl rfl g 3 1 (4 - 3) (by decide) (fun j hj => by
    obtain rfl : j = 0 := by omega
    simp [World.setCells, go_sem, e3]) (fun j hj => by
    obtain rfl : j = 0 := by omega
    simp [World.setCells, go_sem, g3])
  go_enter Tryd.func83, Tryd.ntmps83
  go_wp2
  go_region_law (refine step_append_room rfl (.tmp 22) (.tmp 25) 97 rfl 90 i0 1 Tryd.underlying97 hi hz1 g 0 3 4 (by simp [Act.eval, Act.put]) ⟨g, 0, none⟩ 0 (0) [] (by simp [Act.eval, Act.put]) rfl hnews.out (by simp [Value.oneCell']) (by omega) hspare.out ?_)
  go_wp2
  go_ret
  have H1 : w.drew.ownsRow 0 90 1 (.slice (some ⟨g, 0, none⟩) 4 4) 4 [(.pointer (some ⟨b0, 0, none⟩)), (.pointer (some ⟨b1, 0, none⟩)), (.pointer (some ⟨b2, 0, none⟩)), (.pointer (some ⟨b3, 0, none⟩))] := H.out
  refine ⟨rfl, own_take (m := 3) (H1.stored 3 (.pointer none)).1 (by decide), ?_⟩
  exact ((Keeps.refl (fun b => b = g) w).drew.setCell (.inl rfl))

set_option maxRecDepth 100000 in
set_option maxHeartbeats 800000 in
theorem delete4_3b (g cp b0 b1 b2 b3 : Nat) (w : World) (h : w.ownsRow 0 90 1 (.slice (some ⟨g, 0, none⟩) 4 cp) 4 [(.pointer (some ⟨b0, 0, none⟩)), (.pointer (some ⟨b1, 0, none⟩)), (.pointer (some ⟨b2, 0, none⟩)), (.pointer (some ⟨b3, 0, none⟩))]) (hcp : 5 ≤ cp) :
    Calls Tryd.prog 83 #[.slice (some ⟨g, 0, none⟩) 4 cp, .int .i64 3, .int .i64 4] w (DelPost g cp [(.pointer (some ⟨b0, 0, none⟩)), (.pointer (some ⟨b1, 0, none⟩)), (.pointer (some ⟨b2, 0, none⟩))] w) := by
  obtain ⟨i0, hi, hz0, hz1, hz2⟩ := info_parts info_ptr
  have hcell : ∀ j u, ([(.pointer (some ⟨b0, 0, none⟩)), (.pointer (some ⟨b1, 0, none⟩)), (.pointer (some ⟨b2, 0, none⟩)), (.pointer (some ⟨b3, 0, none⟩))] : List Value)[j]? = some u → w.cell? ⟨g, j, none⟩ = some u := fun j u hu => by
    have := own_src h j u hu
    simpa only [Addr.add_mid, Nat.zero_add] using this
  have hfree : ∀ j, w.frozen? ⟨g, j, none⟩ = false := fun j => h.frozenAt j
  have H := Lib.hid h; clear h
  have hnews : Hid (∀ j u, ([] : List Value)[j]? = some u → w.drew.cell? ((⟨g, 4, none⟩ : Addr).add j) = some u) := fun j u hu => by simp at hu
  have hspare : Hid (∀ j, j < ([] : List Value).length → (w.drew.cell? ⟨g, 0 + 3 * 1 + j, none⟩).isSome = true ∧ w.drew.frozen? ⟨g, 0 + 3 * 1 + j, none⟩ = false) := fun j hj => by
    refine ⟨?_, hfree _⟩
    have hj' : j < 0 := hj
    obtain ⟨u, hu⟩ : ∃ u, ([(.pointer (some ⟨b0, 0, none⟩)), (.pointer (some ⟨b1, 0, none⟩)), (.pointer (some ⟨b2, 0, none⟩)), (.pointer (some ⟨b3, 0, none⟩))] : List Value)[3 + j]? = some u := ⟨_, List.getElem?_eq_getElem (show 3 + j < 4 by omega)⟩
    have := hcell _ u hu
    rw [show 0 + 3 * 1 + j = 3 + j by omega]
    show (w.cell? _).isSome = true
    rw [this]; rfl
  have e3 := hcell 3 _ rfl
  have g3 := hfree 3
  clear hcell hfree
  have hne : ¬ (cp = 4) := by omega
  have hne2 : ¬ (cp = 3) := by omega
  have hne3 : ¬ (cp = 0) := by omega
  have hle : 3 ≤ cp := by omega
  have hle1 : (3 : Int) ≤ (cp : Int) := by omega
  have hcl := Lib.run_clear_slice (P := Tryd.prog) (w.drew.setCells g 3 []) 97 90 0 (.pointer none) Tryd.underlying97 (fun _ => by kernel_rfl) rfl rfl g 3 1 (cp - 3) (by decide) (fun j hj => by
    obtain rfl : j = 0 := by omega
    simp [World.setCells, go_sem, e3]) (fun j hj => by
    obtain rfl : j = 0 := by omega
    simp [World.setCells, go_sem, g3])
  go_enter Tryd.func83, Tryd.ntmps83
  go_wp2
  go_region_law (refine step_append_room rfl (.tmp 22) (.tmp 25) 97 rfl 90 i0 1 Tryd.underlying97 hi hz1 g 0 3 cp (by simp [Act.eval, Act.put]) ⟨g, 4, none⟩ 0 (cp - 4) [] (by simp [Act.eval, Act.put]) rfl hnews.out (by simp [Value.oneCell']) (by omega) hspare.out ?_)
  go_wp2
  go_ret
  have H1 : w.drew.ownsRow 0 90 1 (.slice (some ⟨g, 0, none⟩) 4 cp) 4 [(.pointer (some ⟨b0, 0, none⟩)), (.pointer (some ⟨b1, 0, none⟩)), (.pointer (some ⟨b2, 0, none⟩)), (.pointer (some ⟨b3, 0, none⟩))] := H.out
  refine ⟨rfl, own_take (m := 3) (H1.stored 3 (.pointer none)).1 (by decide), ?_⟩
  exact ((Keeps.refl (fun b => b = g) w).drew.setCell (.inl rfl))

end Go.Proofs.YtmdfpknhfkgfoaaDoor
