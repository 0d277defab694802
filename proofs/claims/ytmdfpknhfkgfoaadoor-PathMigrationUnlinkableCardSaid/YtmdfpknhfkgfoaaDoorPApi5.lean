/- path.Paths.expire and Tick. -/
import Derived.Test.YtmdfpknhfkgfoaaDoorPApi4
namespace Go.Proofs.YtmdfpknhfkgfoaaDoor
open Go.RowKit Go.Shelf

/-- Has the challenge of a path failed? -/
def PE.late (now : Int) (e : PE) : Bool := !e.idle && decide (e.tick + 200 < now)
def PE.drop (e : PE) : PE := { e with data := ⟨#[]⟩, tick := 0 }
def PE.exp (now : Int) (e : PE) : PE := if e.late now then e.drop else e
theorem PE.exp_key (now : Int) (e : PE) : (e.exp now).key = e.key := by unfold PE.exp; split <;> rfl

/-- The first j paths are looked at. -/
def PS.expTo (S : PS) (now : Int) (j : Nat) : PS := { S with es := (S.es.take j).map (PE.exp now) ++ S.es.drop j }
def PS.expire (S : PS) (now : Int) : PS := { S with es := S.es.map (PE.exp now) }
/-- Has that of the active path failed, among the first j? -/
def PS.failedTo (S : PS) (now : Int) (j : Nat) : Bool := (S.es.take j).any fun e => e.late now && decide (e.key = S.act)
def PS.failed (S : PS) (now : Int) : Bool := S.es.any fun e => e.late now && decide (e.key = S.act)

theorem expTo_zero (S : PS) (now : Int) : S.expTo now 0 = S := by cases S; simp [PS.expTo]
theorem expTo_all (S : PS) (now : Int) : S.expTo now S.es.length = S.expire now := by unfold PS.expTo PS.expire; rw [List.take_length, List.drop_length, List.append_nil]
theorem failedTo_all (S : PS) (now : Int) : S.failedTo now S.es.length = S.failed now := by unfold PS.failedTo PS.failed; rw [List.take_length]

theorem expTo_keys (S : PS) (now : Int) (j : Nat) : (S.expTo now j).es.map PE.key = S.es.map PE.key := by
  show ((S.es.take j).map (PE.exp now) ++ S.es.drop j).map PE.key = _
  rw [List.map_append, List.map_map]
  have : (PE.key ∘ PE.exp now) = PE.key := by funext e; exact PE.exp_key now e
  rw [this, ← List.map_append, List.take_append_drop]

theorem expTo_len (S : PS) (now : Int) (j : Nat) : (S.expTo now j).es.length = S.es.length := by
  have := congrArg List.length (expTo_keys S now j)
  simpa using this

theorem drop_cons (S : PS) (j : Nat) (e : PE) (h : S.es[j]? = some e) : S.es.drop j = e :: S.es.drop (j + 1) := by
  obtain ⟨hj, he⟩ := List.getElem?_eq_some_iff.1 h
  rw [List.drop_eq_getElem_cons hj, he]

theorem expTo_at (S : PS) (now : Int) (j : Nat) (e : PE) (h : S.es[j]? = some e) : (S.expTo now j).es[j]? = some e := by
  obtain ⟨hj, he⟩ := List.getElem?_eq_some_iff.1 h
  show ((S.es.take j).map (PE.exp now) ++ S.es.drop j)[j]? = _
  rw [List.getElem?_append_right (by simp; omega), drop_cons S j e h]
  simp [Nat.min_eq_left (Nat.le_of_lt hj)]

theorem expTo_succ (S : PS) (now : Int) (j : Nat) (e : PE) (h : S.es[j]? = some e) : (S.expTo now (j + 1)).es = (S.es.take j).map (PE.exp now) ++ (e.exp now :: S.es.drop (j + 1)) := by
  show (S.es.take (j + 1)).map (PE.exp now) ++ S.es.drop (j + 1) = _
  rw [List.take_add_one, h]
  simp

theorem expTo_no (S : PS) (now : Int) (j : Nat) (e : PE) (h : S.es[j]? = some e) (hl : e.late now = false) : S.expTo now (j + 1) = S.expTo now j := by
  have h1 := expTo_succ S now j e h
  have h2 : (S.expTo now j).es = (S.es.take j).map (PE.exp now) ++ (e :: S.es.drop (j + 1)) := by show _ ++ S.es.drop j = _; rw [drop_cons S j e h]
  have h3 : e.exp now = e := by unfold PE.exp; rw [hl]; rfl
  rw [h3] at h1
  unfold PS.expTo at h1 h2 ⊢
  simp only at h1 h2 ⊢
  rw [h1, h2]

theorem map_upd_one (pre post : List PE) (e : PE) (f : PE → PE) (hn : ((pre ++ e :: post).map PE.key).Nodup) : (pre ++ e :: post).map (fun x => if x.key = e.key then f x else x) = pre ++ f e :: post := by
  have hpre : ∀ x ∈ pre, x.key ≠ e.key := fun x hx h => by
    rw [List.map_append, List.nodup_append] at hn
    exact hn.2.2 x.key (List.mem_map.2 ⟨x, hx, rfl⟩) e.key (by simp) h
  have hpost : ∀ x ∈ post, x.key ≠ e.key := fun x hx h => by
    rw [List.map_append, List.nodup_append] at hn
    have h2 := hn.2.1
    rw [List.map_cons, List.nodup_cons] at h2
    exact h2.1 (List.mem_map.2 ⟨x, hx, h⟩)
  rw [List.map_append, List.map_cons, if_pos rfl]
  congr 1
  · conv => rhs; rw [← List.map_id pre]
    apply List.map_congr_left
    intro x hx
    rw [if_neg (hpre x hx)]; rfl
  · congr 1
    conv => rhs; rw [← List.map_id post]
    apply List.map_congr_left
    intro x hx
    rw [if_neg (hpost x hx)]; rfl

theorem expTo_yes (S : PS) (now : Int) (j : Nat) (e : PE) (h : S.es[j]? = some e) (hn : (S.es.map PE.key).Nodup) (hl : e.late now = true) : S.expTo now (j + 1) = (S.expTo now j).upd e.key PE.drop := by
  have h1 := expTo_succ S now j e h
  have h2 : (S.expTo now j).es = (S.es.take j).map (PE.exp now) ++ (e :: S.es.drop (j + 1)) := by show _ ++ S.es.drop j = _; rw [drop_cons S j e h]
  have h3 : e.exp now = e.drop := by unfold PE.exp; rw [hl]; rfl
  have hn2 := hn
  rw [← expTo_keys S now j, h2] at hn2
  have h4 := map_upd_one _ _ e PE.drop hn2
  rw [h3] at h1
  show PS.mk (S.expTo now (j + 1)).es S.act S.prev = PS.mk ((S.expTo now j).es.map _) S.act S.prev
  rw [h1, h2, h4]

theorem failedTo_succ (S : PS) (now : Int) (j : Nat) (e : PE) (h : S.es[j]? = some e) : S.failedTo now (j + 1) = (S.failedTo now j || (e.late now && decide (e.key = S.act))) := by
  unfold PS.failedTo
  rw [List.take_add_one, h]
  simp [List.any_append]

end Go.Proofs.YtmdfpknhfkgfoaaDoor
