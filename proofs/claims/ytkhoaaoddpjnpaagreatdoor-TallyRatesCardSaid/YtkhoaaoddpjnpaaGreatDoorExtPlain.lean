/- Of the least and the greatest (no program in sight). -/
import Derived.Test.YtkhoaaoddpjnpaaGreatDoorExt
namespace Go.Proofs.YtkhoaaoddpjnpaaGreatDoor.SortedLaw
open Go Go.RowKit Go.Proofs.YtkhoaaoddpjnpaaGreatDoor Go.Proofs.YtkhoaaoddpjnpaaGreatDoor.Flt Go.Proofs.YtkhoaaoddpjnpaaGreatDoor.Cmp Go.Proofs.YtkhoaaoddpjnpaaGreatDoor.Mem Go.Proofs.YtkhoaaoddpjnpaaGreatDoor.Ext

/-- The first of the least. -/
def First (l : List Nat) (b : Option Nat) : Prop := match b with
  | none => l = []
  | some y => (∀ x ∈ l, key y ≤ key x) ∧ (l.filter fun x => decide (key x = key y)).head? = some y
theorem first_take (l : List Nat) : ∀ n, n ≤ l.length → First (l.take n) (ext (-1) (l.take n))
  | 0, _ => rfl
  | n + 1, h => by
    have ih := first_take l n (by omega)
    have hx := List.getElem?_eq_getElem (l := l) (i := n) (by omega)
    rw [ext_take _ l n _ hx, List.take_succ_eq_append_getElem (by omega)]
    generalize l[n] = x at *
    generalize l.take n = r at *
    cases he : ext (-1) r with
    | none =>
      rw [he] at ih
      have ih' : r = [] := ih
      subst ih'
      exact ⟨fun y hy => by simp at hy; subst hy; exact Int.le_refl _, by simp⟩
    | some y =>
      rw [he] at ih
      obtain ⟨h1, h2⟩ : (∀ x ∈ r, key y ≤ key x) ∧ (r.filter fun x => decide (key x = key y)).head? = some y := ih
      show First _ (if cmpF x y = -1 then some x else some y)
      by_cases hc : cmpF x y = -1
      · rw [if_pos hc]
        have hlt : key x < key y := (cmpF_lt x y).1 (by omega)
        refine ⟨fun z hz => ?_, ?_⟩
        · rcases List.mem_append.1 hz with hz | hz
          · have := h1 z hz; omega
          · simp at hz; subst hz; exact Int.le_refl _
        · rw [List.filter_append]
          have e : r.filter (fun z => decide (key z = key x)) = [] := by
            rw [List.filter_eq_nil_iff]
            intro z hz
            have := h1 z hz
            simp; omega
          rw [e]; simp
      · rw [if_neg hc]
        have hge : ¬ key x < key y := fun h => by
          have h3 := (cmpF_lt x y).2 h
          have h4 := cmpF_range x y
          omega
        refine ⟨fun z hz => ?_, ?_⟩
        · rcases List.mem_append.1 hz with hz | hz
          · exact h1 z hz
          · simp at hz; subst hz; omega
        · rw [List.filter_append, List.head?_append, h2]; rfl
theorem great_take (l : List Nat) : ∀ n, n ≤ l.length → ∀ y, ext 1 (l.take n) = some y → ∀ x ∈ l.take n, key x ≤ key y
  | 0, _ => fun y h => by cases h
  | n + 1, h => by
    have ih := great_take l n (by omega)
    have hx := List.getElem?_eq_getElem (l := l) (i := n) (by omega)
    rw [ext_take _ l n _ hx, List.take_succ_eq_append_getElem (by omega)]
    have hn : ext 1 (l.take n) = none → l.take n = [] := by
      intro he
      cases hr : l.take n with
      | nil => rfl
      | cons a r =>
        rw [hr] at he
        have key2 : ∀ (r : List Nat) (b : Nat), (r.foldl (pick 1) (some b)) ≠ none := by
          intro r
          induction r with
          | nil => intro b hb; cases hb
          | cons c r ih2 =>
            intro b hb
            simp only [List.foldl_cons, pick] at hb
            split at hb <;> exact ih2 _ hb
        exact absurd he (key2 r a)
    generalize l[n] = x at *
    generalize l.take n = r at *
    intro y hy z hz
    cases he : ext 1 r with
    | none =>
      have e := hn he
      subst e
      rw [he] at hy
      simp [pick] at hy
      subst hy
      simp at hz
      subst hz
      exact Int.le_refl _
    | some y0 =>
      rw [he] at hy
      simp only [pick] at hy
      split at hy
      · rename_i hc
        obtain rfl := Option.some.inj hy
        have hlt : key y0 < key x := (cmpF_gt x y0).1 (by omega)
        rcases List.mem_append.1 hz with hz | hz
        · have := ih y0 he z hz; omega
        · simp at hz; subst hz; exact Int.le_refl _
      · rename_i hc
        obtain rfl := Option.some.inj hy
        have hge : ¬ key y0 < key x := fun h => by
          have h3 := (cmpF_gt x y0).2 h
          have h4 := cmpF_range x y0
          omega
        rcases List.mem_append.1 hz with hz | hz
        · exact ih y0 he z hz
        · simp at hz; subst hz; omega
theorem ext_great_le (l : List Nat) (y : Nat) (h : ext 1 l = some y) : ∀ x ∈ l, key x ≤ key y := by
  have := great_take l l.length (Nat.le_refl _) y
  rw [List.take_length] at this
  exact this h
theorem ext_some (b : Int) (l : List Nat) (h : 0 < l.length) : ∃ y, ext b l = some y := by
  cases l with
  | nil => simp at h
  | cons a r =>
    have key2 : ∀ (r : List Nat) (c : Nat), ∃ y, r.foldl (pick b) (some c) = some y := by
      intro r
      induction r with
      | nil => intro c; exact ⟨c, rfl⟩
      | cons d r ih =>
        intro c
        simp only [List.foldl_cons, pick]
        split <;> exact ih _
    exact key2 r a

end Go.Proofs.YtkhoaaoddpjnpaaGreatDoor.SortedLaw
