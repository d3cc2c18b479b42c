/- Stable sorting of lists by the key of Flt (no program in sight). -/
import Derived.Test.YtkhoaaoddpjnpaaDoorFlt
namespace Go.Proofs.YtkhoaaoddpjnpaaDoor.Sorts
open Go.Proofs.YtkhoaaoddpjnpaaDoor.Flt

/-- In order. -/
def Srt (l : List Nat) : Prop := l.Pairwise fun x y => key x ≤ key y
/-- The same numbers; alike ones in the same order. -/
def StE (l m : List Nat) : Prop := ∀ k : Int, l.filter (fun x => decide (key x = k)) = m.filter (fun x => decide (key x = k))

theorem StE.refl (l : List Nat) : StE l l := fun _ => rfl
theorem StE.symm {l m : List Nat} (h : StE l m) : StE m l := fun k => (h k).symm
theorem StE.trans {l m r : List Nat} (h : StE l m) (h' : StE m r) : StE l r := fun k => (h k).trans (h' k)
theorem StE.app {l m l' m' : List Nat} (h : StE l m) (h' : StE l' m') : StE (l ++ l') (m ++ m') := fun k => by
  rw [List.filter_append, List.filter_append, h k, h' k]
theorem StE.mem {l m : List Nat} (h : StE l m) (x : Nat) : x ∈ l ↔ x ∈ m := by
  have := h (key x)
  constructor
  · intro hx
    have h1 : x ∈ l.filter (fun y => decide (key y = key x)) := List.mem_filter.2 ⟨hx, by simp⟩
    rw [this] at h1
    exact (List.mem_filter.1 h1).1
  · intro hx
    have h1 : x ∈ m.filter (fun y => decide (key y = key x)) := List.mem_filter.2 ⟨hx, by simp⟩
    rw [← this] at h1
    exact (List.mem_filter.1 h1).1
theorem StE.count {l m : List Nat} (h : StE l m) (p : Nat → Bool) (x : Nat) (hp : ∀ y, p y = true → key y = key x) : (l.filter p).length = (m.filter p).length := by
  have e : ∀ r : List Nat, r.filter p = (r.filter (fun y => decide (key y = key x))).filter p := fun r => by
    rw [List.filter_filter]
    congr 1
    funext y
    cases hy : p y
    · rfl
    · simp [hp y hy]
  rw [e l, e m, h (key x)]

theorem Srt.head {x : Nat} {l : List Nat} (h : Srt (x :: l)) : ∀ y ∈ x :: l, key x ≤ key y := by
  intro y hy
  rcases List.mem_cons.1 hy with rfl | hy
  · exact Int.le_refl _
  · exact (List.pairwise_cons.1 h).1 y hy

/-- One list alone is in order and the same. -/
theorem srt_unique : ∀ (l m : List Nat), Srt l → Srt m → StE l m → l = m
  | [], m, _, _, h => by
    cases m with
    | nil => rfl
    | cons y m => have := (h.mem y).2 (by simp); simp at this
  | x :: l, [], _, _, h => by have := (h.mem x).1 (by simp); simp at this
  | x :: l, y :: m, hl, hm, h => by
    have h1 : key y ≤ key x := hm.head x ((h.mem x).1 (by simp))
    have h2 : key x ≤ key y := hl.head y ((h.mem y).2 (by simp))
    have hk : key x = key y := by omega
    have h3 := h (key x)
    rw [List.filter_cons_of_pos (by simp), List.filter_cons_of_pos (by simp [hk])] at h3
    have hxy : x = y := by injection h3
    subst hxy
    have ht : StE l m := fun k => by
      have h4 := h k
      by_cases e : key x = k
      · rw [List.filter_cons_of_pos (by simp [e]), List.filter_cons_of_pos (by simp [e])] at h4
        injection h4
      · rw [List.filter_cons_of_neg (by simp [e]), List.filter_cons_of_neg (by simp [e])] at h4
        exact h4
    rw [srt_unique l m (List.pairwise_cons.1 hl).2 (List.pairwise_cons.1 hm).2 ht]

def ins (x : Nat) : List Nat → List Nat
  | [] => [x]
  | y :: l => if key x ≤ key y then x :: y :: l else y :: ins x l
/-- The stable sort. -/
def ssort : List Nat → List Nat
  | [] => []
  | x :: l => ins x (ssort l)

theorem ins_mem (x : Nat) (l : List Nat) (y : Nat) : y ∈ ins x l ↔ y = x ∨ y ∈ l := by
  induction l with
  | nil => simp [ins]
  | cons z l ih =>
    unfold ins
    split
    · simp
    · simp only [List.mem_cons, ih]
      constructor
      · rintro (h | h | h) <;> simp [h]
      · rintro (h | h | h) <;> simp [h]
theorem ins_srt (x : Nat) (l : List Nat) (h : Srt l) : Srt (ins x l) := by
  induction l with
  | nil => exact List.pairwise_singleton _ _
  | cons z l ih =>
    unfold ins
    split
    · rename_i hxz
      refine List.pairwise_cons.2 ⟨fun y hy => ?_, h⟩
      have := h.head y hy
      omega
    · rename_i hxz
      refine List.pairwise_cons.2 ⟨fun y hy => ?_, ih (List.pairwise_cons.1 h).2⟩
      rcases (ins_mem x l y).1 hy with rfl | hy
      · omega
      · exact h.head y (by simp [hy])
theorem ins_ste (x : Nat) (l : List Nat) : StE (x :: l) (ins x l) := by
  induction l with
  | nil => exact StE.refl _
  | cons z l ih =>
    unfold ins
    split
    · exact StE.refl _
    · rename_i hxz
      intro k
      have := ih k
      by_cases e : key x = k <;> by_cases e' : key z = k
      · omega
      · rw [List.filter_cons_of_pos (by simp [e]), List.filter_cons_of_neg (by simp [e'])]
        rw [List.filter_cons_of_pos (by simp [e])] at this
        rw [List.filter_cons_of_neg (by simp [e'])]
        exact this
      · rw [List.filter_cons_of_neg (by simp [e]), List.filter_cons_of_pos (by simp [e'])]
        rw [List.filter_cons_of_neg (by simp [e])] at this
        rw [List.filter_cons_of_pos (by simp [e']), this]
      · rw [List.filter_cons_of_neg (by simp [e]), List.filter_cons_of_neg (by simp [e'])]
        rw [List.filter_cons_of_neg (by simp [e])] at this
        rw [List.filter_cons_of_neg (by simp [e'])]
        exact this
theorem ssort_srt : ∀ l : List Nat, Srt (ssort l)
  | [] => List.Pairwise.nil
  | x :: l => ins_srt x _ (ssort_srt l)
theorem ssort_ste : ∀ l : List Nat, StE l (ssort l)
  | [] => StE.refl _
  | x :: l => by
    have h : StE (x :: l) (x :: ssort l) := StE.app (l := [x]) (m := [x]) (StE.refl _) (ssort_ste l)
    exact h.trans (ins_ste x _)
theorem ssort_of {l m : List Nat} (hm : Srt m) (h : StE l m) : ssort l = m := srt_unique _ _ (ssort_srt l) hm ((ssort_ste l).symm.trans h)
theorem ssort_id {l : List Nat} (h : Srt l) : ssort l = l := ssort_of h (StE.refl _)
theorem ins_length (x : Nat) (l : List Nat) : (ins x l).length = l.length + 1 := by
  induction l with
  | nil => rfl
  | cons y l ih => unfold ins; split <;> simp [ih]
theorem ssort_length : ∀ l : List Nat, (ssort l).length = l.length
  | [] => rfl
  | x :: l => by unfold ssort; rw [ins_length, ssort_length l]; rfl
theorem ssort_ssort_app (l m : List Nat) : ssort (ssort l ++ ssort m) = ssort (l ++ m) :=
  (ssort_of (ssort_srt _) (((ssort_ste l).app (ssort_ste m)).symm.trans (ssort_ste _)))
theorem ssort_mem (l : List Nat) (x : Nat) : x ∈ ssort l ↔ x ∈ l := ((ssort_ste l).mem x).symm

/-- Two neighbours of which the second is ahead change places. -/
theorem ste_swap (P S : List Nat) (x y : Nat) (h : key x ≠ key y) : StE (P ++ x :: y :: S) (P ++ y :: x :: S) := by
  refine StE.app (StE.refl _) (fun k => ?_)
  by_cases e : key x = k <;> by_cases e' : key y = k <;> simp [e, e']
  omega
/-- Two neighbouring blocks change places: none of the one is alike with one of the other. -/
theorem ste_blocks (P U V S : List Nat) (h : ∀ x ∈ U, ∀ y ∈ V, key x ≠ key y) : StE (P ++ U ++ V ++ S) (P ++ V ++ U ++ S) := by
  have : StE (U ++ V) (V ++ U) := fun k => by
    rw [List.filter_append, List.filter_append]
    by_cases hu : U.filter (fun x => decide (key x = k)) = []
    · rw [hu]; simp
    · have hv : V.filter (fun x => decide (key x = k)) = [] := by
        rw [List.filter_eq_nil_iff]
        intro y hy
        obtain ⟨x, hx⟩ := List.exists_mem_of_ne_nil _ hu
        have h1 := List.mem_filter.1 hx
        have h2 : key x = k := by simpa using h1.2
        have := h x h1.1 y hy
        simp; omega
      rw [hv]; simp
  have e1 : P ++ U ++ V ++ S = P ++ (U ++ V) ++ S := by simp
  have e2 : P ++ V ++ U ++ S = P ++ (V ++ U) ++ S := by simp
  rw [e1, e2]
  exact ((StE.refl P).app this).app (StE.refl S)

/-- One number more, put to its place. -/
theorem ssort_snoc (M D1 D2 : List Nat) (x : Nat) (h : ssort M = D1 ++ D2) (h1 : ∀ d ∈ D1, key d ≤ key x) (h2 : ∀ d ∈ D2, key x < key d) : ssort (M ++ [x]) = D1 ++ x :: D2 := by
  have hs := ssort_srt M
  rw [h] at hs
  have hs' := List.pairwise_append.1 hs
  refine ssort_of ?_ ?_
  · refine List.pairwise_append.2 ⟨hs'.1, List.pairwise_cons.2 ⟨fun y hy => Int.le_of_lt (h2 y hy), hs'.2.1⟩, fun y hy z hz => ?_⟩
    rcases List.mem_cons.1 hz with rfl | hz
    · exact h1 y hy
    · exact hs'.2.2 y hy z hz
  · have e1 : StE (M ++ [x]) ((D1 ++ D2) ++ [x]) := (h ▸ ssort_ste M).app (StE.refl [x])
    have e2 := ste_blocks D1 D2 [x] [] (fun y hy z hz => by
      have := h2 y hy
      simp at hz
      subst hz
      omega)
    have e3 : D1 ++ D2 ++ [x] ++ [] = D1 ++ D2 ++ [x] := by simp
    have e4 : D1 ++ [x] ++ D2 ++ [] = D1 ++ x :: D2 := by simp
    rw [e3, e4] at e2
    exact e1.trans e2
theorem srt_last {D : List Nat} {d : Nat} (h : Srt (D ++ [d])) : ∀ y ∈ D ++ [d], key y ≤ key d := by
  intro y hy
  rcases List.mem_append.1 hy with hy | hy
  · exact (List.pairwise_append.1 h).2.2 y hy d (by simp)
  · simp at hy; subst hy; exact Int.le_refl _

theorem srt_get {l : List Nat} (h : Srt l) {i j x y : Nat} (hij : i ≤ j) (hx : l[i]? = some x) (hy : l[j]? = some y) : key x ≤ key y := by
  rcases Nat.lt_or_ge i j with hlt | hge
  · obtain ⟨hi, rfl⟩ := List.getElem?_eq_some_iff.1 hx
    obtain ⟨hj, rfl⟩ := List.getElem?_eq_some_iff.1 hy
    exact List.pairwise_iff_getElem.1 h i j hi hj hlt
  · obtain rfl : i = j := by omega
    rw [hx] at hy; cases hy; exact Int.le_refl _
theorem srt_take {l : List Nat} (h : Srt l) (n : Nat) : Srt (l.take n) := List.Pairwise.sublist (List.take_sublist n l) h
theorem srt_drop {l : List Nat} (h : Srt l) (n : Nat) : Srt (l.drop n) := List.Pairwise.sublist (List.drop_sublist n l) h
theorem mem_take_get {l : List Nat} {n x : Nat} (h : x ∈ l.take n) : ∃ i, i < n ∧ l[i]? = some x := by
  obtain ⟨i, hi⟩ := List.mem_iff_getElem?.1 h
  rw [List.getElem?_take] at hi
  split at hi
  · rename_i hn; exact ⟨i, hn, hi⟩
  · cases hi
theorem mem_drop_get {l : List Nat} {n x : Nat} (h : x ∈ l.drop n) : ∃ i, n ≤ i ∧ l[i]? = some x := by
  obtain ⟨i, hi⟩ := List.mem_iff_getElem?.1 h
  rw [List.getElem?_drop] at hi
  exact ⟨n + i, by omega, hi⟩
theorem ssort_cons_split (u : Nat) (V1 V2 : List Nat) (hs : Srt (V1 ++ V2)) (h1 : ∀ d ∈ V1, key d < key u) (h2 : ∀ d ∈ V2, key u ≤ key d) : ssort (u :: (V1 ++ V2)) = V1 ++ u :: V2 := by
  have hs' := List.pairwise_append.1 hs
  refine ssort_of ?_ ?_
  · refine List.pairwise_append.2 ⟨hs'.1, List.pairwise_cons.2 ⟨fun y hy => h2 y hy, hs'.2.1⟩, fun y hy z hz => ?_⟩
    rcases List.mem_cons.1 hz with rfl | hz
    · exact Int.le_of_lt (h1 y hy)
    · exact hs'.2.2 y hy z hz
  · have e := ste_blocks [] [u] V1 V2 (fun y hy z hz => by
      have := h1 z hz
      simp at hy
      subst hy
      omega)
    simpa using e
theorem merge_fin (U1 U2 V1 V2 : List Nat) (h1 : ∀ x ∈ U1 ++ V1, ∀ y ∈ U2 ++ V2, key x ≤ key y) (h2 : ∀ x ∈ U2, ∀ y ∈ V1, key y < key x) : ssort ((U1 ++ U2) ++ (V1 ++ V2)) = ssort (U1 ++ V1) ++ ssort (U2 ++ V2) := by
  refine ssort_of ?_ ?_
  · exact List.pairwise_append.2 ⟨ssort_srt _, ssort_srt _, fun x hx y hy => h1 x ((ssort_mem _ x).1 hx) y ((ssort_mem _ y).1 hy)⟩
  · have e := ste_blocks U1 U2 V1 V2 (fun x hx y hy => by have := h2 x hx y hy; omega)
    have e1 : U1 ++ U2 ++ V1 ++ V2 = (U1 ++ U2) ++ (V1 ++ V2) := by simp
    have e2 : U1 ++ V1 ++ U2 ++ V2 = (U1 ++ V1) ++ (U2 ++ V2) := by simp
    rw [e1, e2] at e
    exact e.trans ((ssort_ste _).app (ssort_ste _))

/-- Sorted block by block. -/
def sb (bs : Nat) (l : List Nat) : List Nat :=
  if bs = 0 ∨ l.length ≤ bs then ssort l else ssort (l.take bs) ++ sb bs (l.drop bs)
termination_by l.length
decreasing_by
  rename_i h
  rw [List.length_drop]
  omega

theorem sb_small (bs : Nat) (l : List Nat) (h : l.length ≤ bs) : sb bs l = ssort l := by
  rw [sb, if_pos (.inr h)]
theorem sb_app (bs : Nat) (hb : 0 < bs) (A l : List Nat) (h : A.length = bs) : sb bs (A ++ l) = ssort A ++ sb bs l := by
  rw [sb]
  by_cases hl : l = []
  · subst hl
    rw [if_pos (.inr (by simp [h])), sb_small bs [] (by simp)]
    simp [ssort]
  · have : 0 < l.length := List.length_pos_iff.2 hl
    rw [if_neg (by simp; omega), ← h, List.take_left, List.drop_left]
theorem sb_length (bs : Nat) (l : List Nat) : (sb bs l).length = l.length := by
  have key : ∀ (n : Nat) (l : List Nat), l.length ≤ n → (sb bs l).length = l.length := by
    intro n
    induction n with
    | zero => intro l hl; rw [sb, if_pos (by omega), ssort_length]
    | succ n ih =>
      intro l hl
      rw [sb]
      split
      · exact ssort_length l
      · rw [List.length_append, ssort_length, ih _ (by rw [List.length_drop]; omega), List.length_take, List.length_drop]
        omega
  exact key _ l (Nat.le_refl _)
theorem sb_many (bs : Nat) (hb : 0 < bs) (k : Nat) : ∀ (A l : List Nat), A.length = k * bs → sb bs (A ++ l) = sb bs A ++ sb bs l := by
  induction k with
  | zero =>
    intro A l h
    obtain rfl : A = [] := List.eq_nil_of_length_eq_zero (by simpa using h)
    rw [sb_small bs [] (by simp)]
    simp [ssort]
  | succ k ih =>
    intro A l h
    have h1 : (A.take bs).length = bs := by rw [List.length_take, h, Nat.succ_mul]; omega
    have h2 : (A.drop bs).length = k * bs := by rw [List.length_drop, h, Nat.succ_mul]; omega
    rw [← List.take_append_drop bs A, List.append_assoc, sb_app bs hb _ _ h1, ih _ l h2, sb_app bs hb _ _ h1, List.append_assoc]
/-- Two blocks that are merged. -/
theorem sb_double (bs : Nat) (hb : 0 < bs) (A B : List Nat) (hA : A.length = bs) (hB : B.length ≤ bs) : ssort (sb bs (A ++ B)) = sb (2 * bs) (A ++ B) := by
  rw [sb_app bs hb A B hA, sb_small bs B hB, ssort_ssort_app, sb_small (2 * bs) (A ++ B) (by simp; omega)]

def swp (l : List Nat) (i j : Nat) : List Nat := (l.set i (l.getD j 0)).set j (l.getD i 0)
theorem swp_length (l : List Nat) (i j : Nat) : (swp l i j).length = l.length := by simp [swp]
theorem swp_mid (X Y Z : List Nat) (x y : Nat) (i j : Nat) (hi : i = X.length) (hj : j = X.length + 1 + Y.length) : swp (X ++ x :: (Y ++ y :: Z)) i j = X ++ y :: (Y ++ x :: Z) := by
  subst hi hj
  have g1 : (X ++ x :: (Y ++ y :: Z)).getD X.length 0 = x := by simp [List.getD_eq_getElem?_getD]
  have g2 : (X ++ x :: (Y ++ y :: Z)).getD (X.length + 1 + Y.length) 0 = y := by
    rw [List.getD_eq_getElem?_getD, List.getElem?_append_right (by omega)]
    have e : X.length + 1 + Y.length - X.length = Y.length + 1 := by omega
    rw [e, List.getElem?_cons_succ, List.getElem?_append_right (Nat.le_refl _)]
    simp
  unfold swp
  rw [g1, g2, List.set_append_right _ _ (Nat.le_refl _), Nat.sub_self, List.set_cons_zero, List.set_append_right _ _ (by omega)]
  have e : X.length + 1 + Y.length - X.length = Y.length + 1 := by omega
  rw [e, List.set_cons_succ, List.set_append_right _ _ (Nat.le_refl _), Nat.sub_self, List.set_cons_zero]
end Go.Proofs.YtkhoaaoddpjnpaaDoor.Sorts
