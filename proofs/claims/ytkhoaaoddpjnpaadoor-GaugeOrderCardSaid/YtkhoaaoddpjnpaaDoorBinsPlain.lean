/- How many numbers fall between edges: plain lists (no program in sight). -/
import Derived.Test.YtkhoaaoddpjnpaaDoorFlt
namespace Go.Proofs.YtkhoaaoddpjnpaaDoor.Bins
open Go.Proofs.YtkhoaaoddpjnpaaDoor.Flt

/-- The place of the first edge that isn't ahead of x. -/
def pos : List Nat → Nat → Nat
  | [], _ => 0
  | e :: es, x => if ahd e x then pos es x + 1 else 0

theorem pos_le (es : List Nat) (x : Nat) : pos es x ≤ es.length := by
  induction es with
  | nil => exact Nat.le_refl _
  | cons e es ih => unfold pos; split <;> simp <;> omega

theorem pos_eq (es : List Nat) (x j : Nat) (h : ∀ (i : Nat) e, i < j → es[i]? = some e → ahd e x = true) (hj : j ≤ es.length) (hs : ∀ e, es[j]? = some e → ahd e x = false) : pos es x = j := by
  induction es generalizing j with
  | nil => simp at hj; subst hj; rfl
  | cons e es ih =>
    cases j with
    | zero => unfold pos; rw [hs e rfl]; rfl
    | succ j =>
      unfold pos
      rw [if_pos (h 0 e (by omega) rfl), ih j (fun i e' hi he => h (i + 1) e' (by omega) (by simpa using he)) (by simpa using hj) (fun e' he => hs e' (by simpa using he))]

def bump (l : List Int) (k : Nat) : List Int := l.set k (l.getD k 0 + 1)
theorem bump_length (l : List Int) (k : Nat) : (bump l k).length = l.length := by simp [bump]
def bins (es l : List Nat) : List Int := l.foldl (fun acc x => bump acc (pos es x)) (List.replicate (es.length + 1) 0)

theorem bins_nil (es : List Nat) : bins es [] = List.replicate (es.length + 1) 0 := rfl
theorem bins_snoc (es l : List Nat) (x : Nat) : bins es (l ++ [x]) = bump (bins es l) (pos es x) := by simp [bins]
theorem foldl_length (es l : List Nat) (acc : List Int) : (l.foldl (fun acc x => bump acc (pos es x)) acc).length = acc.length := by
  induction l generalizing acc with
  | nil => rfl
  | cons x l ih => simp [ih, bump_length]
theorem bins_length (es l : List Nat) : (bins es l).length = es.length + 1 := by simp [bins, foldl_length]
theorem bins_take (es l : List Nat) (i x : Nat) (h : l[i]? = some x) : bins es (l.take (i + 1)) = bump (bins es (l.take i)) (pos es x) := by
  have hi : i < l.length := by
    rcases Nat.lt_or_ge i l.length with hl | hl
    · exact hl
    · rw [List.getElem?_eq_none hl] at h; cases h
  rw [List.take_succ_eq_append_getElem hi, bins_snoc]
  rw [List.getElem?_eq_getElem hi] at h
  cases h; rfl

theorem bump_bound (l : List Int) (k n : Nat) (h : ∀ (j : Nat) c, l[j]? = some c → 0 ≤ c ∧ c ≤ n) : ∀ (j : Nat) c, (bump l k)[j]? = some c → 0 ≤ c ∧ c ≤ (n : Int) + 1 := by
  intro j c hc
  unfold bump at hc
  rw [List.getElem?_set] at hc
  split at hc
  · split at hc
    · rename_i hk
      cases hc
      have := h k (l.getD k 0) (by rw [List.getD_eq_getElem?_getD, List.getElem?_eq_getElem hk]; rfl)
      omega
    · cases hc
  · have := h j c hc; omega
theorem bins_bound (es l : List Nat) : ∀ (j : Nat) c, (bins es l)[j]? = some c → 0 ≤ c ∧ c ≤ (l.length : Int) := by
  have key : ∀ (m : Nat) (r : List Nat), r.length = m → ∀ (j : Nat) c, (bins es r)[j]? = some c → 0 ≤ c ∧ c ≤ (r.length : Int) := by
    intro m
    induction m with
    | zero =>
      intro r hr j c hc
      obtain rfl : r = [] := List.eq_nil_of_length_eq_zero hr
      rw [bins_nil, List.getElem?_replicate] at hc
      split at hc
      · cases hc; simp
      · cases hc
    | succ m ih =>
      intro r hr j c hc
      have hne : r ≠ [] := by rintro rfl; simp at hr
      rw [← List.dropLast_concat_getLast hne, bins_snoc] at hc
      have h1 : r.dropLast.length = m := by simp [hr]
      have := bump_bound _ _ r.dropLast.length (fun j c hc => ih r.dropLast h1 j c hc) j c hc
      omega
  exact key l.length l rfl

theorem sum_bump (l : List Int) (k : Nat) (h : k < l.length) : (bump l k).sum = l.sum + 1 := by
  induction l generalizing k with
  | nil => simp at h
  | cons a l ih =>
    cases k with
    | zero => simp [bump]; omega
    | succ k =>
      have := ih k (by simpa using h)
      unfold bump at this ⊢
      simp at this ⊢
      omega
theorem bins_sum (es l : List Nat) : (bins es l).sum = l.length := by
  have key : ∀ (m : Nat) (r : List Nat), r.length = m → (bins es r).sum = r.length := by
    intro m
    induction m with
    | zero =>
      intro r hr
      obtain rfl : r = [] := List.eq_nil_of_length_eq_zero hr
      rw [bins_nil]
      simp
    | succ m ih =>
      intro r hr
      have hne : r ≠ [] := by rintro rfl; simp at hr
      have h1 : r.dropLast.length = m := by simp [hr]
      rw [← List.dropLast_concat_getLast hne, bins_snoc, sum_bump _ _ (by rw [bins_length]; have := pos_le es (r.getLast hne); omega), ih r.dropLast h1]
      simp
  exact key l.length l rfl

/-- The sum of the first so many. -/
def upTo (l : List Int) (k : Nat) : Int := (l.take k).sum
theorem upTo_zero (l : List Int) : upTo l 0 = 0 := rfl
theorem upTo_succ (l : List Int) (k : Nat) (c : Int) (h : l[k]? = some c) : upTo l (k + 1) = upTo l k + c := by
  have hi : k < l.length := by
    rcases Nat.lt_or_ge k l.length with hl | hl
    · exact hl
    · rw [List.getElem?_eq_none hl] at h; cases h
  unfold upTo
  rw [List.take_succ_eq_append_getElem hi]
  rw [List.getElem?_eq_getElem hi] at h
  cases h
  simp only [List.sum_append, List.sum_cons, List.sum_nil, Int.add_zero]
theorem upTo_bound (l : List Int) (n : Nat) (h : ∀ (j : Nat) c, l[j]? = some c → 0 ≤ c ∧ c ≤ (n : Int)) (k : Nat) (hk : k ≤ l.length) : 0 ≤ upTo l k ∧ upTo l k ≤ n * k := by
  induction k with
  | zero => simp [upTo]
  | succ k ih =>
    have hc := List.getElem?_eq_getElem (l := l) (i := k) (by omega)
    rw [upTo_succ l k _ hc]
    have h1 := ih (by omega)
    have h2 := h k _ hc
    have h3 : (n : Int) * ((k + 1 : Nat) : Int) = n * k + n := by rw [Int.natCast_add, Int.mul_add]; simp
    omega
theorem upTo_all (l : List Int) : upTo l l.length = l.sum := by simp [upTo]
end Go.Proofs.YtkhoaaoddpjnpaaDoor.Bins
