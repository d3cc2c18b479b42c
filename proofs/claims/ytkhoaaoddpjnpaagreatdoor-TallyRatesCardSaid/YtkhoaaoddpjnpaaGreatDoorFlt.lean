/- The order of 64-bit floating point numbers, as whole numbers (no program in sight). -/
import Ieee.Arith
namespace Go.Proofs.YtkhoaaoddpjnpaaGreatDoor.Flt
open Ieee

/-- The magnitude of a rung, in units of the least place. -/
def mg (r : Nat) : Nat := if r < 2 ^ 52 then r else (2 ^ 52 + r % 2 ^ 52) * 2 ^ (r / 2 ^ 52 - 1)

theorem mg_lt {r s : Nat} (h : r < s) : mg r < mg s := by
  unfold mg
  by_cases hs : s < 2 ^ 52
  · rw [if_pos (by omega), if_pos hs]; exact h
  · rw [if_neg hs]
    have hs1 : 1 ≤ s / 2 ^ 52 := by omega
    obtain ⟨e, he⟩ : ∃ e, s / 2 ^ 52 = e + 1 := ⟨s / 2 ^ 52 - 1, by omega⟩
    rw [he, Nat.add_sub_cancel]
    have hp : 0 < 2 ^ e := Nat.two_pow_pos _
    by_cases hr : r < 2 ^ 52
    · rw [if_pos hr]
      calc r < 2 ^ 52 := hr
        _ ≤ (2 ^ 52 + s % 2 ^ 52) := Nat.le_add_right _ _
        _ ≤ (2 ^ 52 + s % 2 ^ 52) * 2 ^ e := Nat.le_mul_of_pos_right _ hp
    · rw [if_neg hr]
      obtain ⟨d, hd⟩ : ∃ d, r / 2 ^ 52 = d + 1 := ⟨r / 2 ^ 52 - 1, by omega⟩
      rw [hd, Nat.add_sub_cancel]
      have hle : d ≤ e := by omega
      rcases Nat.lt_or_ge d e with hlt | hge
      · obtain ⟨k, rfl⟩ : ∃ k, e = d + 1 + k := ⟨e - d - 1, by omega⟩
        have h1 : 2 ^ (d + 1 + k) = 2 ^ d * 2 * 2 ^ k := by rw [Nat.pow_add, Nat.pow_succ]
        have hk : 0 < 2 ^ k := Nat.two_pow_pos _
        have hd0 : 0 < 2 ^ d := Nat.two_pow_pos _
        calc (2 ^ 52 + r % 2 ^ 52) * 2 ^ d < (2 ^ 52 * 2) * 2 ^ d := Nat.mul_lt_mul_of_pos_right (by omega) hd0
          _ = 2 ^ 52 * (2 ^ d * 2) := by rw [Nat.mul_assoc, Nat.mul_comm 2 (2 ^ d)]
          _ ≤ (2 ^ 52 + s % 2 ^ 52) * (2 ^ d * 2) := Nat.mul_le_mul_right _ (Nat.le_add_right _ _)
          _ ≤ (2 ^ 52 + s % 2 ^ 52) * (2 ^ d * 2) * 2 ^ k := Nat.le_mul_of_pos_right _ hk
          _ = (2 ^ 52 + s % 2 ^ 52) * 2 ^ (d + 1 + k) := by rw [h1, Nat.mul_assoc]
      · obtain rfl : d = e := by omega
        exact Nat.mul_lt_mul_of_pos_right (by omega) hp

def isneg (b : Nat) : Bool := b / 2 ^ 63 % 2 == 1
def rung (b : Nat) : Nat := b % 2 ^ 63
def inf : Nat := 9218868437227405312
/-- No number. -/
def nan (b : Nat) : Bool := decide (inf < rung b)

/-- The place in the order: no numbers ahead of all; -0 ahead of 0. -/
def key (b : Nat) : Int := if nan b then -18446744073709551616 else if isneg b then -(rung b : Int) - 1 else rung b

theorem sw : double.signWeight = 2 ^ 63 := by decide
theorem bn : double.binade = 2 ^ 52 := by decide
theorem ir : double.infRung = inf := by decide +kernel
theorem lp : double.leastPlace = -1074 := by decide

theorem read_eq (b : Nat) : double.read b =
    if rung b < 2 ^ 52 then .number (isneg b) (rung b) (-1074)
    else if rung b < inf then .number (isneg b) (2 ^ 52 + rung b % 2 ^ 52) (-1074 + (rung b / 2 ^ 52 - 1 : Nat))
    else if rung b = inf then .infinity (isneg b) else .nan (isneg b) (rung b - inf) := by
  unfold Format.read; rw [sw, bn, ir, lp]; rfl

/-- A number's magnitude and place give 'mg'. -/
theorem read_num (b : Nat) (h : rung b < inf) : ∃ m : Nat, ∃ k : Nat, double.read b = .number (isneg b) m (-1074 + (k : Int)) ∧ m * 2 ^ k = mg (rung b) := by
  rw [read_eq]
  by_cases h1 : rung b < 2 ^ 52
  · rw [if_pos h1]; exact ⟨rung b, 0, rfl, by unfold mg; rw [if_pos h1]; simp⟩
  · rw [if_neg h1, if_pos h]; exact ⟨_, _, rfl, by unfold mg; rw [if_neg h1]⟩

theorem cmp_int (a b : Int) : compare a b = if a < b then .lt else if a = b then .eq else .gt := by
  simp only [compare, compareOfLessAndEq]

theorem signed_eq (s : Bool) (m k : Nat) : signed s m k = if s then -((m * 2 ^ k : Nat) : Int) else ((m * 2 ^ k : Nat) : Int) := by
  unfold signed; rw [Nat.shiftLeft_eq]

/-- A number as an integer, in units of the least place. -/
def val (b : Nat) : Int := if isneg b then -(mg (rung b) : Int) else mg (rung b)

theorem order_num (s t : Bool) (m n j k : Nat) :
    Datum.order (.number s m (-1074 + (j : Int))) (.number t n (-1074 + (k : Int))) =
      some (compare (if s then -((m * 2 ^ j : Nat) : Int) else ((m * 2 ^ j : Nat) : Int)) (if t then -((n * 2 ^ k : Nat) : Int) else ((n * 2 ^ k : Nat) : Int))) := by
  unfold Datum.order
  dsimp only
  have hmin : min (-1074 + (j : Int)) (-1074 + (k : Int)) = -1074 + ((min j k : Nat) : Int) := by omega
  have e1 : (-1074 + (j : Int) - (-1074 + ((min j k : Nat) : Int))).toNat = j - min j k := by omega
  have e2 : (-1074 + (k : Int) - (-1074 + ((min j k : Nat) : Int))).toNat = k - min j k := by omega
  rw [hmin, e1, e2, signed_eq, signed_eq]
  have hp : (0 : Int) < ((2 ^ min j k : Nat) : Int) := by have := Nat.two_pow_pos (min j k); omega
  have f1 : ((m * 2 ^ j : Nat) : Int) = ((m * 2 ^ (j - min j k) : Nat) : Int) * ((2 ^ min j k : Nat) : Int) := by
    rw [← Int.natCast_mul, Nat.mul_assoc, ← Nat.pow_add]; congr 3; omega
  have f2 : ((n * 2 ^ k : Nat) : Int) = ((n * 2 ^ (k - min j k) : Nat) : Int) * ((2 ^ min j k : Nat) : Int) := by
    rw [← Int.natCast_mul, Nat.mul_assoc, ← Nat.pow_add]; congr 3; omega
  rw [f1, f2]
  generalize ((m * 2 ^ (j - min j k) : Nat) : Int) = x
  generalize ((n * 2 ^ (k - min j k) : Nat) : Int) = y
  generalize ((2 ^ min j k : Nat) : Int) = p at hp
  have g1 : (if s = true then -(x * p) else x * p) = (if s = true then -x else x) * p := by split <;> simp [Int.neg_mul]
  have g2 : (if t = true then -(y * p) else y * p) = (if t = true then -y else y) * p := by split <;> simp [Int.neg_mul]
  rw [g1, g2]
  generalize (if s = true then -x else x) = u
  generalize (if t = true then -y else y) = v
  congr 1
  rw [cmp_int, cmp_int]
  have l1 : u * p < v * p ↔ u < v := Int.mul_lt_mul_right hp
  have l2 : u * p = v * p ↔ u = v := by
    constructor
    · intro h; exact Int.eq_of_mul_eq_mul_right (by omega) h
    · intro h; rw [h]
  simp only [l1, l2]

theorem mg_lt_iff {r s : Nat} : mg r < mg s ↔ r < s := by
  constructor
  · intro h
    rcases Nat.lt_trichotomy r s with h1 | h1 | h1
    · exact h1
    · subst h1; omega
    · have := mg_lt h1; omega
  · exact mg_lt

theorem mg_zero : mg 0 = 0 := by unfold mg; rfl

/-- What is a number's order: by 'val', infinities among them. -/
theorem order_eq (a b : Nat) (ha : nan a = false) (hb : nan b = false) : double.order a b = some (compare (val a) (val b)) := by
  have ha' : rung a ≤ inf := by simpa [nan] using ha
  have hb' : rung b ≤ inf := by simpa [nan] using hb
  have h0 : ∀ m : Nat, mg m = 0 ↔ m = 0 := by
    intro m
    constructor
    · intro h
      rcases Nat.eq_zero_or_pos m with h1 | h1
      · exact h1
      · have := mg_lt h1; omega
    · rintro rfl; exact mg_zero
  have hinf : ∀ x, rung x = inf → double.read x = .infinity (isneg x) := fun x hx => by
    rw [read_eq, if_neg (by rw [hx]; decide +kernel), if_neg (by omega), if_pos hx]
  have hip : (0 : Int) < mg inf := by
    have h : mg 0 < mg inf := mg_lt (by decide)
    rw [mg_zero] at h; exact_mod_cast h
  have hx0 : (0 : Int) ≤ mg (rung a) := by omega
  have hy0 : (0 : Int) ≤ mg (rung b) := by omega
  unfold Format.order
  rcases Nat.lt_or_ge (rung a) inf with h1 | h1
  · obtain ⟨m, j, e1, f1⟩ := read_num a h1
    have hma : (mg (rung a) : Int) < mg inf := by exact_mod_cast mg_lt h1
    rcases Nat.lt_or_ge (rung b) inf with h2 | h2
    · obtain ⟨n, k, e2, f2⟩ := read_num b h2
      rw [e1, e2, order_num, f1, f2]; rfl
    · have h2' : rung b = inf := by omega
      rw [e1, hinf b h2']
      unfold Datum.order val
      rw [cmp_int, h2']
      generalize (mg inf : Int) = M at *
      generalize (mg (rung a) : Int) = x at *
      have hx : 0 ≤ x := hx0
      cases isneg b <;> cases isneg a <;> simp only [Bool.false_eq_true, if_false, if_true] <;> first | (rw [if_pos (by omega)]) | (rw [if_neg (by omega), if_neg (by omega)])
  · have h1' : rung a = inf := by omega
    rcases Nat.lt_or_ge (rung b) inf with h2 | h2
    · obtain ⟨n, k, e2, f2⟩ := read_num b h2
      have hmb : (mg (rung b) : Int) < mg inf := by exact_mod_cast mg_lt h2
      rw [hinf a h1', e2]
      unfold Datum.order val
      rw [cmp_int, h1']
      generalize (mg inf : Int) = M at *
      generalize (mg (rung b) : Int) = x at *
      have hx : 0 ≤ x := hy0
      cases isneg b <;> cases isneg a <;> simp only [Bool.false_eq_true, if_false, if_true] <;> first | (rw [if_pos (by omega)]) | (rw [if_neg (by omega), if_neg (by omega)])
    · have h2' : rung b = inf := by omega
      rw [hinf a h1', hinf b h2']
      unfold Datum.order val
      rw [cmp_int, h1', h2']
      generalize (mg inf : Int) = M at *
      cases isneg b <;> cases isneg a <;> simp only [Bool.false_eq_true, if_false, if_true] <;> first | (rw [if_pos (by omega)]; decide) | (rw [if_neg (by omega), if_neg (by omega)]; decide) | (rw [if_neg (by omega), if_pos rfl]; decide) | (simp only [Int.lt_irrefl, if_false]; decide)

theorem order_nan (a b : Nat) (h : nan a = true ∨ nan b = true) : double.order a b = none := by
  have hr : ∀ x, nan x = true → ∃ s f, double.read x = .nan s f := fun x hx => by
    have hx' : inf < rung x := by simpa [nan] using hx
    have h52 : 2 ^ 52 < inf := by decide
    exact ⟨isneg x, rung x - inf, by rw [read_eq, if_neg (by omega), if_neg (by omega), if_neg (by omega)]⟩
  unfold Format.order
  rcases h with h | h
  · obtain ⟨s, f, e⟩ := hr a h
    rw [e]; rfl
  · obtain ⟨s, f, e⟩ := hr b h
    rw [e]; unfold Datum.order; split <;> first | rfl | simp_all

theorem ne_self (a : Nat) : (double.order a a != some .eq) = nan a := by
  cases h : nan a
  · rw [order_eq a a h h, cmp_int, if_neg (by omega), if_pos rfl]; rfl
  · rw [order_nan a a (.inl h)]; rfl

theorem lt_num (a b : Nat) (ha : nan a = false) (hb : nan b = false) : (double.order a b == some .lt) = decide (val a < val b) := by
  rw [order_eq a b ha hb, cmp_int]
  by_cases h : val a < val b
  · rw [if_pos h, decide_eq_true h]; rfl
  · rw [if_neg h, decide_eq_false h]; split <;> rfl
theorem gt_num (a b : Nat) (ha : nan a = false) (hb : nan b = false) : (double.order a b == some .gt) = decide (val b < val a) := by
  rw [order_eq a b ha hb, cmp_int]
  by_cases h : val b < val a
  · rw [if_neg (by omega), if_neg (by omega), decide_eq_true h]; rfl
  · rw [decide_eq_false h]; split
    · rfl
    · rw [if_pos (by omega)]; rfl
theorem eq_num (a b : Nat) (ha : nan a = false) (hb : nan b = false) : (double.order a b == some .eq) = decide (val a = val b) := by
  rw [order_eq a b ha hb, cmp_int]
  by_cases h : val b = val a
  · rw [if_neg (by omega), if_pos h.symm, decide_eq_true h.symm]; rfl
  · rw [decide_eq_false (fun e => h e.symm)]; split
    · rfl
    · rw [if_neg (fun e => h e.symm)]; rfl

theorem val_lt (a b : Nat) (ha : nan a = false) (hb : nan b = false) : val a < val b ↔ key a < key b ∧ ¬ (rung a = 0 ∧ rung b = 0) := by
  have h1 := @mg_lt_iff (rung a) (rung b)
  have h2 := @mg_lt_iff (rung b) (rung a)
  have h3 := @mg_lt_iff 0 (rung a)
  have h4 := @mg_lt_iff 0 (rung b)
  rw [mg_zero] at h3 h4
  unfold val key
  rw [ha, hb]
  generalize mg (rung a) = x at *
  generalize mg (rung b) = y at *
  generalize rung a = r at *
  generalize rung b = s at *
  cases isneg a <;> cases isneg b <;> simp only [Bool.false_eq_true, if_false, if_true] <;> omega

theorem val_zero (a : Nat) : val a = 0 ↔ rung a = 0 := by
  have h3 := @mg_lt_iff 0 (rung a)
  rw [mg_zero] at h3
  unfold val
  generalize mg (rung a) = x at *
  cases isneg a <;> simp only [Bool.false_eq_true, if_false, if_true] <;> omega

/-- The order of the document. -/
def cmpF (a b : Nat) : Int := if key a < key b then -1 else if key b < key a then 1 else 0
/-- cmp.Compare's order. -/
def cmp0 (a b : Nat) : Int := if nan a then (if nan b then 0 else -1) else if nan b then 1 else if val a < val b then -1 else if val b < val a then 1 else 0
/-- A nought. -/
def nought (a : Nat) : Bool := !nan a && decide (rung a = 0)

theorem rung_lt (a : Nat) : rung a < 9223372036854775808 := Nat.mod_lt _ (by decide)

theorem key_nan (a : Nat) (h : nan a = true) : key a = -18446744073709551616 := by unfold key; rw [h]; rfl
theorem key_num (a : Nat) (h : nan a = false) : -9223372036854775809 ≤ key a ∧ key a ≤ 9223372036854775807 := by
  have := rung_lt a
  unfold key; rw [h]
  cases isneg a <;> simp only [Bool.false_eq_true, if_false, if_true] <;> omega

theorem cmp0_eq (a b : Nat) (h : cmp0 a b ≠ 0 ∨ nought a = false) : cmp0 a b = cmpF a b := by
  unfold cmp0 cmpF at *
  cases ha : nan a <;> cases hb : nan b <;> simp only [ha, hb, Bool.false_eq_true, if_false, if_true] at h ⊢
  · have h1 := val_lt a b ha hb
    have h2 := val_lt b a hb ha
    by_cases hz : rung a = 0 ∧ rung b = 0
    · have : nought a = true := by simp [nought, ha, hz.1]
      rw [if_neg (by omega), if_neg (by omega)] at h
      simp [this] at h
    · by_cases c : key a < key b
      · rw [if_pos (h1.2 ⟨c, hz⟩), if_pos c]
      · rw [if_neg (fun e => c (h1.1 e).1), if_neg c]
        by_cases d : key b < key a
        · rw [if_pos (h2.2 ⟨d, fun e => hz ⟨e.2, e.1⟩⟩), if_pos d]
        · rw [if_neg (fun e => d (h2.1 e).1), if_neg d]
  · have := key_nan b hb
    have := key_num a ha
    rw [if_neg (by omega), if_pos (by omega)]
  · have := key_nan a ha
    have := key_num b hb
    rw [if_pos (by omega)]
  · rw [key_nan a ha, key_nan b hb]; rfl

theorem cmp0_zero (a b : Nat) (h : cmp0 a b = 0) (hz : nought a = true) : cmpF a b = if isneg a = isneg b then 0 else if isneg a then -1 else 1 := by
  have ha : nan a = false := by cases h' : nan a <;> simp_all [nought]
  have hr : rung a = 0 := by simpa [nought, ha] using hz
  unfold cmp0 at h
  cases hb : nan b
  · simp only [ha, hb, Bool.false_eq_true, if_false] at h
    have h1 := val_lt a b ha hb
    have h2 := val_lt b a hb ha
    have hv : val a = val b := by
      by_cases c : val a < val b
      · rw [if_pos c] at h; omega
      · by_cases d : val b < val a
        · rw [if_neg c, if_pos d] at h; omega
        · omega
    have hs : rung b = 0 := (val_zero b).1 (hv ▸ (val_zero a).2 hr)
    unfold cmpF key
    rw [ha, hb, hr, hs]
    cases isneg a <;> cases isneg b <;> rfl
  · simp [ha, hb] at h

theorem cmpF_lt (a b : Nat) : cmpF a b < 0 ↔ key a < key b := by unfold cmpF; (split <;> first | omega | (split <;> omega))
theorem cmpF_gt (a b : Nat) : 0 < cmpF a b ↔ key b < key a := by unfold cmpF; (split <;> first | omega | (split <;> omega))
theorem cmpF_zero (a b : Nat) : cmpF a b = 0 ↔ key a = key b := by unfold cmpF; (split <;> first | omega | (split <;> omega))
theorem cmpF_range (a b : Nat) : -1 ≤ cmpF a b ∧ cmpF a b ≤ 1 := by unfold cmpF; (split <;> first | omega | (split <;> omega))

/-- Ahead. -/
def ahd (a b : Nat) : Bool := decide (key a < key b)

theorem ahd_nan (a b : Nat) (h : nan a = true ∨ nan b = true) : ahd a b = (nan a && !nan b) := by
  unfold ahd
  cases ha : nan a <;> cases hb : nan b
  · simp [ha, hb] at h
  · have := key_nan b hb; have := key_num a ha
    rw [decide_eq_false (by omega)]; rfl
  · have := key_nan a ha; have := key_num b hb
    rw [decide_eq_true (by omega)]; rfl
  · rw [key_nan a ha, key_nan b hb]; rfl
theorem ahd_nought (a b : Nat) (ha : nought a = true) (hb : nought b = true) : ahd a b = (isneg a && !isneg b) := by
  have h : ∀ x, nought x = true → nan x = false ∧ rung x = 0 := fun x hx => by
    cases hn : nan x <;> simp_all [nought]
  unfold ahd key
  rw [(h a ha).1, (h b hb).1, (h a ha).2, (h b hb).2]
  cases isneg a <;> cases isneg b <;> rfl
theorem ahd_num (a b : Nat) (ha : nan a = false) (hb : nan b = false) (h : nought a = false ∨ nought b = false) : ahd a b = (double.order a b == some .lt) := by
  rw [lt_num a b ha hb]
  unfold ahd
  have := val_lt a b ha hb
  have hz : ¬ (rung a = 0 ∧ rung b = 0) := by
    rintro ⟨h1, h2⟩
    simp [nought, ha, hb, h1, h2] at h
  rw [Bool.eq_iff_iff, decide_eq_true_eq, decide_eq_true_eq, this]
  exact ⟨fun h => ⟨h, hz⟩, fun h => h.1⟩

theorem key_inj (a b : Nat) (ha : a < 18446744073709551616) (hb : b < 18446744073709551616) (h : key a = key b) : a = b ∨ (nan a = true ∧ nan b = true) := by
  cases hna : nan a <;> cases hnb : nan b
  · left
    unfold key at h
    rw [hna, hnb] at h
    have ea : isneg a = decide (9223372036854775808 ≤ a) := by unfold isneg; rw [Bool.eq_iff_iff]; simp; omega
    have eb : isneg b = decide (9223372036854775808 ≤ b) := by unfold isneg; rw [Bool.eq_iff_iff]; simp; omega
    have ra : rung a = a % 9223372036854775808 := rfl
    have rb : rung b = b % 9223372036854775808 := rfl
    rw [ea, eb, ra, rb] at h
    simp only [Bool.false_eq_true, if_false, decide_eq_true_eq] at h
    split at h <;> split at h <;> omega
  · have := key_nan b hnb; have := key_num a hna; omega
  · have := key_nan a hna; have := key_num b hnb; omega
  · exact .inr ⟨rfl, rfl⟩

theorem gt_max (x : Nat) (hx : x < 18446744073709551616) : (double.order x 9218868437227405311 == some .gt) = decide (x = 9218868437227405312) := by
  cases hn : nan x
  · have hm : nan 9218868437227405311 = false := by decide +kernel
    rw [gt_num x _ hn hm]
    have h1 := val_lt 9218868437227405311 x hm hn
    have hr : rung 9218868437227405311 = 9218868437227405311 := by decide +kernel
    have hk : key 9218868437227405311 = 9218868437227405311 := by decide +kernel
    rw [hr, hk] at h1
    rw [Bool.eq_iff_iff, decide_eq_true_eq, decide_eq_true_eq, h1]
    have ex : isneg x = decide (9223372036854775808 ≤ x) := by unfold isneg; rw [Bool.eq_iff_iff]; simp; omega
    have rx : rung x = x % 9223372036854775808 := rfl
    have hi : rung x ≤ 9218868437227405312 := by have h2 : ¬ (inf < rung x) := of_decide_eq_false hn; unfold inf at h2; omega
    have hkx : key x = if 9223372036854775808 ≤ x then -(rung x : Int) - 1 else rung x := by
      unfold key; rw [hn, ex]; simp only [Bool.false_eq_true, if_false, decide_eq_true_eq]
    rw [hkx]
    split <;> omega
  · rw [order_nan x _ (.inl hn)]
    have : x ≠ 9218868437227405312 := by rintro rfl; revert hn; decide +kernel
    rw [decide_eq_false this]; rfl

theorem xor_lt (x : Nat) (hx : x < 18446744073709551616) : x ^^^ 9223372036854775808 < 18446744073709551616 := Nat.xor_lt_two_pow (n := 64) hx (by decide)
theorem xor_inf (x : Nat) : x ^^^ 9223372036854775808 = 9218868437227405312 ↔ x = 18442240474082181120 := by
  constructor
  · intro h
    have : x = (x ^^^ 9223372036854775808) ^^^ 9223372036854775808 := by rw [Nat.xor_assoc, Nat.xor_self, Nat.xor_zero]
    rw [this, h]
    decide +kernel
  · rintro rfl; decide +kernel
end Go.Proofs.YtkhoaaoddpjnpaaGreatDoor.Flt
