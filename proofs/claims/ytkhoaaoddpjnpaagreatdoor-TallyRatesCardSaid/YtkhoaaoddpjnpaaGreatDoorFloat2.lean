/- Division by nought; sums by keys (no program in sight but for one law of the walk). -/
import Derived.Test.YtkhoaaoddpjnpaaGreatDoorRatio
namespace Go.Proofs.YtkhoaaoddpjnpaaGreatDoor.Float2
open Go Go.RowKit Go.Proofs.YtkhoaaoddpjnpaaGreatDoor Go.Proofs.YtkhoaaoddpjnpaaGreatDoor.Flt Go.Proofs.YtkhoaaoddpjnpaaGreatDoor.Ratio
open Ieee

theorem word_neg (n : Bool) (r : Nat) (h : r < 2 ^ 63) : isneg (double.word n r) = n ∧ rung (double.word n r) = r := by
  unfold Format.word isneg rung
  rw [sw]
  cases n
  · refine ⟨?_, ?_⟩
    · rw [if_neg (by decide)]
      have : r / 2 ^ 63 = 0 := Nat.div_eq_of_lt h
      rw [this]; rfl
    · rw [if_neg (by decide)]; exact Nat.mod_eq_of_lt h
  · refine ⟨?_, ?_⟩
    · rw [if_pos rfl]
      have : (2 ^ 63 + r) / 2 ^ 63 = 1 := by omega
      rw [this]; rfl
    · rw [if_pos rfl]; omega

theorem nearest_int (n : Bool) (m : Nat) (hm : m ≠ 0) : ∃ r, double.nearest n m 0 = double.word n r ∧ 0 < r ∧ r ≤ inf := by
  unfold Format.nearest
  rw [if_neg hm]
  refine ⟨_, rfl, ?_, ?_⟩
  · rw [lp, bn, ir]
    have h : (1 : Nat) ≤ (max ((0 : Int) + m.log2 - double.fractionBits) (-1074) - -1074).toNat := by
      have : double.fractionBits = 52 := rfl
      rw [this]; omega
    refine Nat.lt_min.2 ⟨?_, by decide⟩
    have h2 := Nat.mul_le_mul_right (2 ^ 52) h
    omega
  · rw [ir]; exact Nat.min_le_right _ _

theorem nought_int : floatOfInt .f64 0 = 0 := by decide +kernel
theorem read_zero : double.read 0 = .number false 0 (-1074) := by decide +kernel

/-- A whole number that isn't nought, divided by nought: an infinity of its sign. -/
theorem div_nought (a : Int) (ha : a ≠ 0) : double.div (floatOfInt .f64 a) 0 = some (double.word (decide (a < 0)) inf) := by
  have e : floatOfInt .f64 a = double.nearest (decide (a < 0)) a.natAbs 0 := rfl
  obtain ⟨r, hr, h0, h1⟩ := nearest_int (decide (a < 0)) a.natAbs (by omega)
  rw [e, hr]
  obtain ⟨hs, hg⟩ := word_neg (decide (a < 0)) r (by have : inf < 2 ^ 63 := by decide
                                                     omega)
  unfold Format.div
  rw [read_zero]
  generalize double.word (decide (a < 0)) r = x at *
  generalize decide (a < 0) = s at *
  have hw : double.write (.infinity (s ^^ false)) = double.word s inf := by
    unfold Format.write; rw [ir, Bool.xor_false]
  by_cases hi : r = inf
  · have hx : double.read x = .infinity s := by
      rw [read_eq, hg, hs, hi]
      rw [if_neg (by decide), if_neg (Nat.lt_irrefl _), if_pos rfl]
    rw [hx]
    show some (double.write (.infinity (s ^^ false))) = _
    rw [hw]
  · obtain ⟨m, k, hx, hk⟩ := read_num x (by rw [hg]; omega)
    rw [hx, hs]
    have hm : m ≠ 0 := by
      intro h0'
      subst h0'
      rw [Nat.zero_mul, hg] at hk
      have := mg_lt h0
      rw [mg_zero] at this
      omega
    simp [Datum.quotient, hm]
    rw [← hw, Bool.xor_false]

theorem rkey_nought (a : Int) (ha : a ≠ 0) : rkey a 0 = key (double.word (decide (a < 0)) inf) := by
  unfold rkey
  rw [nought_int, div_nought a ha]; rfl
theorem rkey_pos (a : Int) (ha : 0 < a) : rkey a 0 = key 9218868437227405312 := by
  rw [rkey_nought a (by omega), decide_eq_false (by omega)]; rfl
theorem rkey_neg (a : Int) (ha : a < 0) : rkey a 0 = key 18442240474082181120 := by
  rw [rkey_nought a (by omega), decide_eq_true ha]; rfl

/-- A number of a key. -/
theorem same_of_key {a b : Nat} (ha : a < 18446744073709551616) (hb : b < 18446744073709551616) (h : key a = key b) : a = b ∨ (nan a = true ∧ nan b = true) := key_inj a b ha hb h
theorem read_nan (a : Nat) (h : nan a = true) : ∃ s t, double.read a = .nan s t := by
  rw [read_eq]
  have h' : inf < rung a := of_decide_eq_true h
  have hi : 2 ^ 52 ≤ inf := by decide
  rw [if_neg (by omega), if_neg (by omega), if_neg (by omega)]
  exact ⟨_, _, rfl⟩
theorem add_nan_left (a b : Nat) (h : nan a = true) : double.add a b = none := by
  obtain ⟨s, t, e⟩ := read_nan a h
  unfold Format.add
  rw [e]
  rfl
theorem add_nan_right (a b : Nat) (h : nan b = true) : double.add a b = none := by
  obtain ⟨s, t, e⟩ := read_nan b h
  unfold Format.add
  rw [e]
  cases double.read a <;> rfl
theorem div_nan_left (a b : Nat) (h : nan a = true) : double.div a b = none := by
  obtain ⟨s, t, e⟩ := read_nan a h
  unfold Format.div
  rw [e]
  rfl

/-- What is added depends on the keys alone. -/
theorem add_key {a a' b b' : Nat} (ha : a < 18446744073709551616) (ha' : a' < 18446744073709551616) (hb : b < 18446744073709551616) (hb' : b' < 18446744073709551616) (h : key a = key a') (k : key b = key b') :
    keyOp (double.add a b) = keyOp (double.add a' b') := by
  rcases key_inj a a' ha ha' h with rfl | ⟨h1, h2⟩
  · rcases key_inj b b' hb hb' k with rfl | ⟨h3, h4⟩
    · rfl
    · rw [add_nan_right _ _ h3, add_nan_right _ _ h4]
  · rw [add_nan_left _ _ h1, add_nan_left _ _ h2]
theorem div_key {a a' b : Nat} (ha : a < 18446744073709551616) (ha' : a' < 18446744073709551616) (h : key a = key a') : keyOp (double.div a b) = keyOp (double.div a' b) := by
  rcases key_inj a a' ha ha' h with rfl | ⟨h1, h2⟩
  · rfl
  · rw [div_nan_left _ _ h1, div_nan_left _ _ h2]

theorem run_add (t : TypeId) (x y : Nat) (w : World) : ∃ r n, (binOp .add t (.float .f64 x) (.float .f64 y)).run Tryz.prog w = .ok (.float .f64 r) (w.drewN n) ∧ key r = keyOp (double.add x y) ∧ r < 18446744073709551616 := by
  cases h : double.add x y with
  | some r =>
    refine ⟨r, 0, run_float_arith w .add t .f64 x y r h, rfl, ?_⟩
    exact double.add_lt h
  | none =>
    have hc := nan_cut x y (w.tape w.drawn (Question.nanBits .f64 x y))
    refine ⟨_, 1, ?_, key_nan _ hc.1, hc.2⟩
    have h' : FloatKind.f64.format.add x y = none := h
    simp [binOp, Op.floatArith, h']
    rfl

/-- A number of the key k (some one of it, where it is no number). -/
noncomputable def pick (k : Int) : Nat := Classical.epsilon fun a => a < 18446744073709551616 ∧ key a = k
theorem pick_spec {a : Nat} (ha : a < 18446744073709551616) : pick (key a) < 18446744073709551616 ∧ key (pick (key a)) = key a :=
  Classical.epsilon_spec (p := fun b => b < 18446744073709551616 ∧ key b = key a) ⟨a, ha, rfl⟩
/-- The sum's key, from the key at hand on. -/
noncomputable def sumK (k : Int) (l : List Nat) : Int := l.foldl (fun k x => keyOp (double.add (pick k) x)) k
theorem sumK_snoc (k : Int) (l : List Nat) (x : Nat) : sumK k (l ++ [x]) = keyOp (double.add (pick (sumK k l)) x) := by
  unfold sumK; rw [List.foldl_append]; rfl
theorem sumK_next {k : Int} {l : List Nat} {i x s : Nat} (hx : l[i]? = some x) (hx64 : x < 18446744073709551616) (hs : s < 18446744073709551616) (hk : key s = sumK k (l.take i)) : keyOp (double.add s x) = sumK k (l.take (i + 1)) := by
  obtain ⟨hi, rfl⟩ := List.getElem?_eq_some_iff.1 hx
  rw [List.take_succ_eq_append_getElem hi, sumK_snoc, ← hk]
  have hp := pick_spec hs
  exact add_key hs hp.1 hx64 hx64 hp.2.symm rfl
end Go.Proofs.YtkhoaaoddpjnpaaGreatDoor.Float2
