/- The functions that compare 64-bit floating point numbers, walked: each answers by the order of Flt. -/
import Derived.Test.YtkhoaaoddpjnpaaGreatDoorProg
import Derived.Test.YtkhoaaoddpjnpaaGreatDoorFlt
import Derived.WalkKit
import Derived.WalkLawsBesides
import Derived.Outline
import Derived.Lib.Hide
namespace Go.Proofs.YtkhoaaoddpjnpaaGreatDoor.Cmp
open Go Go.RowKit Go.Proofs.YtkhoaaoddpjnpaaGreatDoor Go.Proofs.YtkhoaaoddpjnpaaGreatDoor.Flt

theorem ret_bool {a b : Bool} (h : a = b) : Ending.returned (.bool a) = .returned (.bool b) := by rw [h]
theorem ret_int {k : IntKind} {a b : Int} (h : a = b) : Ending.returned (.int k a) = .returned (.int k b) := by rw [h]

theorem fmt64 : FloatKind.f64.format = Ieee.double := rfl

theorem isNaN_any (a : Nat) (w : World) : Calls Tryz.prog 47 #[.float .f64 a] w fun e w' => e = .returned (.bool (nan a)) ∧ w = w' := by
  go_enter Tryz.func47, Tryz.ntmps47
  go_wp2
  go_ret
  exact ⟨ret_bool (ne_self a), rfl⟩
theorem none_any (a : Nat) (w : World) : Calls Tryz.prog 18 #[.float .f64 a] w fun e w' => e = .returned (.bool (nan a)) ∧ w = w' := by
  go_enter Tryz.func18, Tryz.ntmps18
  go_wp2
  go_ret
  exact ⟨ret_bool (ne_self a), rfl⟩
theorem mnan_any (a : Nat) (w : World) : Calls Tryz.prog 40 #[.float .f64 a] w fun e w' => e = .returned (.bool (nan a)) ∧ w = w' := by
  go_enter Tryz.func40, Tryz.ntmps40
  go_wp2
  go_ret
  exact ⟨ret_bool (ne_self a), rfl⟩


theorem run_f64bits (a : Nat) (w : World) : (callFunc 17 #[.float .f64 a]).run Tryz.prog w = .ok (.value (.int .u64 a)) w := by
  rw [run_callFunc_extern (e := Extern.MathFloatBits.float64bits) Tryz.func17 (by kernel_rfl) (by kernel_rfl) (by kernel_rfl) (by kernel_rfl)]; rfl

theorem signbit_any (a : Nat) (ha : a < 18446744073709551616) (w : World) : Calls Tryz.prog 34 #[.float .f64 a] w fun e w' => e = .returned (.bool (isneg a)) ∧ w = w' := by
  have H := Lib.hid ha
  clear ha
  have hb := run_f64bits a
  go_enter Tryz.func34, Tryz.ntmps34
  go_wp2
  go_ret
  refine ⟨ret_bool ?_, rfl⟩
  have h := H.out
  unfold wrap64 isneg
  rw [Bool.eq_iff_iff]
  simp only [decide_eq_true_eq, beq_iff_eq]
  omega

theorem cmp_any (a b : Nat) (w : World) : Calls Tryz.prog 33 #[.float .f64 a, .float .f64 b] w fun e w' => e = .returned (.int .i64 (cmp0 a b)) ∧ w = w' := by
  cases ha : nan a <;> cases hb : nan b
  · have h1 := lt_num a b ha hb
    have h2 := gt_num a b ha hb
    have G1 := Lib.hid h1; clear h1
    have G2 := Lib.hid h2; clear h2
    go_enter Tryz.func33, Tryz.ntmps33
    go_wp2_with (first | (go_at_call 47; refine (isNaN_any _ _).mono ?_; rintro e w' ⟨rfl, rfl⟩))
    all_goals
      go_ret
      refine ⟨ret_int ?_, rfl⟩
      have h1 := G1.out
      have h2 := G2.out
      unfold cmp0
      rw [ha, hb]
      first | (rw [show (Ieee.double.order a b == some Ordering.lt) = true from by assumption] at h1) | (rw [show (Ieee.double.order a b == some Ordering.lt) = false from by assumption] at h1)
      have h1' := h1.symm
      simp only [decide_eq_true_eq, decide_eq_false_iff_not] at h1'
      first
        | (rw [if_pos h1']; rfl)
        | (rw [show (Ieee.double.order a b == some Ordering.gt) = true from by assumption] at h2
           have h2' := of_decide_eq_true h2.symm
           simp only [h1', h2', if_true, if_false, Bool.false_eq_true])
        | (rw [show (Ieee.double.order a b == some Ordering.gt) = false from by assumption] at h2
           have h2' := of_decide_eq_false h2.symm
           simp only [h1', h2', if_false, Bool.false_eq_true])
  all_goals
    go_enter Tryz.func33, Tryz.ntmps33
    go_wp2_with (first | (go_at_call 47; refine (isNaN_any _ _).mono ?_; rintro e w' ⟨rfl, rfl⟩))
    go_ret
    exact ⟨ret_int (by simp [cmp0, ha, hb]), rfl⟩

theorem ne_zero (a : Nat) : (Ieee.double.order a 0 != some .eq) = !nought a := by
  cases h : nan a
  · have h0 : nan 0 = false := by decide
    have := eq_num a 0 h h0
    have hv : val 0 = 0 := (val_zero 0).2 rfl
    rw [hv] at this
    show (!(Ieee.double.order a 0 == some .eq)) = _
    rw [this]
    congr 1
    unfold nought
    rw [h, Bool.eq_iff_iff]
    simp [val_zero]
  · rw [order_nan a 0 (.inl h)]
    simp [nought, h]
theorem eq_zero (a : Nat) : (Ieee.double.order a 0 == some .eq) = nought a := by
  have := ne_zero a
  simp only [bne] at this
  simpa using this

theorem compare_any (a b : Nat) (ha : a < 18446744073709551616) (hb : b < 18446744073709551616) (w : World) :
    Calls Tryz.prog 19 #[.float .f64 a, .float .f64 b] w fun e w' => e = .returned (.int .i64 (cmpF a b)) ∧ w = w' := by
  have Sa := Lib.hid (signbit_any a ha)
  have Sb := Lib.hid (signbit_any b hb)
  clear ha hb
  by_cases h : cmp0 a b = 0
  · have hc : (cmp0 a b != 0) = false := by simp [h]
    have Hz := Lib.hid (ne_zero a)
    cases hn : nought a
    · have hx : (FloatKind.f64.format.order a 0 != some .eq) = true := by rw [← fmt64] at Hz; rw [Hz.out, hn]; rfl
      have E := Lib.hid (cmp0_eq a b (.inr hn))
      clear hn h Hz
      go_enter Tryz.func19, Tryz.ntmps19
      go_wp2_with (first | (go_at_call 33; refine (cmp_any _ _ _).mono ?_; rintro e w' ⟨rfl, rfl⟩))
      go_ret
      exact ⟨ret_int E.out, rfl⟩
    · have hx : (FloatKind.f64.format.order a 0 != some .eq) = false := by rw [← fmt64] at Hz; rw [Hz.out, hn]; rfl
      have E := Lib.hid (cmp0_zero a b h hn)
      clear hn h Hz
      cases hp : isneg a <;> cases hq : isneg b
      all_goals
        rw [hp, hq] at E
        rw [hp] at Sa
        rw [hq] at Sb
        clear hp hq
        go_enter Tryz.func19, Tryz.ntmps19
        go_wp2_with (first | (go_at_call 33; refine (cmp_any _ _ _).mono ?_; rintro e w' ⟨rfl, rfl⟩) | (go_at_call 34; with_reducible refine (Sa.out _).mono ?_; rintro e w' ⟨rfl, rfl⟩) | (go_at_call 34; with_reducible refine (Sb.out _).mono ?_; rintro e w' ⟨rfl, rfl⟩))
        go_ret
        exact ⟨ret_int (by rw [E.out]; rfl), rfl⟩
  · have hc : (cmp0 a b != 0) = true := by simp [h]
    have E := Lib.hid (cmp0_eq a b (.inl h))
    clear h
    go_enter Tryz.func19, Tryz.ntmps19
    go_wp2_with (first | (go_at_call 33; refine (cmp_any _ _ _).mono ?_; rintro e w' ⟨rfl, rfl⟩))
    go_ret
    exact ⟨ret_int E.out, rfl⟩

theorem ahead_any (a b : Nat) (ha : a < 18446744073709551616) (hb : b < 18446744073709551616) (w : World) :
    Calls Tryz.prog 20 #[.float .f64 a, .float .f64 b] w fun e w' => e = .returned (.bool (ahd a b)) ∧ w = w' := by
  have Sa := Lib.hid (signbit_any a ha)
  have Sb := Lib.hid (signbit_any b hb)
  clear ha hb
  have Na := Lib.hid (none_any a)
  have Nb := Lib.hid (none_any b)
  cases ha : nan a <;> cases hb : nan b
  · cases za : nought a <;> cases zb : nought b
    case true.true =>
      have E := Lib.hid (ahd_nought a b za zb)
      have h1 : (FloatKind.f64.format.order a 0 == some .eq) = true := by rw [fmt64, eq_zero, za]
      have h2 : (FloatKind.f64.format.order b 0 == some .eq) = true := by rw [fmt64, eq_zero, zb]
      rw [ha] at Na
      rw [hb] at Nb
      clear ha hb za zb
      cases hp : isneg a <;> cases hq : isneg b
      all_goals
        rw [hp, hq] at E
        rw [hp] at Sa
        rw [hq] at Sb
        clear hp hq
        go_enter Tryz.func20, Tryz.ntmps20
        go_wp2_with (first | (go_at_call 18; with_reducible refine (Na.out _).mono ?_; rintro e w' ⟨rfl, rfl⟩) | (go_at_call 18; with_reducible refine (Nb.out _).mono ?_; rintro e w' ⟨rfl, rfl⟩) | (go_at_call 34; with_reducible refine (Sa.out _).mono ?_; rintro e w' ⟨rfl, rfl⟩) | (go_at_call 34; with_reducible refine (Sb.out _).mono ?_; rintro e w' ⟨rfl, rfl⟩))
        go_ret
        exact ⟨ret_bool (by rw [E.out]; rfl), rfl⟩
    all_goals
      have E := Lib.hid (ahd_num a b ha hb (by simp [za, zb]))
      have h1 : (FloatKind.f64.format.order a 0 == some .eq) = nought a := by rw [fmt64, eq_zero]
      have h2 : (FloatKind.f64.format.order b 0 == some .eq) = nought b := by rw [fmt64, eq_zero]
      rw [za] at h1
      rw [zb] at h2
      rw [ha] at Na
      rw [hb] at Nb
      clear ha hb za zb
      go_enter Tryz.func20, Tryz.ntmps20
      go_wp2_with (first | (go_at_call 18; with_reducible refine (Na.out _).mono ?_; rintro e w' ⟨rfl, rfl⟩) | (go_at_call 18; with_reducible refine (Nb.out _).mono ?_; rintro e w' ⟨rfl, rfl⟩))
      go_ret
      exact ⟨ret_bool (by rw [E.out]; rfl), rfl⟩
  all_goals
    have E := Lib.hid (ahd_nan a b (by simp [ha, hb]))
    rw [ha, hb] at E
    rw [ha] at Na
    rw [hb] at Nb
    clear ha hb
    go_enter Tryz.func20, Tryz.ntmps20
    go_wp2_with (first | (go_at_call 18; with_reducible refine (Na.out _).mono ?_; rintro e w' ⟨rfl, rfl⟩) | (go_at_call 18; with_reducible refine (Nb.out _).mono ?_; rintro e w' ⟨rfl, rfl⟩))
    go_ret
    exact ⟨ret_bool (by rw [E.out]; rfl), rfl⟩

theorem isInf1 (x : Nat) (hx : x < 18446744073709551616) (w : World) : Calls Tryz.prog 41 #[.float .f64 x, .int .i64 1] w fun e w' => e = .returned (.bool (decide (x = 9218868437227405312))) ∧ w = w' := by
  have H := Lib.hid (gt_max x hx)
  clear hx
  go_enter Tryz.func41, Tryz.ntmps41
  go_wp2_with fail
  go_ret
  exact ⟨ret_bool H.out, rfl⟩
theorem unary_negf (b : Nat) : Op.unary .neg (.float .f64 b) = pure (.float .f64 (b ^^^ 9223372036854775808)) := rfl
attribute [local go_sem] unary_negf
theorem isInf2 (x : Nat) (hx : x < 18446744073709551616) (w : World) : Calls Tryz.prog 41 #[.float .f64 x, .int .i64 (-1)] w fun e w' => e = .returned (.bool (decide (x = 18442240474082181120))) ∧ w = w' := by
  have H := Lib.hid (gt_max _ (xor_lt x hx))
  clear hx
  go_enter Tryz.func41, Tryz.ntmps41
  go_wp2_with fail
  go_ret
  refine ⟨ret_bool (H.out.trans ?_), rfl⟩
  rw [Bool.eq_iff_iff, decide_eq_true_eq, decide_eq_true_eq, xor_inf]
end Go.Proofs.YtkhoaaoddpjnpaaGreatDoor.Cmp
