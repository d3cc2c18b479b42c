/- Sameness, walked. -/
import Derived.Test.YtkhoaaoddpjnpaaGreatDoorExt
namespace Go.Proofs.YtkhoaaoddpjnpaaGreatDoor.Rank
open Go Go.RowKit Go.Proofs.YtkhoaaoddpjnpaaGreatDoor Go.Proofs.YtkhoaaoddpjnpaaGreatDoor.Flt Go.Proofs.YtkhoaaoddpjnpaaGreatDoor.Cmp Go.Proofs.YtkhoaaoddpjnpaaGreatDoor.Mem Go.Proofs.YtkhoaaoddpjnpaaGreatDoor.Ext

theorem bits_ne {x z : Nat} (h : ¬ x = z) : (((x : Int) == (z : Int)) : Bool) = false := by
  rw [Bool.eq_false_iff]
  simp only [ne_eq, beq_iff_eq]
  omega

/-- Numbers with one key are the same. -/
theorem same_any (a b : Nat) (ha : a < 18446744073709551616) (hb : b < 18446744073709551616) (hk : key a = key b) (w : World) :
    Calls Tryz.prog 8 #[.float .f64 a, .float .f64 b] w fun e w' => e = .returned (.bool true) ∧ w = w' := by
  by_cases e : a = b
  · subst e
    have f1 := run_f64bits a
    clear ha hb hk
    go_enter Tryz.func8, Tryz.ntmps8
    go_wp2_with fail
    go_ret
    exact ⟨rfl, rfl⟩
  · have e1 := bits_ne e
    obtain ⟨h1, h2⟩ := (key_inj a b ha hb hk).resolve_left e
    have C1 := Lib.hid (none_any a)
    have C2 := Lib.hid (none_any b)
    rw [h1] at C1
    rw [h2] at C2
    have f1 := run_f64bits a
    have f2 := run_f64bits b
    clear ha hb hk h1 h2 e
    go_enter Tryz.func8, Tryz.ntmps8
    go_wp2_with fail
    with_reducible refine (C1.out _).mono ?_; rintro e w' ⟨rfl, rfl⟩
    go_wp2_with fail
    with_reducible refine (C2.out _).mono ?_; rintro e w' ⟨rfl, rfl⟩
    go_wp2_with fail
    go_ret
    exact ⟨rfl, rfl⟩
end Go.Proofs.YtkhoaaoddpjnpaaGreatDoor.Rank
