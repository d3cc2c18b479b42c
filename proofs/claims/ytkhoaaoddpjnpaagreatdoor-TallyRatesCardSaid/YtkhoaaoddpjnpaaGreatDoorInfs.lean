/- math.NaN, math.Inf, walked. -/
import Derived.Test.YtkhoaaoddpjnpaaGreatDoorCmp
import Derived.Test.YtkhoaaoddpjnpaaGreatDoorMem
namespace Go.Proofs.YtkhoaaoddpjnpaaGreatDoor.Lives
open Go Go.RowKit Go.Proofs.YtkhoaaoddpjnpaaGreatDoor Go.Proofs.YtkhoaaoddpjnpaaGreatDoor.Flt Go.Proofs.YtkhoaaoddpjnpaaGreatDoor.Cmp

theorem run_frombits (n : Int) (w : World) : (callFunc 46 #[.int .u64 n]).run Tryz.prog w = .ok (.value (.float .f64 n.toNat)) w := by
  rw [run_callFunc_extern (e := Extern.MathFloatBits.float64frombits) Tryz.func46 (by kernel_rfl) (by kernel_rfl) (by kernel_rfl) (by kernel_rfl)]; rfl

theorem mnan (w : World) : Calls Tryz.prog 32 #[] w fun e w' => e = .returned (.float .f64 9221120237041090561) ∧ w = w' := by
  have h := run_frombits 9221120237041090561
  go_enter Tryz.func32, Tryz.ntmps32
  go_wp2_with fail
  go_ret
  exact ⟨rfl, rfl⟩
theorem minf1 (w : World) : Calls Tryz.prog 31 #[.int .i64 1] w fun e w' => e = .returned (.float .f64 9218868437227405312) ∧ w = w' := by
  have h := run_frombits 9218868437227405312
  go_enter Tryz.func31, Tryz.ntmps31
  go_wp2_with fail
  go_ret
  exact ⟨rfl, rfl⟩
theorem minf2 (w : World) : Calls Tryz.prog 31 #[.int .i64 (-1)] w fun e w' => e = .returned (.float .f64 18442240474082181120) ∧ w = w' := by
  have h := run_frombits 18442240474082181120
  go_enter Tryz.func31, Tryz.ntmps31
  go_wp2_with fail
  go_ret
  exact ⟨rfl, rfl⟩
end Go.Proofs.YtkhoaaoddpjnpaaGreatDoor.Lives
