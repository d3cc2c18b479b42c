/- The law's own first look (noughts), walked: it answers true and changes nothing that was there. -/
import Derived.Test.YtkhoaaoddpjnpaaDoorShow0
import Derived.Test.YtkhoaaoddpjnpaaDoorMem
import Derived.Test.YtkhoaaoddpjnpaaDoorExt
namespace Go.Proofs.YtkhoaaoddpjnpaaDoor.Lives
open Go Go.RowKit Go.Proofs.YtkhoaaoddpjnpaaDoor Go.Proofs.YtkhoaaoddpjnpaaDoor.Flt Go.Proofs.YtkhoaaoddpjnpaaDoor.Cmp Go.Proofs.YtkhoaaoddpjnpaaDoor.Show0 Go.Proofs.YtkhoaaoddpjnpaaDoor.Mem Go.Proofs.YtkhoaaoddpjnpaaDoor.Ext

theorem run_frombits (n : Int) (w : World) : (callFunc 68 #[.int .u64 n]).run Tryd.prog w = .ok (.value (.float .f64 n.toNat)) w := by
  rw [run_callFunc_extern (e := Extern.MathFloatBits.float64frombits) Tryd.func68 (by kernel_rfl) (by kernel_rfl) (by kernel_rfl) (by kernel_rfl)]; rfl

theorem mnan (w : World) : Calls Tryd.prog 54 #[] w fun e w' => e = .returned (.float .f64 9221120237041090561) ∧ w = w' := by
  have h := run_frombits 9221120237041090561
  go_enter Tryd.func54, Tryd.ntmps54
  go_wp2_with fail
  go_ret
  exact ⟨rfl, rfl⟩
theorem minf1 (w : World) : Calls Tryd.prog 53 #[.int .i64 1] w fun e w' => e = .returned (.float .f64 9218868437227405312) ∧ w = w' := by
  have h := run_frombits 9218868437227405312
  go_enter Tryd.func53, Tryd.ntmps53
  go_wp2_with fail
  go_ret
  exact ⟨rfl, rfl⟩
theorem minf2 (w : World) : Calls Tryd.prog 53 #[.int .i64 (-1)] w fun e w' => e = .returned (.float .f64 18442240474082181120) ∧ w = w' := by
  have h := run_frombits 18442240474082181120
  go_enter Tryd.func53, Tryd.ntmps53
  go_wp2_with fail
  go_ret
  exact ⟨rfl, rfl⟩
set_option maxRecDepth 100000 in
theorem copysign0 (w : World) : Calls Tryd.prog 52 #[.float .f64 0, .float .f64 13830554455654793216] w fun e w' => e = .returned (.float .f64 9223372036854775808) ∧ w = w' := by
  have h1 := run_f64bits 0
  have h2 := run_f64bits 13830554455654793216
  have h3 := run_frombits 9223372036854775808
  have b1 : bits .andNot .u64 0 9223372036854775808 = 0 := by decide +kernel
  have b2 : bits .and .u64 13830554455654793216 9223372036854775808 = 9223372036854775808 := by decide +kernel
  have b3 : bits .or .u64 0 9223372036854775808 = 9223372036854775808 := by decide +kernel
  go_enter Tryd.func52, Tryd.ntmps52
  go_wp2_with fail
  go_ret
  exact ⟨rfl, rfl⟩


theorem fs3 (w : World) : FS (w.alloc (.cells #[.float .f64 4607182418800017408, .float .f64 9218868437227405312, .float .f64 9221120237041090561] 29)) (w.heap.size + 1) (some ⟨w.heap.size, 0, none⟩) [4607182418800017408, 9218868437227405312, 9221120237041090561] := by
  refine ⟨by decide, fun _ => ⟨w.heap.size, 0, rfl, by omega, fun j x hx => ?_⟩⟩
  rw [cell_of_row _ w.heap.size (0 + j) _ 29 (0, 0) (heap_alloc_new w _)]
  match j, hx with
  | 0, hx => cases hx; rfl
  | 1, hx => cases hx; rfl
  | 2, hx => cases hx; rfl
  | j + 3, hx => simp at hx

theorem ext3 : outOf (ext 1 [4607182418800017408, 9218868437227405312, 9221120237041090561]) = .tuple #[.float .f64 9218868437227405312, .bool true] := by
  have e : ext 1 [4607182418800017408, 9218868437227405312, 9221120237041090561] = some 9218868437227405312 := by decide +kernel
  rw [e]; rfl

theorem great3 (w : World) : Calls Tryd.prog 44 #[.slice (some ⟨w.heap.size, 0, none⟩) 3 3] (w.alloc (.cells #[.float .f64 4607182418800017408, .float .f64 9218868437227405312, .float .f64 9221120237041090561] 29))
    fun e w' => e = .returned (.tuple #[.float .f64 9218868437227405312, .bool true]) ∧ w.alloc (.cells #[.float .f64 4607182418800017408, .float .f64 9218868437227405312, .float .f64 9221120237041090561] 29) = w' := by
  have h := greatest_any (some ⟨w.heap.size, 0, none⟩) 3 [4607182418800017408, 9218868437227405312, 9221120237041090561] 3 (w.alloc (.cells #[.float .f64 4607182418800017408, .float .f64 9218868437227405312, .float .f64 9221120237041090561] 29)) rfl ((fs3 w).more (by simp)) (by omega)
  rw [ext3] at h
  exact h

theorem comp1 (w : World) : Calls Tryd.prog 41 #[.float .f64 9223372036854775808, .float .f64 0] w fun e w' => e = .returned (.int .i64 (-1)) ∧ w = w' := by
  have h := compare_any 9223372036854775808 0 (by decide) (by decide) w
  have e : cmpF 9223372036854775808 0 = -1 := by decide +kernel
  rwa [e] at h
theorem comp2 (w : World) : Calls Tryd.prog 41 #[.float .f64 9221120237041090561, .float .f64 18442240474082181120] w fun e w' => e = .returned (.int .i64 (-1)) ∧ w = w' := by
  have h := compare_any 9221120237041090561 18442240474082181120 (by decide) (by decide) w
  have e : cmpF 9221120237041090561 18442240474082181120 = -1 := by decide +kernel
  rwa [e] at h
theorem inf3 (w : World) : Calls Tryd.prog 55 #[.float .f64 9218868437227405312, .int .i64 1] w fun e w' => e = .returned (.bool true) ∧ w = w' :=
  isInf1 9218868437227405312 (by decide) w

set_option maxRecDepth 100000 in
set_option maxHeartbeats 1000000 in
theorem lives_any (w : World) : Calls Tryd.prog 10 #[] w fun e w' => e = .returned (.bool true) ∧ Below w.heap.size w w' := by
  go_enter Tryd.func10, Tryd.ntmps10
  go_wp2_with fail
  refine (copysign0 _).mono ?_; rintro e w' ⟨rfl, rfl⟩
  go_wp2_with fail
  refine (minf1 _).mono ?_; rintro e w' ⟨rfl, rfl⟩
  go_wp2_with fail
  refine (mnan _).mono ?_; rintro e w' ⟨rfl, rfl⟩
  go_wp2_with fail
  refine (great3 _).mono ?_; rintro e w' ⟨rfl, rfl⟩
  go_wp2_with fail
  refine (comp1 _).mono ?_; rintro e w' ⟨rfl, rfl⟩
  go_wp2_with fail
  refine (mnan _).mono ?_; rintro e w' ⟨rfl, rfl⟩
  go_wp2_with fail
  refine (minf2 _).mono ?_; rintro e w' ⟨rfl, rfl⟩
  go_wp2_with fail
  refine (comp2 _).mono ?_; rintro e w' ⟨rfl, rfl⟩
  go_wp2_with fail
  refine (inf3 _).mono ?_; rintro e w' ⟨rfl, rfl⟩
  go_wp2_with fail
  refine (show0 _).mono ?_; rintro e w' ⟨rfl, hb⟩
  go_wp2_with fail
  go_ret
  exact ⟨rfl, ((Below.refl _ _).alloc (Nat.le_refl _) _).trans (hb.mono (by simp))⟩
end Go.Proofs.YtkhoaaoddpjnpaaDoor.Lives
