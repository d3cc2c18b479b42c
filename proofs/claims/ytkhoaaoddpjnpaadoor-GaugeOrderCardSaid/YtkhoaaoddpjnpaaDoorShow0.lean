/- strconv.FormatFloat of the nought below 0, walked. -/
import Derived.Test.YtkhoaaoddpjnpaaDoorApp
import Derived.OwnWalk
import Derived.Deep.QuietTactic
import Derived.BigQuiet
import Derived.Deep.LoopGhost
namespace Go.Proofs.YtkhoaaoddpjnpaaDoor.Show0
open Go Go.RowKit Go.Proofs.YtkhoaaoddpjnpaaDoor Go.Proofs.YtkhoaaoddpjnpaaDoor.Flt Go.Proofs.YtkhoaaoddpjnpaaDoor.Cmp Go.Proofs.YtkhoaaoddpjnpaaDoor.App

theorem run_lf64bits (a : Nat) (w : World) : (callFunc 85 #[.float .f64 a]).run Tryd.prog w = .ok (.value (.int .u64 a)) w := by
  rw [run_callFunc_extern (e := Extern.MathFloatBits.float64bits) Tryd.func85 (by kernel_rfl) (by kernel_rfl) (by kernel_rfl) (by kernel_rfl)]; rfl


theorem below_drewN {B : Nat} {w w' : World} (h : Below B w w') (n : Nat) : Below B w (w'.drewN n) := ⟨h.os, h.tape, h.output, h.size, h.block⟩

def Efg (w : World) (B : Nat) (out : List Int) (e : Ending) (w' : World) : Prop := ∃ v, e = .returned v ∧ BR w' B v out ∧ Below B w w'

set_option maxRecDepth 100000 in
set_option maxHeartbeats 2000000 in
theorem efg0 (w : World) (B : Nat) (v : Value) (hr : BR w B v []) (hB : B ≤ w.heap.size) : Calls Tryd.prog 88 #[v, .bool true, .slice none 0 0, .int .i64 0, .int .i64 0, .int .i64 (-1), .int .u8 103, .bool true] w (Efg w B ([] ++ [45] ++ [48])) := by
  have hb0 : Below B w w := Below.refl _ _
  go_enter Tryd.func88, Tryd.ntmps88
  go_wp2_with (first
    | (at_builtin; refine wpApp [45] rfl _ _ rfl rfl rfl (by assumption) (by simp) (by assumption) (by assumption) ?_; intro v1 w1 hr1 hb1 hB1)
    | (at_builtin; refine wpApp [48] rfl _ _ rfl rfl rfl (by assumption) (by simp) (by assumption) (by assumption) ?_; intro v1 w1 hr1 hb1 hB1))
  go_ret
  exact ⟨_, rfl, by assumption, by assumption⟩
set_option maxRecDepth 100000 in
set_option maxHeartbeats 2000000 in
theorem ftoa0 (w : World) (B : Nat) (v : Value) (hr : BR w B v []) (hB : B ≤ w.heap.size) : Calls Tryd.prog 78 #[v, .float .f64 9223372036854775808, .int .u8 103, .int .i64 (-1)] w (Efg w B ([] ++ [45] ++ [48])) := by
  have hb := run_lf64bits 9223372036854775808
  have Hr := Lib.hid hr
  have HB := Lib.hid hB
  clear hr hB
  go_enter Tryd.func78, Tryd.ntmps78
  go_wp2_with fail
  go_quiet (fail)
  go_wp2_with (first
    | (go_at_call 88; refine (efg0 _ _ _ (Hr.out.drewN _) HB.out).mono ?_; rintro e w' ⟨v', rfl, h1, h2⟩))
  go_ret
  exact ⟨_, rfl, h1, (below_drewN (Below.refl B w) _).trans h2⟩

set_option maxRecDepth 100000 in
set_option maxHeartbeats 2000000 in
theorem fmt0 (w : World) : Calls Tryd.prog 70 #[.float .f64 9223372036854775808, .int .u8 103, .int .i64 (-1), .int .i64 64] w fun e w' => e = .returned (.string (strOfNums ([] ++ [45] ++ [48]))) ∧ Below w.heap.size w w' := by
  obtain ⟨v, w1, hmk, hr, hb⟩ := make_br 24 (by decide) w
  have hmk2 : (Instr.makeSlice 103 (.int .i64 0) (.int .i64 24)).run Tryd.prog w = .ok v w1 := hmk
  have Hr := Lib.hid hr
  have Hb := Lib.hid hb
  clear hr hb hmk
  go_enter Tryd.func70, Tryd.ntmps70
  go_wp2_with (first
    | (go_at_call 78; refine (ftoa0 _ w.heap.size _ Hr.out Hb.out.size).mono ?_; rintro e w' ⟨v', rfl, h1, h2⟩; have hcv := run_str h1))
  go_ret
  exact ⟨rfl, Hb.out.trans h2⟩

theorem sfmt0 (w : World) : Calls Tryd.prog 58 #[.float .f64 9223372036854775808, .int .u8 103, .int .i64 (-1), .int .i64 64] w fun e w' => e = .returned (.string (strOfNums ([] ++ [45] ++ [48]))) ∧ Below w.heap.size w w' := by
  go_enter Tryd.func58, Tryd.ntmps58
  go_wp2_with (first
    | (go_at_call 70; refine (fmt0 _).mono ?_; rintro e w' ⟨rfl, h1⟩))
  go_ret
  exact ⟨rfl, h1⟩

theorem nan0 (w : World) : Calls Tryd.prog 57 #[.float .f64 9223372036854775808] w fun e w' => e = .returned (.bool false) ∧ w = w' := by
  have h : nan 9223372036854775808 = false := by decide +kernel
  rw [← h]; exact mnan_any _ _
theorem pinf0 (w : World) : Calls Tryd.prog 55 #[.float .f64 9223372036854775808, .int .i64 1] w fun e w' => e = .returned (.bool false) ∧ w = w' :=
  isInf1 9223372036854775808 (by decide) w
theorem ninf0 (w : World) : Calls Tryd.prog 55 #[.float .f64 9223372036854775808, .int .i64 (-1)] w fun e w' => e = .returned (.bool false) ∧ w = w' :=
  isInf2 9223372036854775808 (by decide) w

theorem show0 (w : World) : Calls Tryd.prog 24 #[.float .f64 9223372036854775808] w fun e w' => e = .returned (.string ⟨#[45, 48]⟩) ∧ Below w.heap.size w w' := by
  go_enter Tryd.func24, Tryd.ntmps24
  go_wp2_with fail
  refine (nan0 _).mono ?_; rintro e w' ⟨rfl, rfl⟩
  go_wp2_with fail
  refine (pinf0 _).mono ?_; rintro e w' ⟨rfl, rfl⟩
  go_wp2_with fail
  refine (ninf0 _).mono ?_; rintro e w' ⟨rfl, rfl⟩
  go_wp2_with fail
  refine (sfmt0 _).mono ?_; rintro e w' ⟨rfl, h1⟩
  go_wp2_with fail
  go_ret
  exact ⟨rfl, h1⟩
end Go.Proofs.YtkhoaaoddpjnpaaDoor.Show0
