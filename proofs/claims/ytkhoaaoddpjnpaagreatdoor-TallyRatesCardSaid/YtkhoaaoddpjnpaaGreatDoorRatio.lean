/- gauge.Ratio, walked: of its result the key is told (where both are 0 it is no number: which one is drawn). -/
import Derived.Test.YtkhoaaoddpjnpaaGreatDoorCmp
import Derived.Laws.FloatArith
import Derived.Deep.RegionHeld3
import Derived.Test.YtkhoaaoddpjnpaaGreatDoorMem
namespace Go.Proofs.YtkhoaaoddpjnpaaGreatDoor.Ratio
open Go Go.RowKit Go.Proofs.YtkhoaaoddpjnpaaGreatDoor Go.Proofs.YtkhoaaoddpjnpaaGreatDoor.Flt Go.Proofs.YtkhoaaoddpjnpaaGreatDoor.Cmp Go.Proofs.YtkhoaaoddpjnpaaGreatDoor.Mem

/-- The key of what an operation gives. -/
def keyOp (r : Option Nat) : Int := match r with
  | some r => key r
  | none => -18446744073709551616

theorem nan_cut (x y t : Nat) : nan ((Question.nanBits .f64 x y).cut t) = true ∧ (Question.nanBits .f64 x y).cut t < 18446744073709551616 := by
  have h1 := Nat.mod_lt t (show 0 < 2 by decide)
  have h2 := Nat.mod_lt (t / 2) (show 0 < 2 ^ 52 - 1 by decide)
  have e : (Question.nanBits .f64 x y).cut t = (t % 2) * 2 ^ 63 + 0x7ff0000000000000 + 1 + (t / 2) % (2 ^ 52 - 1) := rfl
  rw [e]
  generalize (t / 2) % (2 ^ 52 - 1) = q at *
  generalize t % 2 = p at *
  unfold nan rung inf
  have hp : p = 0 ∨ p = 1 := by omega
  rcases hp with rfl | rfl
  · refine ⟨decide_eq_true (by omega), by omega⟩
  · refine ⟨decide_eq_true (by omega), by omega⟩

theorem run_quo (t : TypeId) (x y : Nat) (w : World) : ∃ r n, (binOp .quo t (.float .f64 x) (.float .f64 y)).run Tryz.prog w = .ok (.float .f64 r) (w.drewN n) ∧ key r = keyOp (Ieee.double.div x y) ∧ r < 18446744073709551616 := by
  cases h : Ieee.double.div x y with
  | some r =>
    refine ⟨r, 0, run_float_arith w .quo t .f64 x y r h, rfl, ?_⟩
    have := Ieee.double.div_lt h
    exact this
  | none =>
    have hc := nan_cut x y (w.tape w.drawn (Question.nanBits .f64 x y))
    refine ⟨_, 1, ?_, key_nan _ hc.1, hc.2⟩
    have h' : FloatKind.f64.format.div x y = none := h
    simp [binOp, Op.floatArith, h']
    rfl

/-- The key of a ratio. -/
def rkey (a b : Int) : Int := keyOp (Ieee.double.div (floatOfInt .f64 a) (floatOfInt .f64 b))

theorem ratio_any (a b : Int) (w : World) : Calls Tryz.prog 15 #[.int .i64 a, .int .i64 b] w fun e w' => ∃ r n, e = .returned (.float .f64 r) ∧ w' = w.drewN n ∧ key r = rkey a b ∧ r < 18446744073709551616 := by
  obtain ⟨r, n, hq, hk, hr⟩ := run_quo 33 (floatOfInt .f64 a) (floatOfInt .f64 b) w
  have HK := Lib.hid hk
  have HR := Lib.hid hr
  clear hk hr
  go_enter Tryz.func15, Tryz.ntmps15
  go_wp2_with fail
  go_ret
  exact ⟨r, n, rfl, rfl, HK.out, HR.out⟩

theorem four_cells (W : World) (b : Nat) (z0 z1 z2 z3 v0 v1 v2 v3 : Value) (t : TypeId) (fr : Nat × Nat) (h : W.heap[b]? = some (.cells #[z0, z1, z2, z3] t fr)) :
    ((((W.setCell ⟨b, 0, none⟩ v0).setCell ⟨b, 1, none⟩ v1).setCell ⟨b, 2, none⟩ v2).setCell ⟨b, 3, none⟩ v3).heap[b]? = some (.cells #[v0, v1, v2, v3] t fr) := by
  simp [World.setCell, Array.getElem?_modify, h]
theorem info_four : (Tryz.prog.info? 34).map (·.size) = some 4 := by kernel_rfl
theorem below_four {B : Nat} {w W : World} (h : Below B w W) (b : Nat) (hb : B ≤ b) (v0 v1 v2 v3 : Value) :
    Below B w ((((W.setCell ⟨b, 0, none⟩ v0).setCell ⟨b, 1, none⟩ v1).setCell ⟨b, 2, none⟩ v2).setCell ⟨b, 3, none⟩ v3) :=
  (((h.setCell (p := ⟨b, 0, none⟩) hb v0).setCell (p := ⟨b, 1, none⟩) hb v1).setCell (p := ⟨b, 2, none⟩) hb v2).setCell (p := ⟨b, 3, none⟩) hb v3

theorem run_store_float (P : Program) (w : World) (a : Addr) (m : Mode) (k : FloatKind) (b : Nat) : (store a (.float k b) m).run P w = stored P w a (.float k b) m := run_store P w a _ m rfl
attribute [local go_sem] run_store_float

set_option maxHeartbeats 8000000 in
set_option maxRecDepth 100000 in
theorem rate_any (s0 s1 s2 s3 s4 s5 s6 s7 s8 s9 s10 s11 s12 s13 s14 s15 s16 s17 s18 s19 s20 s21 s22 s23 s24 s25 s26 : Int) (w : World) : Calls Tryz.prog 6 #[.agg #[.int .i64 s0, .int .i64 s1, .int .i64 s2, .int .i64 s3, .int .i64 s4, .int .i64 s5, .int .i64 s6, .int .i64 s7, .int .i64 s8, .int .i64 s9, .int .i64 s10, .int .i64 s11, .int .i64 s12, .int .i64 s13, .int .i64 s14, .int .i64 s15, .int .i64 s16, .int .i64 s17, .int .i64 s18, .int .i64 s19, .int .i64 s20, .int .i64 s21, .int .i64 s22, .int .i64 s23, .int .i64 s24, .int .i64 s25, .int .i64 s26]] w fun e w' =>
    ∃ r0 r1 r2 r3, e = .returned (.agg #[.float .f64 r0, .float .f64 r1, .float .f64 r2, .float .f64 r3]) ∧ Below w.heap.size w w' ∧
      (key r0 = rkey s1 s0 ∧ r0 < 18446744073709551616) ∧ (key r1 = rkey s2 s0 ∧ r1 < 18446744073709551616) ∧ (key r2 = rkey s3 s0 ∧ r2 < 18446744073709551616) ∧ (key r3 = rkey s4 s8 ∧ r3 < 18446744073709551616) := by
  go_enter Tryz.func6, Tryz.ntmps6
  go_wp2_with fail
  go_region_held3 (fun w' => w'.cell? ⟨w.heap.size, 0, none⟩ = some (.int .i64 s0) ∧ w'.cell? ⟨w.heap.size, 1, none⟩ = some (.int .i64 s1) ∧ w'.cell? ⟨w.heap.size, 2, none⟩ = some (.int .i64 s2) ∧ w'.cell? ⟨w.heap.size, 3, none⟩ = some (.int .i64 s3) ∧ w'.cell? ⟨w.heap.size, 4, none⟩ = some (.int .i64 s4) ∧ w'.cell? ⟨w.heap.size, 8, none⟩ = some (.int .i64 s8)) (go_keep)
    (first | (go_at_call 15; refine (ratio_any _ _ _).mono ?_; rintro e w' ⟨r, nr, rfl, rfl, hk, hr⟩))
  all_goals go_wp2_with fail
  refine bodyPost_ret (results_cell_row rfl _ _ (w.heap.size + 1) 34 _ (0, 0) _ rfl (four_cells _ _ _ _ _ _ _ _ _ _ _ _ (heap_alloc2_new w _ _)) Tryz.underlying34 rfl info_four) rfl ?_
  exact ⟨_, _, _, _, rfl, below_four (below_drewN (((Below.refl _ _).alloc (Nat.le_refl _) _).alloc (by simp) _) _) _ (by omega) _ _ _ _, ⟨by assumption, by assumption⟩, ⟨by assumption, by assumption⟩, ⟨by assumption, by assumption⟩, ⟨by assumption, by assumption⟩⟩
end Go.Proofs.YtkhoaaoddpjnpaaGreatDoor.Ratio
