/- The reference's rates, walked. -/
import Derived.Test.YtkhoaaoddpjnpaaGreatDoorSumMean
import Derived.Test.YtkhoaaoddpjnpaaGreatDoorSums
namespace Go.Proofs.YtkhoaaoddpjnpaaGreatDoor.RRate
open Go Go.RowKit Go.Proofs.YtkhoaaoddpjnpaaGreatDoor Go.Proofs.YtkhoaaoddpjnpaaGreatDoor.Flt Go.Proofs.YtkhoaaoddpjnpaaGreatDoor.Cmp Go.Proofs.YtkhoaaoddpjnpaaGreatDoor.Mem Go.Proofs.YtkhoaaoddpjnpaaGreatDoor.Ratio Go.Proofs.YtkhoaaoddpjnpaaGreatDoor.SumMean Go.Proofs.YtkhoaaoddpjnpaaGreatDoor.Add Go.Proofs.YtkhoaaoddpjnpaaGreatDoor.Sums

theorem rratio_num (a b : Int) (w : World) : Calls Tryz.prog 16 #[.int .i64 a, .int .i64 b] w fun e w' => ∃ r n, e = .returned (.float .f64 r) ∧ w' = w.drewN n ∧ key r = rkey a b ∧ r < 18446744073709551616 := rratio_any a b w
attribute [local go_sem] Ratio.run_store_float

set_option maxHeartbeats 8000000 in
set_option maxRecDepth 100000 in
theorem rrate_any (s0 s1 s2 s3 s4 s5 s6 s7 s8 s9 s10 s11 s12 s13 s14 s15 s16 s17 s18 s19 s20 s21 s22 s23 s24 s25 s26 : Int) (w : World) : Calls Tryz.prog 7 #[.agg #[.int .i64 s0, .int .i64 s1, .int .i64 s2, .int .i64 s3, .int .i64 s4, .int .i64 s5, .int .i64 s6, .int .i64 s7, .int .i64 s8, .int .i64 s9, .int .i64 s10, .int .i64 s11, .int .i64 s12, .int .i64 s13, .int .i64 s14, .int .i64 s15, .int .i64 s16, .int .i64 s17, .int .i64 s18, .int .i64 s19, .int .i64 s20, .int .i64 s21, .int .i64 s22, .int .i64 s23, .int .i64 s24, .int .i64 s25, .int .i64 s26]] w fun e w' =>
    ∃ r0 r1 r2 r3, e = .returned (.agg #[.float .f64 r0, .float .f64 r1, .float .f64 r2, .float .f64 r3]) ∧ Below w.heap.size w w' ∧
      (key r0 = rkey s1 s0 ∧ r0 < 18446744073709551616) ∧ (key r1 = rkey s2 s0 ∧ r1 < 18446744073709551616) ∧ (key r2 = rkey s3 s0 ∧ r2 < 18446744073709551616) ∧ (key r3 = rkey s4 s8 ∧ r3 < 18446744073709551616) := by
  go_enter Tryz.func7, Tryz.ntmps7
  go_wp2_with fail
  go_region_held3 (fun w' => w'.cell? ⟨w.heap.size, 0, none⟩ = some (.int .i64 s0) ∧ w'.cell? ⟨w.heap.size, 1, none⟩ = some (.int .i64 s1) ∧ w'.cell? ⟨w.heap.size, 2, none⟩ = some (.int .i64 s2) ∧ w'.cell? ⟨w.heap.size, 3, none⟩ = some (.int .i64 s3) ∧ w'.cell? ⟨w.heap.size, 4, none⟩ = some (.int .i64 s4) ∧ w'.cell? ⟨w.heap.size, 8, none⟩ = some (.int .i64 s8)) (go_keep)
    (first | (go_at_call 16; refine (rratio_num _ _ _).mono ?_; rintro e w' ⟨r, nr, rfl, rfl, hk, hr⟩))
  all_goals go_wp2_with fail
  refine bodyPost_ret (results_cell_row rfl _ _ (w.heap.size + 1) 34 _ (0, 0) _ rfl (four_cells _ _ _ _ _ _ _ _ _ _ _ _ (heap_alloc2_new w _ _)) Tryz.underlying34 rfl info_four) rfl ?_
  exact ⟨_, _, _, _, rfl, below_four (below_drewN (((Below.refl _ _).alloc (Nat.le_refl _) _).alloc (by simp) _) _) _ (by omega) _ _ _ _, ⟨by assumption, by assumption⟩, ⟨by assumption, by assumption⟩, ⟨by assumption, by assumption⟩, ⟨by assumption, by assumption⟩⟩

theorem rrate_t (s : List Int) (hs : s.length = 27) (w : World) : Calls Tryz.prog 7 #[.agg (s.map (Value.int .i64)).toArray] w fun e w' =>
    ∃ r0 r1 r2 r3, e = .returned (.agg #[.float .f64 r0, .float .f64 r1, .float .f64 r2, .float .f64 r3]) ∧ Below w.heap.size w w' ∧
      (key r0 = rkey (s.getD 1 0) (s.getD 0 0) ∧ r0 < 18446744073709551616) ∧ (key r1 = rkey (s.getD 2 0) (s.getD 0 0) ∧ r1 < 18446744073709551616) ∧ (key r2 = rkey (s.getD 3 0) (s.getD 0 0) ∧ r2 < 18446744073709551616) ∧ (key r3 = rkey (s.getD 4 0) (s.getD 8 0) ∧ r3 < 18446744073709551616) := by
  match s, hs with
  | [s0, s1, s2, s3, s4, s5, s6, s7, s8, s9, s10, s11, s12, s13, s14, s15, s16, s17, s18, s19, s20, s21, s22, s23, s24, s25, s26], _ =>
    exact rrate_any s0 s1 s2 s3 s4 s5 s6 s7 s8 s9 s10 s11 s12 s13 s14 s15 s16 s17 s18 s19 s20 s21 s22 s23 s24 s25 s26 w
theorem rrate_m (s : List Int) (hs : s.length = 27) (w : World) : Calls Tryz.prog 7 #[.agg (s.map (Value.int .i64)).toArray] w fun e w' =>
    ∃ r0 r1 r2 r3, e = .returned (.agg #[.float .f64 r0, .float .f64 r1, .float .f64 r2, .float .f64 r3]) ∧ Below w.heap.size w w' ∧ key r1 = ck s ∧ r1 < 18446744073709551616 :=
  (rrate_t s hs w).mono fun e w' ⟨r0, r1, r2, r3, h, hb, _, h1, _, _⟩ => ⟨r0, r1, r2, r3, h, hb, h1.1, h1.2⟩
end Go.Proofs.YtkhoaaoddpjnpaaGreatDoor.RRate
