/- law19.back, walked: the same 27 numbers. -/
import Derived.Test.YtkhoaaoddpjnpaaGreatDoorSumV
namespace Go.Proofs.YtkhoaaoddpjnpaaGreatDoor.Back
open Go Go.RowKit Go.Proofs.YtkhoaaoddpjnpaaGreatDoor Go.Proofs.YtkhoaaoddpjnpaaGreatDoor.Flt Go.Proofs.YtkhoaaoddpjnpaaGreatDoor.Cmp Go.Proofs.YtkhoaaoddpjnpaaGreatDoor.Mem Go.Proofs.YtkhoaaoddpjnpaaGreatDoor.Add

set_option maxHeartbeats 4000000 in
set_option maxRecDepth 100000 in
theorem back_any (xs : List Int) (hx : xs.length = 27) (w : World) :
    Calls Tryz.prog 5 #[sumV xs] w fun e w' => e = .returned (sumV xs) ∧ Below w.heap.size w w' := by
  unfold sumV
  obtain ⟨s0, s1, s2, s3, s4, s5, s6, s7, s8, s9, s10, s11, s12, s13, s14, s15, s16, s17, s18, s19, s20, s21, s22, s23, s24, s25, s26, rfl⟩ : ∃ s0 s1 s2 s3 s4 s5 s6 s7 s8 s9 s10 s11 s12 s13 s14 s15 s16 s17 s18 s19 s20 s21 s22 s23 s24 s25 s26, xs = [s0, s1, s2, s3, s4, s5, s6, s7, s8, s9, s10, s11, s12, s13, s14, s15, s16, s17, s18, s19, s20, s21, s22, s23, s24, s25, s26] := by
    match xs, hx with
    | [s0, s1, s2, s3, s4, s5, s6, s7, s8, s9, s10, s11, s12, s13, s14, s15, s16, s17, s18, s19, s20, s21, s22, s23, s24, s25, s26], _ => exact ⟨s0, s1, s2, s3, s4, s5, s6, s7, s8, s9, s10, s11, s12, s13, s14, s15, s16, s17, s18, s19, s20, s21, s22, s23, s24, s25, s26, rfl⟩
  clear hx
  obtain ⟨xs, hxs⟩ : ∃ xs, [s0, s1, s2, s3, s4, s5, s6, s7, s8, s9, s10, s11, s12, s13, s14, s15, s16, s17, s18, s19, s20, s21, s22, s23, s24, s25, s26] = xs := ⟨_, rfl⟩
  rw [hxs]
  have HXS := Lib.hid hxs
  go_enter Tryz.func5, Tryz.ntmps5
  clear hxs
  go_upto_region 1 with fail
  have HI := Lib.hid (show IR ((w.alloc (.cells (xs.map (Value.int .i64)).toArray 32)).alloc (.cells #[.int .i64 0, .int .i64 0, .int .i64 0, .int .i64 0, .int .i64 0, .int .i64 0, .int .i64 0, .int .i64 0, .int .i64 0, .int .i64 0, .int .i64 0, .int .i64 0, .int .i64 0, .int .i64 0, .int .i64 0, .int .i64 0, .int .i64 0, .int .i64 0, .int .i64 0, .int .i64 0, .int .i64 0, .int .i64 0, .int .i64 0, .int .i64 0, .int .i64 0, .int .i64 0, .int .i64 0] 28)) w.heap.size 32 xs from (show IR (w.alloc (.cells (xs.map (Value.int .i64)).toArray 32)) w.heap.size 32 xs from heap_alloc_new w _).alloc _)
  have HZ := Lib.hid (show IR ((w.alloc (.cells (xs.map (Value.int .i64)).toArray 32)).alloc (.cells #[.int .i64 0, .int .i64 0, .int .i64 0, .int .i64 0, .int .i64 0, .int .i64 0, .int .i64 0, .int .i64 0, .int .i64 0, .int .i64 0, .int .i64 0, .int .i64 0, .int .i64 0, .int .i64 0, .int .i64 0, .int .i64 0, .int .i64 0, .int .i64 0, .int .i64 0, .int .i64 0, .int .i64 0, .int .i64 0, .int .i64 0, .int .i64 0, .int .i64 0, .int .i64 0, .int .i64 0] 28)) (w.heap.size + 1) 28 (List.replicate 27 0) from heap_alloc2_new w _ _)
  have HB := Lib.hid (((Below.refl w.heap.size w).alloc (Nat.le_refl _) (.cells (xs.map (Value.int .i64)).toArray 32)).alloc (by simp) (.cells #[.int .i64 0, .int .i64 0, .int .i64 0, .int .i64 0, .int .i64 0, .int .i64 0, .int .i64 0, .int .i64 0, .int .i64 0, .int .i64 0, .int .i64 0, .int .i64 0, .int .i64 0, .int .i64 0, .int .i64 0, .int .i64 0, .int .i64 0, .int .i64 0, .int .i64 0, .int .i64 0, .int .i64 0, .int .i64 0, .int .i64 0, .int .i64 0, .int .i64 0, .int .i64 0, .int .i64 0] 28))
  generalize (w.alloc (.cells (xs.map (Value.int .i64)).toArray 32)).alloc (.cells #[.int .i64 0, .int .i64 0, .int .i64 0, .int .i64 0, .int .i64 0, .int .i64 0, .int .i64 0, .int .i64 0, .int .i64 0, .int .i64 0, .int .i64 0, .int .i64 0, .int .i64 0, .int .i64 0, .int .i64 0, .int .i64 0, .int .i64 0, .int .i64 0, .int .i64 0, .int .i64 0, .int .i64 0, .int .i64 0, .int .i64 0, .int .i64 0, .int .i64 0, .int .i64 0, .int .i64 0] 28) = W0 at *
  have c0 := HI.out.cell (k := 0) (x := s0) (by rw [← HXS.out]; rfl)
  have c1 := HI.out.cell (k := 1) (x := s1) (by rw [← HXS.out]; rfl)
  have c2 := HI.out.cell (k := 2) (x := s2) (by rw [← HXS.out]; rfl)
  have c3 := HI.out.cell (k := 3) (x := s3) (by rw [← HXS.out]; rfl)
  have c4 := HI.out.cell (k := 4) (x := s4) (by rw [← HXS.out]; rfl)
  have c5 := HI.out.cell (k := 5) (x := s5) (by rw [← HXS.out]; rfl)
  have HR := Lib.hid (show W0.rangeAt w.heap.size 6 ([s6, s7, s8, s9, s10, s11, s12, s13, s14, s15, s16, s17, s18, s19, s20, s21, s22, s23, s24, s25, s26].map (Value.int .i64)) from by
    intro j v hv
    rw [List.getElem?_map] at hv
    obtain ⟨x, hxj, rfl⟩ := Option.map_eq_some_iff.1 hv
    refine HI.out.cell ?_
    rw [← HXS.out]
    show ([s0, s1, s2, s3, s4, s5, s6, s7, s8, s9, s10, s11, s12, s13, s14, s15, s16, s17, s18, s19, s20, s21, s22, s23, s24, s25, s26])[6 + j]? = _
    rw [Nat.add_comm]
    exact hxj)
  have HI55 := Lib.hid (show (Tryz.prog.info? 26).map (·.size) = some 21 by kernel_rfl)
  have HT := Lib.hid (IR.there HZ.out 27 (by simp))
  go_wp2_with (first
    | refine wpList_load_mid rfl 26 (.tmp 21) rfl w.heap.size 6 rfl ([s6, s7, s8, s9, s10, s11, s12, s13, s14, s15, s16, s17, s18, s19, s20, s21, s22, s23, s24, s25, s26].map (Value.int .i64)) _ HR.out Tryz.underlying26 rfl HI55.out ?_
    | (refine wpList_store_mid rfl 28 (.tmp 2) (.tmp 23) rfl (w.heap.size + 1) 0 #[.int .i64 s0, .int .i64 s1, .int .i64 s2, .int .i64 s3, .int .i64 s4, .int .i64 s5, .int .i64 s6, .int .i64 s7, .int .i64 s8, .int .i64 s9, .int .i64 s10, .int .i64 s11, .int .i64 s12, .int .i64 s13, .int .i64 s14, .int .i64 s15, .int .i64 s16, .int .i64 s17, .int .i64 s18, .int .i64 s19, .int .i64 s20, .int .i64 s21, .int .i64 s22, .int .i64 s23, .int .i64 s24, .int .i64 s25, .int .i64 s26] ?_ ?_ ?_ ?_ ?_ ?_; (focus rfl); (focus simp [Act.eval]); (focus exact HT.out); (focus exact info_sum); (focus exact all_oneCell_toArray (by simp [Value.oneCell']))))
  refine bodyPost_ret (results_cell_mid rfl _ _ (w.heap.size + 1) 0 [.int .i64 s0, .int .i64 s1, .int .i64 s2, .int .i64 s3, .int .i64 s4, .int .i64 s5, .int .i64 s6, .int .i64 s7, .int .i64 s8, .int .i64 s9, .int .i64 s10, .int .i64 s11, .int .i64 s12, .int .i64 s13, .int .i64 s14, .int .i64 s15, .int .i64 s16, .int .i64 s17, .int .i64 s18, .int .i64 s19, .int .i64 s20, .int .i64 s21, .int .i64 s22, .int .i64 s23, .int .i64 s24, .int .i64 s25, .int .i64 s26] _ rfl (World.rangeAt_setCells_same _ _ _ _ HT.out) Tryz.underlying28 rfl info_sum) rfl ?_
  exact ⟨by rw [← HXS.out]; rfl, below_setCells _ (by omega) _ _ _ HB.out⟩
end Go.Proofs.YtkhoaaoddpjnpaaGreatDoor.Back
