/- tally.Add, walked: of its result the clashes are told. -/
import Derived.Test.YtkhoaaoddpjnpaaDoorRatio
import Derived.Deep.MidRow
import Derived.Deep.LoopGhost
import Derived.Deep.Cut
namespace Go.Proofs.YtkhoaaoddpjnpaaDoor.Add
open Go Go.RowKit Go.Proofs.YtkhoaaoddpjnpaaDoor Go.Proofs.YtkhoaaoddpjnpaaDoor.Flt Go.Proofs.YtkhoaaoddpjnpaaDoor.Cmp Go.Proofs.YtkhoaaoddpjnpaaDoor.Mem

/-- A sum's value. -/
def sumV (xs : List Int) : Value := .agg (xs.map (Value.int .i64)).toArray

theorem results_cell_mid {P : Program} {fn : Func} {p : Tmp} {ty : TypeId} (h : fn.results = #[.cell p ty]) (tmps : Array Value) (w : World) (b o : Nat) (cs : List Value) (d : TypeDesc)
    (hp : tmps.getD p undef = .pointer (some ⟨b, o, none⟩)) (hc : w.rangeAt b o cs) (hu : P.underlying ty = some d) (hd : d.isRow = true) (hi : (P.info? ty).map (·.size) = some cs.length) :
    (results fn tmps).run P w = .ok (.agg cs.toArray) w := by
  have hp' : tmps[p]?.getD undef = .pointer (some ⟨b, o, none⟩) := by simpa using hp
  simp [results, h, hp', asAddr, run_loadVar_mid w b o ty cs d hc hu hd hi]
theorem below_setCells {B : Nat} {w0 : World} (b : Nat) (hb : B ≤ b) : ∀ (vs : List Value) (o : Nat) (w : World), Below B w0 w → Below B w0 (w.setCells b o vs)
  | [], _, _, h => h
  | v :: r, o, w, h => by
    rw [World.setCells]
    exact below_setCells b hb r (o + 1) _ (h.setCell (p := ⟨b, o, none⟩) hb v)
theorem IR.range {w : World} {g : Nat} {t : TypeId} {xs : List Int} (h : IR w g t xs) : w.rangeAt g 0 (xs.map (Value.int .i64)) := by
  intro j v hv
  rw [List.getElem?_map] at hv
  obtain ⟨x, hxj, rfl⟩ := Option.map_eq_some_iff.1 hv
  rw [Nat.zero_add]
  exact h.cell hxj
theorem IR.there {w : World} {g : Nat} {t : TypeId} {xs : List Int} (h : IR w g t xs) (n : Nat) (hn : n ≤ xs.length) : w.there g 0 n := by
  intro j hj
  rw [Nat.zero_add]
  exact ⟨by rw [h.cell (List.getElem?_eq_getElem (by omega))]; rfl, h.frozen j⟩
theorem info_sum : (Tryd.prog.info? 57).map (·.size) = some 27 := by kernel_rfl

theorem run_index21 (K : List Int) (i : Nat) (y : Int) (hi : i < 21) (hy : K[i]? = some y) (w : World) :
    (Instr.index 55 (.agg (K.map (Value.int .i64)).toArray) (.int .i64 i)).run Tryd.prog w = .ok (.int .i64 y) w := by
  have hz : (Tryd.prog.info? 3).map (·.size) = some 1 := by kernel_rfl
  obtain ⟨u, hu, hs⟩ := Option.map_eq_some_iff.1 hz
  have h0 : (0 : Int) ≤ (i : Int) ∧ (i : Int) < 21 := by omega
  simp [Instr.index, run_underlying Tryd.underlying55, asIntOf, h0, part, sizeOf, typeInfo, hu, hs, hy, Tryd.isAgg3]
  intro h
  omega

set_option maxHeartbeats 4000000 in
set_option maxRecDepth 100000 in
theorem add_any (xs ys : List Int) (hx : xs.length = 27) (hy : ys.length = 27) (a b : Int) (ha : xs[2]? = some a) (hb : ys[2]? = some b) (w : World) :
    Calls Tryd.prog 34 #[sumV xs, sumV ys] w fun e w' => ∃ zs, e = .returned (sumV zs) ∧ zs.length = 27 ∧ zs[2]? = some (wrap64 (a + b)) ∧ Below w.heap.size w w' := by
  unfold sumV
  go_enter Tryd.func34, Tryd.ntmps34
  go_upto_region 1 with fail
  have HI0 := Lib.hid (show IR (((w.alloc (.cells (xs.map (Value.int .i64)).toArray 57)).alloc (.cells (ys.map (Value.int .i64)).toArray 57)).alloc (.cells #[.int .i64 0, .int .i64 0, .int .i64 0, .int .i64 0, .int .i64 0, .int .i64 0, .int .i64 0, .int .i64 0, .int .i64 0, .int .i64 0, .int .i64 0, .int .i64 0, .int .i64 0, .int .i64 0, .int .i64 0, .int .i64 0, .int .i64 0, .int .i64 0, .int .i64 0, .int .i64 0, .int .i64 0, .int .i64 0, .int .i64 0, .int .i64 0, .int .i64 0, .int .i64 0, .int .i64 0] 57)) w.heap.size 57 xs from ((show IR (w.alloc (.cells (xs.map (Value.int .i64)).toArray 57)) w.heap.size 57 xs from heap_alloc_new w _).alloc _).alloc _)
  have HJ0 := Lib.hid (show IR (((w.alloc (.cells (xs.map (Value.int .i64)).toArray 57)).alloc (.cells (ys.map (Value.int .i64)).toArray 57)).alloc (.cells #[.int .i64 0, .int .i64 0, .int .i64 0, .int .i64 0, .int .i64 0, .int .i64 0, .int .i64 0, .int .i64 0, .int .i64 0, .int .i64 0, .int .i64 0, .int .i64 0, .int .i64 0, .int .i64 0, .int .i64 0, .int .i64 0, .int .i64 0, .int .i64 0, .int .i64 0, .int .i64 0, .int .i64 0, .int .i64 0, .int .i64 0, .int .i64 0, .int .i64 0, .int .i64 0, .int .i64 0] 57)) (w.heap.size + 1) 57 ys from (show IR ((w.alloc (.cells (xs.map (Value.int .i64)).toArray 57)).alloc (.cells (ys.map (Value.int .i64)).toArray 57)) (w.heap.size + 1) 57 ys from heap_alloc2_new w _ _).alloc _)
  have HZ0 := Lib.hid (show IR (((w.alloc (.cells (xs.map (Value.int .i64)).toArray 57)).alloc (.cells (ys.map (Value.int .i64)).toArray 57)).alloc (.cells #[.int .i64 0, .int .i64 0, .int .i64 0, .int .i64 0, .int .i64 0, .int .i64 0, .int .i64 0, .int .i64 0, .int .i64 0, .int .i64 0, .int .i64 0, .int .i64 0, .int .i64 0, .int .i64 0, .int .i64 0, .int .i64 0, .int .i64 0, .int .i64 0, .int .i64 0, .int .i64 0, .int .i64 0, .int .i64 0, .int .i64 0, .int .i64 0, .int .i64 0, .int .i64 0, .int .i64 0] 57)) (w.heap.size + 1 + 1) 57 (List.replicate 27 0) from by
    have h := heap_alloc_new ((w.alloc (.cells (xs.map (Value.int .i64)).toArray 57)).alloc (.cells (ys.map (Value.int .i64)).toArray 57)) (.cells #[.int .i64 0, .int .i64 0, .int .i64 0, .int .i64 0, .int .i64 0, .int .i64 0, .int .i64 0, .int .i64 0, .int .i64 0, .int .i64 0, .int .i64 0, .int .i64 0, .int .i64 0, .int .i64 0, .int .i64 0, .int .i64 0, .int .i64 0, .int .i64 0, .int .i64 0, .int .i64 0, .int .i64 0, .int .i64 0, .int .i64 0, .int .i64 0, .int .i64 0, .int .i64 0, .int .i64 0] 57)
    rw [show ((w.alloc (.cells (xs.map (Value.int .i64)).toArray 57)).alloc (.cells (ys.map (Value.int .i64)).toArray 57)).heap.size = w.heap.size + 1 + 1 by simp] at h
    exact h)
  have HB0 := Lib.hid ((((Below.refl w.heap.size w).alloc (Nat.le_refl _) (.cells (xs.map (Value.int .i64)).toArray 57)).alloc (by simp) (.cells (ys.map (Value.int .i64)).toArray 57)).alloc (by simp; omega) (.cells #[.int .i64 0, .int .i64 0, .int .i64 0, .int .i64 0, .int .i64 0, .int .i64 0, .int .i64 0, .int .i64 0, .int .i64 0, .int .i64 0, .int .i64 0, .int .i64 0, .int .i64 0, .int .i64 0, .int .i64 0, .int .i64 0, .int .i64 0, .int .i64 0, .int .i64 0, .int .i64 0, .int .i64 0, .int .i64 0, .int .i64 0, .int .i64 0, .int .i64 0, .int .i64 0, .int .i64 0] 57))
  generalize ((w.alloc (.cells (xs.map (Value.int .i64)).toArray 57)).alloc (.cells (ys.map (Value.int .i64)).toArray 57)).alloc (.cells #[.int .i64 0, .int .i64 0, .int .i64 0, .int .i64 0, .int .i64 0, .int .i64 0, .int .i64 0, .int .i64 0, .int .i64 0, .int .i64 0, .int .i64 0, .int .i64 0, .int .i64 0, .int .i64 0, .int .i64 0, .int .i64 0, .int .i64 0, .int .i64 0, .int .i64 0, .int .i64 0, .int .i64 0, .int .i64 0, .int .i64 0, .int .i64 0, .int .i64 0, .int .i64 0, .int .i64 0] 57) = W0 at *
  have HX0 := Lib.hid hx
  have HY := Lib.hid hy
  clear hx hy
  obtain ⟨X0, E0⟩ : ∃ X, xs = X := ⟨_, rfl⟩
  rw [E0] at HI0 HX0
  have HE0 := Lib.hid E0
  clear E0
  obtain ⟨x0, hx0⟩ : ∃ x, (X0)[0]? = some x := ⟨_, List.getElem?_eq_getElem (by rw [HX0.out]; decide)⟩
  obtain ⟨y0, hy0⟩ : ∃ y, ys[0]? = some y := ⟨_, List.getElem?_eq_getElem (by rw [HY.out]; decide)⟩
  have cx0 := HI0.out.cell hx0
  have cy0 := HJ0.out.cell hy0
  have fx0 := HI0.out.frozen 0
  have Hx0 := Lib.hid hx0
  have Hy0 := Lib.hid hy0
  clear hx0 hy0
  go_upto_region 2 with fail
  have HI1 := Lib.hid (HI0.out.set_ 0 (wrap64 (x0 + y0)))
  have HJ1 := Lib.hid (HJ0.out.far (p := ⟨w.heap.size, 0, none⟩) (by simp) (.int .i64 (wrap64 (x0 + y0))))
  have HZ1 := Lib.hid (HZ0.out.far (p := ⟨w.heap.size, 0, none⟩) (by simp; omega) (.int .i64 (wrap64 (x0 + y0))))
  have HB1 := Lib.hid (HB0.out.setCell (p := ⟨w.heap.size, 0, none⟩) (Nat.le_refl _) (.int .i64 (wrap64 (x0 + y0))))
  have HX1 := Lib.hid (show ((X0).set 0 (wrap64 (x0 + y0))).length = 27 by rw [List.length_set]; exact HX0.out)
  clear cx0 cy0 fx0
  generalize W0.setCell ⟨w.heap.size, 0, none⟩ (.int .i64 (wrap64 (x0 + y0))) = W1 at *
  obtain ⟨X1, E1⟩ : ∃ X, (X0).set 0 (wrap64 (x0 + y0)) = X := ⟨_, rfl⟩
  rw [E1] at HI1 HX1
  have HE1 := Lib.hid E1
  clear E1
  obtain ⟨x1, hx1⟩ : ∃ x, (X1)[1]? = some x := ⟨_, List.getElem?_eq_getElem (by rw [HX1.out]; decide)⟩
  obtain ⟨y1, hy1⟩ : ∃ y, ys[1]? = some y := ⟨_, List.getElem?_eq_getElem (by rw [HY.out]; decide)⟩
  have cx1 := HI1.out.cell hx1
  have cy1 := HJ1.out.cell hy1
  have fx1 := HI1.out.frozen 1
  have Hx1 := Lib.hid hx1
  have Hy1 := Lib.hid hy1
  clear hx1 hy1
  go_upto_region 3 with fail
  have HI2 := Lib.hid (HI1.out.set_ 1 (wrap64 (x1 + y1)))
  have HJ2 := Lib.hid (HJ1.out.far (p := ⟨w.heap.size, 1, none⟩) (by simp) (.int .i64 (wrap64 (x1 + y1))))
  have HZ2 := Lib.hid (HZ1.out.far (p := ⟨w.heap.size, 1, none⟩) (by simp; omega) (.int .i64 (wrap64 (x1 + y1))))
  have HB2 := Lib.hid (HB1.out.setCell (p := ⟨w.heap.size, 1, none⟩) (Nat.le_refl _) (.int .i64 (wrap64 (x1 + y1))))
  have HX2 := Lib.hid (show ((X1).set 1 (wrap64 (x1 + y1))).length = 27 by rw [List.length_set]; exact HX1.out)
  clear cx1 cy1 fx1
  generalize W1.setCell ⟨w.heap.size, 1, none⟩ (.int .i64 (wrap64 (x1 + y1))) = W2 at *
  obtain ⟨X2, E2⟩ : ∃ X, (X1).set 1 (wrap64 (x1 + y1)) = X := ⟨_, rfl⟩
  rw [E2] at HI2 HX2
  have HE2 := Lib.hid E2
  clear E2
  obtain ⟨x2, hx2⟩ : ∃ x, (X2)[2]? = some x := ⟨_, List.getElem?_eq_getElem (by rw [HX2.out]; decide)⟩
  obtain ⟨y2, hy2⟩ : ∃ y, ys[2]? = some y := ⟨_, List.getElem?_eq_getElem (by rw [HY.out]; decide)⟩
  have cx2 := HI2.out.cell hx2
  have cy2 := HJ2.out.cell hy2
  have fx2 := HI2.out.frozen 2
  have Hx2 := Lib.hid hx2
  have Hy2 := Lib.hid hy2
  clear hx2 hy2
  go_upto_region 4 with fail
  have HI3 := Lib.hid (HI2.out.set_ 2 (wrap64 (x2 + y2)))
  have HJ3 := Lib.hid (HJ2.out.far (p := ⟨w.heap.size, 2, none⟩) (by simp) (.int .i64 (wrap64 (x2 + y2))))
  have HZ3 := Lib.hid (HZ2.out.far (p := ⟨w.heap.size, 2, none⟩) (by simp; omega) (.int .i64 (wrap64 (x2 + y2))))
  have HB3 := Lib.hid (HB2.out.setCell (p := ⟨w.heap.size, 2, none⟩) (Nat.le_refl _) (.int .i64 (wrap64 (x2 + y2))))
  have HX3 := Lib.hid (show ((X2).set 2 (wrap64 (x2 + y2))).length = 27 by rw [List.length_set]; exact HX2.out)
  clear cx2 cy2 fx2
  generalize W2.setCell ⟨w.heap.size, 2, none⟩ (.int .i64 (wrap64 (x2 + y2))) = W3 at *
  obtain ⟨X3, E3⟩ : ∃ X, (X2).set 2 (wrap64 (x2 + y2)) = X := ⟨_, rfl⟩
  rw [E3] at HI3 HX3
  have HE3 := Lib.hid E3
  clear E3
  obtain ⟨x3, hx3⟩ : ∃ x, (X3)[3]? = some x := ⟨_, List.getElem?_eq_getElem (by rw [HX3.out]; decide)⟩
  obtain ⟨y3, hy3⟩ : ∃ y, ys[3]? = some y := ⟨_, List.getElem?_eq_getElem (by rw [HY.out]; decide)⟩
  have cx3 := HI3.out.cell hx3
  have cy3 := HJ3.out.cell hy3
  have fx3 := HI3.out.frozen 3
  have Hx3 := Lib.hid hx3
  have Hy3 := Lib.hid hy3
  clear hx3 hy3
  go_upto_region 5 with fail
  have HI4 := Lib.hid (HI3.out.set_ 3 (wrap64 (x3 + y3)))
  have HJ4 := Lib.hid (HJ3.out.far (p := ⟨w.heap.size, 3, none⟩) (by simp) (.int .i64 (wrap64 (x3 + y3))))
  have HZ4 := Lib.hid (HZ3.out.far (p := ⟨w.heap.size, 3, none⟩) (by simp; omega) (.int .i64 (wrap64 (x3 + y3))))
  have HB4 := Lib.hid (HB3.out.setCell (p := ⟨w.heap.size, 3, none⟩) (Nat.le_refl _) (.int .i64 (wrap64 (x3 + y3))))
  have HX4 := Lib.hid (show ((X3).set 3 (wrap64 (x3 + y3))).length = 27 by rw [List.length_set]; exact HX3.out)
  clear cx3 cy3 fx3
  generalize W3.setCell ⟨w.heap.size, 3, none⟩ (.int .i64 (wrap64 (x3 + y3))) = W4 at *
  obtain ⟨X4, E4⟩ : ∃ X, (X3).set 3 (wrap64 (x3 + y3)) = X := ⟨_, rfl⟩
  rw [E4] at HI4 HX4
  have HE4 := Lib.hid E4
  clear E4
  obtain ⟨x4, hx4⟩ : ∃ x, (X4)[4]? = some x := ⟨_, List.getElem?_eq_getElem (by rw [HX4.out]; decide)⟩
  obtain ⟨y4, hy4⟩ : ∃ y, ys[4]? = some y := ⟨_, List.getElem?_eq_getElem (by rw [HY.out]; decide)⟩
  have cx4 := HI4.out.cell hx4
  have cy4 := HJ4.out.cell hy4
  have fx4 := HI4.out.frozen 4
  have Hx4 := Lib.hid hx4
  have Hy4 := Lib.hid hy4
  clear hx4 hy4
  go_upto_region 6 with fail
  have HI5 := Lib.hid (HI4.out.set_ 4 (wrap64 (x4 + y4)))
  have HJ5 := Lib.hid (HJ4.out.far (p := ⟨w.heap.size, 4, none⟩) (by simp) (.int .i64 (wrap64 (x4 + y4))))
  have HZ5 := Lib.hid (HZ4.out.far (p := ⟨w.heap.size, 4, none⟩) (by simp; omega) (.int .i64 (wrap64 (x4 + y4))))
  have HB5 := Lib.hid (HB4.out.setCell (p := ⟨w.heap.size, 4, none⟩) (Nat.le_refl _) (.int .i64 (wrap64 (x4 + y4))))
  have HX5 := Lib.hid (show ((X4).set 4 (wrap64 (x4 + y4))).length = 27 by rw [List.length_set]; exact HX4.out)
  clear cx4 cy4 fx4
  generalize W4.setCell ⟨w.heap.size, 4, none⟩ (.int .i64 (wrap64 (x4 + y4))) = W5 at *
  obtain ⟨X5, E5⟩ : ∃ X, (X4).set 4 (wrap64 (x4 + y4)) = X := ⟨_, rfl⟩
  rw [E5] at HI5 HX5
  have HE5 := Lib.hid E5
  clear E5
  obtain ⟨x5, hx5⟩ : ∃ x, (X5)[5]? = some x := ⟨_, List.getElem?_eq_getElem (by rw [HX5.out]; decide)⟩
  obtain ⟨y5, hy5⟩ : ∃ y, ys[5]? = some y := ⟨_, List.getElem?_eq_getElem (by rw [HY.out]; decide)⟩
  have cx5 := HI5.out.cell hx5
  have cy5 := HJ5.out.cell hy5
  have fx5 := HI5.out.frozen 5
  have Hx5 := Lib.hid hx5
  have Hy5 := Lib.hid hy5
  clear hx5 hy5
  go_upto_region 7 with fail
  have HI6 := Lib.hid (HI5.out.set_ 5 (wrap64 (x5 + y5)))
  have HJ6 := Lib.hid (HJ5.out.far (p := ⟨w.heap.size, 5, none⟩) (by simp) (.int .i64 (wrap64 (x5 + y5))))
  have HZ6 := Lib.hid (HZ5.out.far (p := ⟨w.heap.size, 5, none⟩) (by simp; omega) (.int .i64 (wrap64 (x5 + y5))))
  have HB6 := Lib.hid (HB5.out.setCell (p := ⟨w.heap.size, 5, none⟩) (Nat.le_refl _) (.int .i64 (wrap64 (x5 + y5))))
  have HX6 := Lib.hid (show ((X5).set 5 (wrap64 (x5 + y5))).length = 27 by rw [List.length_set]; exact HX5.out)
  clear cx5 cy5 fx5
  generalize W5.setCell ⟨w.heap.size, 5, none⟩ (.int .i64 (wrap64 (x5 + y5))) = W6 at *
  obtain ⟨X6, E6⟩ : ∃ X, (X5).set 5 (wrap64 (x5 + y5)) = X := ⟨_, rfl⟩
  rw [E6] at HI6 HX6
  have HE6 := Lib.hid E6
  clear E6
  obtain ⟨K21, hK21⟩ : ∃ K, ys.drop 6 = K := ⟨_, rfl⟩
  have HK21 := Lib.hid (show K21.length = 21 by rw [← hK21, List.length_drop, HY.out])
  have hrange : W6.rangeAt (w.heap.size + 1) 6 (K21.map (Value.int .i64)) := by
    intro j v hv
    rw [List.getElem?_map] at hv
    obtain ⟨x, hxj, rfl⟩ := Option.map_eq_some_iff.1 hv
    rw [← hK21, List.getElem?_drop] at hxj
    exact HJ6.out.cell hxj
  have HR := Lib.hid hrange
  have HI55 := Lib.hid (show (Tryd.prog.info? 55).map (·.size) = some (K21.map (Value.int .i64)).length by rw [List.length_map, HK21.out]; kernel_rfl)
  clear hrange hK21
  go_wp2_with (refine wpList_load_mid rfl 55 (.tmp 43) rfl (w.heap.size + 1) 6 rfl (K21.map (Value.int .i64)) _ HR.out Tryd.underlying55 rfl HI55.out ?_)
  go_loopg [45] 21 (fun g s45 wx => ∃ (i : Nat) (X : List Int), i + g = 21 ∧ s45 = .int .i64 i ∧ IR wx w.heap.size 57 X ∧ IR wx (w.heap.size + 1 + 1) 57 (List.replicate 27 0) ∧ X.length = 27 ∧ X[2]? = X6[2]? ∧ Below w.heap.size w wx)
  case atStart => exact ⟨0, X6, by omega, rfl, HI6.out, HZ6.out, HX6.out, rfl, HB6.out⟩
  case round =>
    obtain ⟨i, X, hig, rfl, hI, hZ, hX, h2, hB⟩ := hrel
    have HI := Lib.hid hI
    have HZ := Lib.hid hZ
    have HX := Lib.hid hX
    have H2 := Lib.hid h2
    have HB := Lib.hid hB
    clear hI hZ hX h2 hB
    cases gk with
    | zero =>
      have hiz : ¬ ((i : Int) < 21) := by omega
      have HS := Lib.hid (show (Tryd.prog.info? 57).map (·.size) = some (X.map (Value.int .i64)).length by rw [List.length_map, HX.out]; exact info_sum)
      have HS2 := Lib.hid (show (Tryd.prog.info? 57).map (·.size) = some (X.map (Value.int .i64)).toArray.size by rw [List.size_toArray]; exact HS.out)
      have HT := Lib.hid (show wr.there (w.heap.size + 1 + 1) 0 (X.map (Value.int .i64)).toArray.size from by rw [show (X.map (Value.int .i64)).toArray.size = 27 by rw [List.size_toArray, List.length_map, HX.out]]; exact IR.there HZ.out 27 (by simp))
      have HT2 := Lib.hid (show wr.there (w.heap.size + 1 + 1) 0 (X.map (Value.int .i64)).length from by rw [List.length_map, HX.out]; exact IR.there HZ.out 27 (by simp))
      have HO := Lib.hid (all_oneCell_toArray (cs := X.map (Value.int .i64)) (fun v hv => by obtain ⟨x, _, rfl⟩ := List.mem_map.1 hv; rfl))
      have HE := Lib.hid (show X[2]? = some (wrap64 (a + b)) from by
        have e1 : xs = X0 := HE0.out
        have ea : x2 = a := by
          have h := Hx2.out
          rw [← HE2.out, List.getElem?_set_ne (by decide), ← HE1.out, List.getElem?_set_ne (by decide), ← e1, ha] at h
          exact (Option.some.inj h).symm
        have eb : y2 = b := by
          have h := Hy2.out
          rw [hb] at h
          exact (Option.some.inj h).symm
        rw [H2.out, ← HE6.out, List.getElem?_set_ne (by decide), ← HE5.out, List.getElem?_set_ne (by decide), ← HE4.out, List.getElem?_set_ne (by decide), ← HE3.out, List.getElem?_set_self (by rw [HX2.out]; decide), ea, eb])
      go_wp2_with (first
        | refine wpList_load_mid rfl 57 (.tmp 2) rfl w.heap.size 0 rfl (X.map (Value.int .i64)) _ (IR.range HI.out) Tryd.underlying57 rfl HS.out ?_
        | refine wpList_store_mid rfl 57 (.tmp 4) (.tmp 58) rfl (w.heap.size + 1 + 1) 0 (X.map (Value.int .i64)).toArray rfl rfl HT.out HS2.out HO.out ?_)
      refine bodyPost_ret (results_cell_mid rfl _ _ (w.heap.size + 1 + 1) 0 (X.map (Value.int .i64)) _ rfl (World.rangeAt_setCells_same _ _ _ _ HT2.out) Tryd.underlying57 rfl HS.out) rfl ?_
      exact ⟨X, rfl, HX.out, HE.out, below_setCells _ (by omega) _ _ _ HB.out⟩
    | succ g =>
      have hiz : (i : Int) < 21 := by omega
      obtain ⟨x, hx⟩ : ∃ x, X[6 + i]? = some x := ⟨_, List.getElem?_eq_getElem (by rw [HX.out]; omega)⟩
      obtain ⟨y, hy⟩ : ∃ y, K21[i]? = some y := ⟨_, List.getElem?_eq_getElem (by rw [HK21.out]; omega)⟩
      have cx := HI.out.cell hx
      have fx := HI.out.frozen (6 + i)
      have hyv := fun W => run_index21 K21 i y (by omega) hy W
      clear hx hy
      go_wp2_with fail
      go_roundg g
      case measure => omega
      case rel => exact ⟨i + 1, X.set (6 + i) (wrap64 (x + y)), by omega, by go_num, HI.out.set_ _ _, HZ.out.far (by simp; omega) _, by rw [List.length_set]; exact HX.out, by rw [List.getElem?_set_ne (by omega)]; exact H2.out, HB.out.setCell (Nat.le_refl _) _⟩
end Go.Proofs.YtkhoaaoddpjnpaaDoor.Add
