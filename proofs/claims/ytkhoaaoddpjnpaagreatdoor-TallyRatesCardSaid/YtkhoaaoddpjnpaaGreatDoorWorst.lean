/- tally.Worst, walked. -/
import Derived.Test.YtkhoaaoddpjnpaaGreatDoorSums
import Derived.Test.YtkhoaaoddpjnpaaGreatDoorExt
namespace Go.Proofs.YtkhoaaoddpjnpaaGreatDoor.Worst
open Go Go.RowKit Go.Proofs.YtkhoaaoddpjnpaaGreatDoor Go.Proofs.YtkhoaaoddpjnpaaGreatDoor.Flt Go.Proofs.YtkhoaaoddpjnpaaGreatDoor.Cmp Go.Proofs.YtkhoaaoddpjnpaaGreatDoor.Mem Go.Proofs.YtkhoaaoddpjnpaaGreatDoor.Add Go.Proofs.YtkhoaaoddpjnpaaGreatDoor.Ratio Go.Proofs.YtkhoaaoddpjnpaaGreatDoor.Sums

/-- Place k is the first of the greatest rates among the first i (0, if there is none). -/
def Top (l : List (List Int)) (i k : Nat) : Prop := (i = 0 → k = 0) ∧ (0 < i → k < i) ∧ ∀ j x y, l[j]? = some x → l[k]? = some y → (j < i → ck x ≤ ck y) ∧ (j < k → ck x < ck y)

theorem top_new {l : List (List Int)} {i k : Nat} {s t : List Int} (ht : l[k]? = some t) (hs : l[i]? = some s) (h : Top l i k) (hlt : ck t < ck s) : Top l (i + 1) i := by
  obtain ⟨h0, h1, h2⟩ := h
  refine ⟨by omega, by omega, fun j x y hx hy => ?_⟩
  rw [hs] at hy; cases hy
  have ha := (h2 j x t hx ht).1
  refine ⟨fun hj => ?_, fun hj => by have := ha hj; omega⟩
  rcases Nat.lt_or_ge j i with hji | hji
  · have := ha hji; omega
  · obtain rfl : j = i := by omega
    rw [hs] at hx; cases hx; omega
theorem top_old {l : List (List Int)} {i k : Nat} {s t : List Int} (ht : l[k]? = some t) (hs : l[i]? = some s) (h : Top l i k) (hlt : ck s ≤ ck t) : Top l (i + 1) k := by
  obtain ⟨h0, h1, h2⟩ := h
  refine ⟨by omega, by omega, fun j x y hx hy => ?_⟩
  rw [ht] at hy; cases hy
  refine ⟨fun hj => ?_, (h2 j x t hx ht).2⟩
  rcases Nat.lt_or_ge j i with hji | hji
  · exact (h2 j x t hx ht).1 hji
  · obtain rfl : j = i := by omega
    rw [hs] at hx; cases hx; omega

set_option maxHeartbeats 4000000 in
set_option maxRecDepth 100000 in
theorem worst_any (A : Option Addr) (c : Nat) (l : List (List Int)) (m : Nat) (w : World) (hl : l.length = m) (fl : SS w w.heap.size A l) (hm : m ≤ 1000) :
    Calls Tryz.prog 9 #[.slice A m c] w fun e w' => ∃ k : Nat, e = .returned (.tuple #[.int .i64 k, .bool (decide (0 < m))]) ∧ Top l m k ∧ Below w.heap.size w w' := by
  have Hl := Lib.hid hl
  have Fl := Lib.hid fl
  clear hl fl
  go_enter Tryz.func9, Tryz.ntmps9
  go_wp2_with fail
  go_loopg [4, 9] m (fun g s4 s9 wx => ∃ i k : Nat, i + g = m ∧ s9 = .int .i64 i ∧ s4 = .int .i64 k ∧ Top l i k ∧ Below w.heap.size w wx)
  case atStart => exact ⟨0, 0, by omega, rfl, rfl, ⟨fun _ => rfl, fun h => absurd h (by omega), fun j x y _ _ => ⟨fun h => absurd h (by omega), fun h => absurd h (by omega)⟩⟩, Below.refl _ _⟩
  case round =>
    obtain ⟨i, k, hig, rfl, rfl, ht, hb⟩ := hrel
    have HT := Lib.hid ht
    have HB := Lib.hid hb
    clear ht hb
    cases gk with
    | zero =>
      have hiz : ¬ ((i : Int) < (m : Int)) := by omega
      obtain rfl : i = m := by omega
      go_wp2_with fail
      go_ret2
      exact ⟨k, by simp, HT.out, HB.out⟩
    | succ g =>
      have hiz : (i : Int) < (m : Int) := by omega
      obtain ⟨b, o, rfl, hlt, hc⟩ := Fl.out.2 (by rintro rfl; have := Hl.out; simp at this; omega)
      obtain ⟨s, hs⟩ : ∃ s, l[i]? = some s := ⟨_, List.getElem?_eq_getElem (by rw [Hl.out]; omega)⟩
      have hs27 := Fl.out.1 s (List.mem_of_getElem? hs)
      have HR := Lib.hid (show wr.rangeAt b (o + i * 27) (s.map (Value.int .i64)) from fun k v hv => (HB.out.cell (p := ⟨b, o + i * 27 + k, none⟩) hlt).trans (hc i s hs k v hv))
      have HS := Lib.hid (show (Tryz.prog.info? 28).map (·.size) = some (s.map (Value.int .i64)).length by rw [List.length_map, hs27]; exact info_sum)
      have HC := Lib.hid hc
      have HLT := Lib.hid hlt
      have Hs := Lib.hid hs
      have Hs27 := Lib.hid hs27
      clear hc hlt hs hs27
      have HZ := Lib.hid (show IR (wr.alloc (.cells #[.int .i64 0, .int .i64 0, .int .i64 0, .int .i64 0, .int .i64 0, .int .i64 0, .int .i64 0, .int .i64 0, .int .i64 0, .int .i64 0, .int .i64 0, .int .i64 0, .int .i64 0, .int .i64 0, .int .i64 0, .int .i64 0, .int .i64 0, .int .i64 0, .int .i64 0, .int .i64 0, .int .i64 0, .int .i64 0, .int .i64 0, .int .i64 0, .int .i64 0, .int .i64 0, .int .i64 0] 28)) wr.heap.size 28 (List.replicate 27 0) from heap_alloc_new wr _)
      have HTh := Lib.hid (show (wr.alloc (.cells #[.int .i64 0, .int .i64 0, .int .i64 0, .int .i64 0, .int .i64 0, .int .i64 0, .int .i64 0, .int .i64 0, .int .i64 0, .int .i64 0, .int .i64 0, .int .i64 0, .int .i64 0, .int .i64 0, .int .i64 0, .int .i64 0, .int .i64 0, .int .i64 0, .int .i64 0, .int .i64 0, .int .i64 0, .int .i64 0, .int .i64 0, .int .i64 0, .int .i64 0, .int .i64 0, .int .i64 0] 28)).there wr.heap.size 0 (s.map (Value.int .i64)).toArray.size from by rw [show (s.map (Value.int .i64)).toArray.size = 27 by rw [List.size_toArray, List.length_map, Hs27.out]]; exact IR.there HZ.out 27 (by simp))
      have HS2 := Lib.hid (show (Tryz.prog.info? 28).map (·.size) = some (s.map (Value.int .i64)).toArray.size by rw [List.size_toArray]; exact HS.out)
      have HO := Lib.hid (all_oneCell_toArray (cs := s.map (Value.int .i64)) (fun v hv => by obtain ⟨x, _, rfl⟩ := List.mem_map.1 hv; rfl))
      go_wp2_with (first
        | refine wpList_load_mid rfl 28 (.tmp 12) rfl b (o + i * 27) rfl (s.map (Value.int .i64)) _ HR.out Tryz.underlying28 rfl HS.out ?_
        | refine wpList_store_mid rfl 28 (.tmp 6) (.tmp 13) rfl wr.heap.size 0 (s.map (Value.int .i64)).toArray rfl rfl HTh.out HS2.out HO.out ?_)
      have HB1 := Lib.hid (below_setCells wr.heap.size (Nat.le_refl wr.heap.size) (s.map (Value.int .i64)) 0 _ ((Below.refl wr.heap.size wr).alloc (Nat.le_refl _) (.cells #[.int .i64 0, .int .i64 0, .int .i64 0, .int .i64 0, .int .i64 0, .int .i64 0, .int .i64 0, .int .i64 0, .int .i64 0, .int .i64 0, .int .i64 0, .int .i64 0, .int .i64 0, .int .i64 0, .int .i64 0, .int .i64 0, .int .i64 0, .int .i64 0, .int .i64 0, .int .i64 0, .int .i64 0, .int .i64 0, .int .i64 0, .int .i64 0, .int .i64 0, .int .i64 0, .int .i64 0] 28)))
      have HR1 := Lib.hid (World.rangeAt_setCells_same _ _ _ _ (show (wr.alloc (.cells #[.int .i64 0, .int .i64 0, .int .i64 0, .int .i64 0, .int .i64 0, .int .i64 0, .int .i64 0, .int .i64 0, .int .i64 0, .int .i64 0, .int .i64 0, .int .i64 0, .int .i64 0, .int .i64 0, .int .i64 0, .int .i64 0, .int .i64 0, .int .i64 0, .int .i64 0, .int .i64 0, .int .i64 0, .int .i64 0, .int .i64 0, .int .i64 0, .int .i64 0, .int .i64 0, .int .i64 0] 28)).there wr.heap.size 0 (s.map (Value.int .i64)).length from by have h := HTh.out; rwa [List.size_toArray] at h))
      have hS1 : ((wr.alloc (.cells #[.int .i64 0, .int .i64 0, .int .i64 0, .int .i64 0, .int .i64 0, .int .i64 0, .int .i64 0, .int .i64 0, .int .i64 0, .int .i64 0, .int .i64 0, .int .i64 0, .int .i64 0, .int .i64 0, .int .i64 0, .int .i64 0, .int .i64 0, .int .i64 0, .int .i64 0, .int .i64 0, .int .i64 0, .int .i64 0, .int .i64 0, .int .i64 0, .int .i64 0, .int .i64 0, .int .i64 0] 28)).setCells wr.heap.size 0 (s.map (Value.int .i64))).heap.size = wr.heap.size + 1 := by
        rw [size_setCells]; simp
      have HS1 := Lib.hid hS1
      clear hS1 HZ HTh
      generalize (wr.alloc (.cells #[.int .i64 0, .int .i64 0, .int .i64 0, .int .i64 0, .int .i64 0, .int .i64 0, .int .i64 0, .int .i64 0, .int .i64 0, .int .i64 0, .int .i64 0, .int .i64 0, .int .i64 0, .int .i64 0, .int .i64 0, .int .i64 0, .int .i64 0, .int .i64 0, .int .i64 0, .int .i64 0, .int .i64 0, .int .i64 0, .int .i64 0, .int .i64 0, .int .i64 0, .int .i64 0, .int .i64 0] 28)).setCells wr.heap.size 0 (s.map (Value.int .i64)) = W1 at *
      obtain ⟨t, ht⟩ : ∃ t, l[k]? = some t := ⟨_, List.getElem?_eq_getElem (by rw [Hl.out]; have := HT.out.1; have := HT.out.2.1; omega)⟩
      have ht27 := Fl.out.1 t (List.mem_of_getElem? ht)
      have hkm : (k : Int) < (m : Int) := by have := (List.getElem?_eq_some_iff.1 ht).1; rw [Hl.out] at this; omega
      have HR2 := Lib.hid (show W1.rangeAt b (o + k * 27) (t.map (Value.int .i64)) from range_below (range_below (HC.out k t ht) HB.out HLT.out) HB1.out (by have := HB.out.size; have := HLT.out; omega))
      have hr1 := HR1.out
      have hr2 := HR2.out
      have hu := Tryz.underlying28
      have hs1 : (Tryz.prog.info? 28).map (·.size) = some (s.map (Value.int .i64)).length := HS.out
      have hs2 : (Tryz.prog.info? 28).map (·.size) = some (t.map (Value.int .i64)).length := by rw [List.length_map, ht27]; exact info_sum
      have HLT2 := Lib.hid (show b < W1.heap.size by rw [HS1.out]; have := HB.out.size; have := HLT.out; omega)
      have HLT3 := Lib.hid (show wr.heap.size < W1.heap.size by rw [HS1.out]; omega)
      have CS := Lib.hid (fun W => rate_m s Hs27.out W)
      have CT := Lib.hid (fun W => rate_m t ht27 W)
      have hix := index4
      have Ht := Lib.hid ht
      have Ht27 := Lib.hid ht27
      clear ht ht27
      refine wp_region_held_drew (S := fun w' => w'.rangeAt wr.heap.size 0 (s.map (Value.int .i64)) ∧ w'.rangeAt b (o + k * 27) (t.map (Value.int .i64)) ∧ W1.heap.size ≤ w'.heap.size) (by kernel_rfl) ?_ (fun hHeld => ?_)
      · exact ⟨HR1.out, HR2.out, Nat.le_refl _⟩
      refine' wpAnyH_take (i := 0) (v := _) rfl (by kernel_rfl) (by kernel_rfl) (by kernel_rfl) (fun _ _ _ h => h) (yieldsIf_load_mid (by rfl) _ _ rfl _ _ rfl _ _ (fun _ h => h.1) hu rfl hs1) (by assumption) ?_
      try simp only [Act.put, List.setIfInBounds_toArray, List.set_cons_zero, List.set_cons_succ]
      refine wpAnyH_take (i := 3) (oi := { dst := some 17, op := .move (.tmp 0), type := 25, pos := "tally.go:89", after := #[], guard := none }) (v := ?_) rfl (by kernel_rfl) (by kernel_rfl) (by kernel_rfl) (fun _ _ _ h => h) (Or.inl ⟨by rfl, ?_⟩) (by assumption) ?_
      rotate_left
      · (intro w hSw; (try dsimp only at hSw); go_simp; try with_reducible rfl)
      try simp only [Act.put, List.setIfInBounds_toArray, List.set_cons_zero, List.set_cons_succ]
      refine wpAnyH_take (i := 4) (oi := { dst := some 18, op := .move (.tmp 4), type := 3, pos := "tally.go:89", after := #[], guard := none }) (v := ?_) rfl (by kernel_rfl) (by kernel_rfl) (by kernel_rfl) (fun _ _ _ h => h) (Or.inl ⟨by rfl, ?_⟩) (by assumption) ?_
      rotate_left
      · (intro w hSw; (try dsimp only at hSw); go_simp; try with_reducible rfl)
      try simp only [Act.put, List.setIfInBounds_toArray, List.set_cons_zero, List.set_cons_succ]
      refine wpAnyH_take (i := 5) (oi := { dst := some 19, op := .indexAddr 25 (.tmp 17) (.tmp 18), type := 0, pos := "tally.go:89", after := #[{ on := 3, ground := .data }, { on := 4, ground := .data }], guard := none }) (v := ?_) rfl (by kernel_rfl) (by kernel_rfl) (by kernel_rfl) (fun _ _ _ h => h) (Or.inl ⟨by rfl, ?_⟩) (by assumption) ?_
      rotate_left
      · (intro w hSw; (try dsimp only at hSw); go_simp; try with_reducible rfl)
      try simp only [Act.put, List.setIfInBounds_toArray, List.set_cons_zero, List.set_cons_succ]
      refine' wpAnyH_take (i := 6) (v := _) rfl (by kernel_rfl) (by kernel_rfl) (by kernel_rfl) (fun _ _ _ h => h) (yieldsIf_load_mid (by rfl) _ _ rfl _ _ rfl _ _ (fun _ h => h.2.1) hu rfl hs2) (by assumption) ?_
      try simp only [Act.put, List.setIfInBounds_toArray, List.set_cons_zero, List.set_cons_succ]
      refine wpAnyH_ready (rs := [1]) (by kernel_rfl) (by simp) ?_
      refine AllReadyH.cons (o := { dst := some 15, op := .call { callee := .value (.func 6), args := #[.tmp 14], argTypes := #[28] }, type := 34, pos := "tally.go:89", after := #[{ on := 0, ground := .data }], guard := none }) rfl (fun K hK => ?_) ?_
      rotate_left
      · exact AllReadyH.nil
      go_simp
      (go_at_call 6; refine (CS.out _).mono ?_; rintro e w1 ⟨r0, r1, r2, r3, rfl, hbn, hk1, hr1'⟩)
      go_wp2_with fail
      refine hK.out _ _ ?_ (fun hHeld1 => ?_)
      · exact ⟨range_below hHeld.1 hbn (by have := hHeld.2.2; have := HLT3.out; omega), range_below hHeld.2.1 hbn (by have := hHeld.2.2; have := HLT2.out; omega), Nat.le_trans hHeld.2.2 hbn.size⟩
      clear hK K
      try simp only [Act.put, List.setIfInBounds_toArray, List.set_cons_zero, List.set_cons_succ]
      have HB2 := Lib.hid hbn
      have HK1 := Lib.hid hk1
      have HL1 := Lib.hid hr1'
      clear hbn hk1 hr1' hHeld
      refine wpAnyH_take (i := 2) (oi := { dst := some 16, op := .index 34 (.tmp 15) (.const (.int .i64 1)), type := 33, pos := "tally.go:89", after := #[{ on := 1, ground := .data }], guard := none }) (v := ?_) rfl (by kernel_rfl) (by kernel_rfl) (by kernel_rfl) (fun _ _ _ h => h) (Or.inl ⟨by rfl, ?_⟩) (by assumption) ?_
      rotate_left
      · (intro w hSw; (try dsimp only at hSw); go_simp; try with_reducible rfl)
      try simp only [Act.put, List.setIfInBounds_toArray, List.set_cons_zero, List.set_cons_succ]
      refine wpAnyH_ready (rs := [7]) (by kernel_rfl) (by simp) ?_
      refine AllReadyH.cons (o := { dst := some 21, op := .call { callee := .value (.func 6), args := #[.tmp 20], argTypes := #[28] }, type := 34, pos := "tally.go:89", after := #[{ on := 6, ground := .data }, { on := 1, ground := .chain }], guard := none }) rfl (fun K hK => ?_) ?_
      rotate_left
      · exact AllReadyH.nil
      go_simp
      (go_at_call 6; refine (CT.out _).mono ?_; rintro e w2 ⟨q0, q1, q2, q3, rfl, hbn, hk1, hr1'⟩)
      go_wp2_with fail
      refine hK.out _ _ ?_ (fun hHeld2 => ?_)
      · exact ⟨range_below hHeld1.1 hbn (by have := hHeld1.2.2; have := HLT3.out; omega), range_below hHeld1.2.1 hbn (by have := hHeld1.2.2; have := HLT2.out; omega), Nat.le_trans hHeld1.2.2 hbn.size⟩
      clear hK K
      try simp only [Act.put, List.setIfInBounds_toArray, List.set_cons_zero, List.set_cons_succ]
      have HB3 := Lib.hid hbn
      have HK2 := Lib.hid hk1
      have HL2 := Lib.hid hr1'
      clear hbn hk1 hr1' hHeld1
      refine wpAnyH_take (i := 8) (oi := { dst := some 22, op := .index 34 (.tmp 21) (.const (.int .i64 1)), type := 33, pos := "tally.go:89", after := #[{ on := 7, ground := .data }], guard := none }) (v := ?_) rfl (by kernel_rfl) (by kernel_rfl) (by kernel_rfl) (fun _ _ _ h => h) (Or.inl ⟨by rfl, ?_⟩) (by assumption) ?_
      rotate_left
      · (intro w hSw; (try dsimp only at hSw); go_simp; try with_reducible rfl)
      try simp only [Act.put, List.setIfInBounds_toArray, List.set_cons_zero, List.set_cons_succ]
      refine wpAnyH_ready (rs := [9]) (by kernel_rfl) (by simp) ?_
      refine AllReadyH.cons (o := { dst := some 23, op := .call { callee := .value (.func 19), args := #[.tmp 16, .tmp 22], argTypes := #[33, 33] }, type := 3, pos := "tally.go:89", after := #[{ on := 2, ground := .data }, { on := 8, ground := .data }, { on := 7, ground := .chain }], guard := none }) rfl (fun K hK => ?_) ?_
      rotate_left
      · exact AllReadyH.nil
      go_simp
      (go_at_call 19; refine (compare_any _ _ HL1.out HL2.out _).mono ?_; rintro e w' ⟨rfl, rfl⟩)
      go_wp2_with fail
      refine hK.out _ _ ?_ (fun hHeld3 => ?_)
      · exact hHeld2
      clear hK K
      try simp only [Act.put, List.setIfInBounds_toArray, List.set_cons_zero, List.set_cons_succ]
      refine wpAnyH_take (i := 10) (oi := { dst := some 24, op := .binOp .gtr 3 (.tmp 23) (.const (.int .i64 0)) 3, type := 4, pos := "tally.go:89", after := #[{ on := 9, ground := .data }], guard := none }) (v := ?_) rfl (by kernel_rfl) (by kernel_rfl) (by kernel_rfl) (fun _ _ _ h => h) (Or.inl ⟨by rfl, ?_⟩) (by assumption) ?_
      rotate_left
      · (intro w hSw; (try dsimp only at hSw); go_simp; try with_reducible rfl)
      try simp only [Act.put, List.setIfInBounds_toArray, List.set_cons_zero, List.set_cons_succ]
      refine wpAnyH_done (by kernel_rfl) ?_ _
      have HBB := Lib.hid (show Below w.heap.size w w2 from ((((HB.out.trans (HB1.out.mono HB.out.size)).trans (below_drewN (Below.refl _ W1) 1)).trans (HB2.out.mono (by show _ ≤ W1.heap.size; rw [HS1.out]; have := HB.out.size; omega))).trans (HB3.out.mono (by have h1 : W1.heap.size ≤ w1.heap.size := HB2.out.size; rw [HS1.out] at h1; have := HB.out.size; omega))))
      have HC2 := Lib.hid (cmpF_pos r1 q1)
      rw [HK1.out, HK2.out] at HC2
      clear hr1 hr2 hs1 hs2 hu hix hHeld2 hHeld3
      by_cases hlt : ck t < ck s
      · have hpos : 0 < cmpF r1 q1 := HC2.out.2 hlt
        have HLT4 := Lib.hid hlt
        clear hlt
        go_wp2_with fail
        go_roundg g
        case measure => omega
        case rel => exact ⟨i + 1, i, by omega, by go_num, rfl, top_new Ht.out Hs.out HT.out HLT4.out, HBB.out⟩
      · have hpos : ¬ 0 < cmpF r1 q1 := fun h => hlt (HC2.out.1 h)
        have HLT4 := Lib.hid hlt
        clear hlt
        go_wp2_with fail
        go_roundg g
        case measure => omega
        case rel => exact ⟨i + 1, k, by omega, by go_num, rfl, top_old Ht.out Hs.out HT.out HLT4.out, HBB.out⟩
end Go.Proofs.YtkhoaaoddpjnpaaGreatDoor.Worst
