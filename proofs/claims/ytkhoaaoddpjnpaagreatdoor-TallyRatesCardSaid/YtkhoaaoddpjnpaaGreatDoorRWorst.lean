/- The reference's Worst, walked. -/
import Derived.Test.YtkhoaaoddpjnpaaGreatDoorRRate
import Derived.Test.YtkhoaaoddpjnpaaGreatDoorWorst
import Derived.Deep.QuietTactic
import Derived.BigQuiet
namespace Go.Proofs.YtkhoaaoddpjnpaaGreatDoor.RWorst
open Go Go.RowKit Go.Proofs.YtkhoaaoddpjnpaaGreatDoor Go.Proofs.YtkhoaaoddpjnpaaGreatDoor.Flt Go.Proofs.YtkhoaaoddpjnpaaGreatDoor.Cmp Go.Proofs.YtkhoaaoddpjnpaaGreatDoor.Mem Go.Proofs.YtkhoaaoddpjnpaaGreatDoor.Add Go.Proofs.YtkhoaaoddpjnpaaGreatDoor.Ratio Go.Proofs.YtkhoaaoddpjnpaaGreatDoor.Sums Go.Proofs.YtkhoaaoddpjnpaaGreatDoor.Worst Go.Proofs.YtkhoaaoddpjnpaaGreatDoor.RRate

/-- None of the first k is ahead of the sum s. -/
def mo (L : List (List Int)) (s : List Int) (k : Nat) : Bool := (L.take k).all fun y => decide (ck y ≤ ck s)
theorem mo_zero (L : List (List Int)) (s : List Int) : mo L s 0 = true := rfl
theorem mo_succ {L : List (List Int)} {s y : List Int} {k : Nat} (h : L[k]? = some y) : mo L s (k + 1) = (mo L s k && decide (ck y ≤ ck s)) := by
  obtain ⟨hk, rfl⟩ := List.getElem?_eq_some_iff.1 h
  unfold mo
  rw [List.take_succ_eq_append_getElem hk, List.all_append]
  simp
theorem mo_all {L : List (List Int)} {s : List Int} {m : Nat} (hm : L.length = m) : mo L s m = true ↔ ∀ y ∈ L, ck y ≤ ck s := by
  unfold mo
  rw [← hm, List.take_length, List.all_eq_true]
  simp
theorem top_ex (L : List (List Int)) : ∀ i, i ≤ L.length → ∃ k, Top L i k
  | 0, _ => ⟨0, fun _ => rfl, fun h => absurd h (by omega), fun j x y _ _ => ⟨fun h => absurd h (by omega), fun h => absurd h (by omega)⟩⟩
  | i + 1, h => by
    obtain ⟨k, hk⟩ := top_ex L i (by omega)
    have hi : i < L.length := by omega
    have hki : k < L.length := by
      rcases Nat.eq_zero_or_pos i with h0 | h0
      · have := hk.1 h0; omega
      · have := hk.2.1 h0; omega
    by_cases hlt : ck L[k] < ck L[i]
    · exact ⟨i, top_new (List.getElem?_eq_getElem hki) (List.getElem?_eq_getElem hi) hk hlt⟩
    · exact ⟨k, top_old (List.getElem?_eq_getElem hki) (List.getElem?_eq_getElem hi) hk (by omega)⟩
theorem top_one {L : List (List Int)} {m k k' : Nat} (hm : L.length = m) (h : Top L m k) (h' : Top L m k') : k = k' := by
  rcases Nat.eq_zero_or_pos m with h0 | h0
  · rw [h.1 h0, h'.1 h0]
  · have a := h.2.1 h0
    have b := h'.2.1 h0
    have x := List.getElem?_eq_getElem (l := L) (i := k) (by omega)
    have y := List.getElem?_eq_getElem (l := L) (i := k') (by omega)
    have h1 := h.2.2 k' _ _ y x
    have h2 := h'.2.2 k _ _ x y
    rcases Nat.lt_trichotomy k k' with h3 | h3 | h3
    · have := h2.2 h3; have := h1.1 b; omega
    · exact h3
    · have := h1.2 h3; have := h2.1 a; omega
/-- The first that is most. -/
theorem top_mk {L : List (List Int)} {m i : Nat} {s : List Int} (hm : L.length = m) (hs : L[i]? = some s) (hmost : mo L s m = true) (hno : ∀ j x, j < i → L[j]? = some x → mo L x m = false) : Top L m i := by
  have hi := (List.getElem?_eq_some_iff.1 hs).1
  have hall := (mo_all hm).1 hmost
  refine ⟨by omega, by omega, fun j x y hx hy => ?_⟩
  rw [hs] at hy; cases hy
  refine ⟨fun _ => hall x (List.mem_of_getElem? hx), fun hj => ?_⟩
  have hn := hno j x hj hx
  rcases Int.lt_or_le (ck x) (ck s) with h1 | h1
  · exact h1
  · exact absurd ((mo_all hm).2 fun y hy => Int.le_trans (hall y hy) h1) (by rw [hn]; decide)
theorem top_none {L : List (List Int)} {m : Nat} (hm : L.length = m) (hno : ∀ j x, j < m → L[j]? = some x → mo L x m = false) : m = 0 := by
  rcases Nat.eq_zero_or_pos m with h0 | h0
  · exact h0
  · obtain ⟨k, hk⟩ := top_ex L m (by omega)
    have hkm := hk.2.1 h0
    have x := List.getElem?_eq_getElem (l := L) (i := k) (by omega)
    have hn := hno k _ hkm x
    refine absurd ((mo_all hm).2 fun y hy => ?_) (by rw [hn]; decide)
    obtain ⟨j, hj⟩ := List.getElem?_of_mem hy
    exact (hk.2.2 j y _ hj x).1 (by rw [← hm]; exact (List.getElem?_eq_some_iff.1 hj).1)
theorem no_snoc {L : List (List Int)} {m i : Nat} {s : List Int} (hs : L[i]? = some s) (hmost : mo L s m = false) (hno : ∀ j x, j < i → L[j]? = some x → mo L x m = false) : ∀ j x, j < i + 1 → L[j]? = some x → mo L x m = false := by
  intro j x hj hx
  rcases Nat.lt_or_ge j i with h | h
  · exact hno j x h hx
  · obtain rfl : j = i := by omega
    rw [hs] at hx; cases hx; exact hmost

set_option maxHeartbeats 4000000 in
set_option maxRecDepth 100000 in
theorem rworst_any (A : Option Addr) (c : Nat) (L : List (List Int)) (m : Nat) (w : World) (hl : L.length = m) (fl : SS w w.heap.size A L) (hm : m ≤ 1000) :
    Calls Tryz.prog 10 #[.slice A m c] w fun e w' => ∃ k : Nat, e = .returned (.tuple #[.int .i64 k, .bool (decide (0 < m))]) ∧ Top L m k ∧ Below w.heap.size w w' := by
  have Hl := Lib.hid hl
  have Fl := Lib.hid fl
  clear hl fl
  go_enter Tryz.func10, Tryz.ntmps10
  go_wp2_with fail
  go_loopg [4] m (fun g s4 wx => ∃ i : Nat, i + g = m ∧ s4 = .int .i64 i ∧ (∀ j x, j < i → L[j]? = some x → mo L x m = false) ∧ Below w.heap.size w wx)
  case atStart => exact ⟨0, by omega, rfl, fun j x h => absurd h (by omega), Below.refl _ _⟩
  case round =>
    obtain ⟨i, hig, rfl, hno, hb⟩ := hrel
    have HNO := Lib.hid hno
    have HB := Lib.hid hb
    clear hno hb
    obtain ⟨wo, rfl⟩ : ∃ wo : World, wo = wr := ⟨_, rfl⟩
    cases gk with
    | zero =>
      have hiz : ¬ ((i : Int) < (m : Int)) := by omega
      obtain rfl : i = m := by omega
      have h0 : i = 0 := top_none Hl.out HNO.out
      have HT := Lib.hid (show Top L i 0 by obtain ⟨k, hk⟩ := top_ex L i (by rw [Hl.out]; exact Nat.le_refl _); have := hk.1 h0; subst this; exact hk)
      have HD := Lib.hid (show decide (0 < i) = false by simp; omega)
      clear h0
      go_wp2_with fail
      go_ret2
      exact ⟨0, by rw [HD.out]; rfl, HT.out, HB.out⟩
    | succ g =>
      have hiz : (i : Int) < (m : Int) := by omega
      obtain ⟨s, hs⟩ : ∃ s, L[i]? = some s := ⟨_, List.getElem?_eq_getElem (by rw [Hl.out]; omega)⟩
      obtain ⟨b, o, rfl, hlt, hc⟩ := Fl.out.2 (by rintro rfl; simp at hs)
      have hs27 := Fl.out.1 s (List.mem_of_getElem? hs)
      have HR := Lib.hid (show wo.rangeAt b (o + i * 27) (s.map (Value.int .i64)) from range_below (hc i s hs) HB.out hlt)
      have CS := Lib.hid (fun W => rrate_m s hs27 W)
      have Hs := Lib.hid hs
      have Hs27 := Lib.hid hs27
      have HC := Lib.hid hc
      have HLT := Lib.hid hlt
      clear hs hs27 hc hlt
      go_wp2_with fail
      go_loopg [5, 6] m (fun g' s5 s6 wx => ∃ k : Nat, k + g' = m ∧ s6 = .int .i64 k ∧ s5 = .bool (mo L s k) ∧ Below w.heap.size w wx ∧ Below wo.heap.size wo wx)
      case atStart => exact ⟨0, by omega, rfl, rfl, HB.out, Below.refl _ _⟩
      case round =>
        obtain ⟨k, hkg, rfl, rfl, hbk, hbk2⟩ := hrel
        have HBK := Lib.hid hbk
        have HBK2 := Lib.hid hbk2
        clear hbk hbk2
        cases gk with
        | zero =>
          have hkz : ¬ ((k : Int) < (m : Int)) := by omega
          obtain rfl : k = m := by omega
          cases hmo : mo L s k
          · go_wp2_with fail
            go_roundg g
            case measure => omega
            case rel => exact ⟨i + 1, by omega, by go_num, no_snoc Hs.out hmo HNO.out, HBK.out⟩
          · have HT := Lib.hid (top_mk Hl.out Hs.out hmo HNO.out)
            have HD := Lib.hid (show decide (0 < k) = true by simp; omega)
            go_wp2_with fail
            go_ret2
            exact ⟨i, by rw [HD.out]; rfl, HT.out, HBK.out⟩
        | succ g' =>
          have hkz : (k : Int) < (m : Int) := by omega
          obtain ⟨t, ht⟩ : ∃ t, L[k]? = some t := ⟨_, List.getElem?_eq_getElem (by rw [Hl.out]; omega)⟩
          have ht27 := Fl.out.1 t (List.mem_of_getElem? ht)
          have HMS := Lib.hid (mo_succ (s := s) ht)
          cases hmo : mo L s k
          · rw [hmo] at HMS
            go_wp2_with fail
            go_quiet (fail)
            go_wp2_with fail
            go_roundg g'
            case measure => omega
            case rel => exact ⟨k + 1, by omega, by go_num, by rw [HMS.out]; rfl, below_drewN HBK.out _, below_drewN HBK2.out _⟩
          · rw [hmo] at HMS
            have HR1 := Lib.hid (range_below HR.out HBK2.out (by have := HLT.out; have := HB.out.size; omega))
            have HR2 := Lib.hid (show wr.rangeAt b (o + k * 27) (t.map (Value.int .i64)) from range_below (HC.out k t ht) HBK.out HLT.out)
            have HLT1 := Lib.hid (show b < wr.heap.size by have := HLT.out; have := HBK.out.size; omega)
            have hu := Tryz.underlying32
            have hs1 : (Tryz.prog.info? 32).map (·.size) = some (s.map (Value.int .i64)).length := by rw [List.length_map, Hs27.out]; kernel_rfl
            have hs2 : (Tryz.prog.info? 32).map (·.size) = some (t.map (Value.int .i64)).length := by rw [List.length_map, ht27]; kernel_rfl
            have CT := Lib.hid (fun W => rrate_m t ht27 W)
            have hix := index4
            clear ht ht27
            go_wp2_with fail
            refine wp_region_held_drew (S := fun w' => w'.rangeAt b (o + i * 27) (s.map (Value.int .i64)) ∧ w'.rangeAt b (o + k * 27) (t.map (Value.int .i64)) ∧ wr.heap.size ≤ w'.heap.size) (by kernel_rfl) ?_ (fun hHeld => ?_)
            · exact ⟨HR1.out, HR2.out, Nat.le_refl _⟩
            refine wpAnyH_take (i := 0) (oi := { dst := some 19, op := Op.move (Operand.tmp 5), type := 4, pos := "ref.go:75", after := #[], guard := none }) (v := ?_) rfl (by kernel_rfl) (by kernel_rfl) (by kernel_rfl) (fun _ _ _ h => h) (Or.inl ⟨by rfl, ?_⟩) (by assumption) ?_
            rotate_left
            · (intro w hSw; (try dsimp only at hSw); go_simp; try with_reducible rfl)
            try simp only [Act.put, List.setIfInBounds_toArray, List.set_cons_zero, List.set_cons_succ]
            refine wpAnyH_take (i := 1) (oi := { dst := some 20, op := Op.move (Operand.tmp 19), type := 4, pos := "ref.go:75", after := #[{ on := 0, ground := Ground.data }], guard := none }) (v := ?_) rfl (by kernel_rfl) (by kernel_rfl) (by kernel_rfl) (fun _ _ _ h => h) (Or.inl ⟨by rfl, ?_⟩) (by assumption) ?_
            rotate_left
            · (intro w hSw; (try dsimp only at hSw); go_simp; try with_reducible rfl)
            try simp only [Act.put, List.setIfInBounds_toArray, List.set_cons_zero, List.set_cons_succ]
            refine wpAnyH_take (i := 2) (oi := { dst := some 21, op := Op.move (Operand.tmp 0), type := 22, pos := "ref.go:75", after := #[{ on := 1, ground := Ground.guard }], guard := some (1, true) }) (v := ?_) rfl (by kernel_rfl) (by kernel_rfl) (by kernel_rfl) (fun _ _ _ h => h) (Or.inl ⟨by rfl, ?_⟩) (by assumption) ?_
            rotate_left
            · (intro w hSw; (try dsimp only at hSw); go_simp; try with_reducible rfl)
            try simp only [Act.put, List.setIfInBounds_toArray, List.set_cons_zero, List.set_cons_succ]
            refine wpAnyH_take (i := 3) (oi := { dst := some 22, op := Op.move (Operand.tmp 4), type := 3, pos := "ref.go:75", after := #[{ on := 1, ground := Ground.guard }], guard := some (1, true) }) (v := ?_) rfl (by kernel_rfl) (by kernel_rfl) (by kernel_rfl) (fun _ _ _ h => h) (Or.inl ⟨by rfl, ?_⟩) (by assumption) ?_
            rotate_left
            · (intro w hSw; (try dsimp only at hSw); go_simp; try with_reducible rfl)
            try simp only [Act.put, List.setIfInBounds_toArray, List.set_cons_zero, List.set_cons_succ]
            refine wpAnyH_take (i := 4) (oi := { dst := some 23, op := Op.indexAddr 22 (Operand.tmp 21) (Operand.tmp 22), type := 0, pos := "ref.go:75", after := #[{ on := 2, ground := Ground.data }, { on := 3, ground := Ground.data }, { on := 1, ground := Ground.guard }], guard := some (1, true) }) (v := ?_) rfl (by kernel_rfl) (by kernel_rfl) (by kernel_rfl) (fun _ _ _ h => h) (Or.inl ⟨by rfl, ?_⟩) (by assumption) ?_
            rotate_left
            · (intro w hSw; (try dsimp only at hSw); go_simp; try with_reducible rfl)
            try simp only [Act.put, List.setIfInBounds_toArray, List.set_cons_zero, List.set_cons_succ]
            refine' wpAnyH_take (i := 5) (v := _) rfl (by kernel_rfl) (by kernel_rfl) (by kernel_rfl) (fun _ _ _ h => h) (yieldsIf_load_mid (by rfl) _ _ rfl _ _ rfl _ _ (fun _ h => h.1) hu rfl hs1) (by assumption) ?_
            try simp only [Act.put, List.setIfInBounds_toArray, List.set_cons_zero, List.set_cons_succ]
            refine wpAnyH_take (i := 8) (oi := { dst := some 27, op := Op.move (Operand.tmp 0), type := 22, pos := "ref.go:75", after := #[{ on := 1, ground := Ground.guard }], guard := some (1, true) }) (v := ?_) rfl (by kernel_rfl) (by kernel_rfl) (by kernel_rfl) (fun _ _ _ h => h) (Or.inl ⟨by rfl, ?_⟩) (by assumption) ?_
            rotate_left
            · (intro w hSw; (try dsimp only at hSw); go_simp; try with_reducible rfl)
            try simp only [Act.put, List.setIfInBounds_toArray, List.set_cons_zero, List.set_cons_succ]
            refine wpAnyH_take (i := 9) (oi := { dst := some 28, op := Op.move (Operand.tmp 6), type := 3, pos := "ref.go:75", after := #[{ on := 1, ground := Ground.guard }], guard := some (1, true) }) (v := ?_) rfl (by kernel_rfl) (by kernel_rfl) (by kernel_rfl) (fun _ _ _ h => h) (Or.inl ⟨by rfl, ?_⟩) (by assumption) ?_
            rotate_left
            · (intro w hSw; (try dsimp only at hSw); go_simp; try with_reducible rfl)
            try simp only [Act.put, List.setIfInBounds_toArray, List.set_cons_zero, List.set_cons_succ]
            refine wpAnyH_take (i := 10) (oi := { dst := some 29, op := Op.indexAddr 22 (Operand.tmp 27) (Operand.tmp 28), type := 0, pos := "ref.go:75", after := #[{ on := 8, ground := Ground.data }, { on := 9, ground := Ground.data }, { on := 1, ground := Ground.guard }], guard := some (1, true) }) (v := ?_) rfl (by kernel_rfl) (by kernel_rfl) (by kernel_rfl) (fun _ _ _ h => h) (Or.inl ⟨by rfl, ?_⟩) (by assumption) ?_
            rotate_left
            · (intro w hSw; (try dsimp only at hSw); go_simp; try with_reducible rfl)
            try simp only [Act.put, List.setIfInBounds_toArray, List.set_cons_zero, List.set_cons_succ]
            refine' wpAnyH_take (i := 11) (v := _) rfl (by kernel_rfl) (by kernel_rfl) (by kernel_rfl) (fun _ _ _ h => h) (yieldsIf_load_mid (by rfl) _ _ rfl _ _ rfl _ _ (fun _ h => h.2.1) hu rfl hs2) (by assumption) ?_
            try simp only [Act.put, List.setIfInBounds_toArray, List.set_cons_zero, List.set_cons_succ]
            refine wpAnyH_ready (rs := [6]) (by kernel_rfl) (by simp) ?_
            refine AllReadyH.cons (o := { dst := some 25, op := Op.call { callee := Callee.value (Operand.func 7), args := #[Operand.tmp 24], argTypes := #[32] }, type := 34, pos := "ref.go:75", after := #[{ on := 5, ground := Ground.data }, { on := 1, ground := Ground.chain }, { on := 1, ground := Ground.guard }], guard := some (1, true) }) rfl (fun K hK => ?_) ?_
            rotate_left
            · exact AllReadyH.nil
            go_simp
            (go_at_call 7; refine (CS.out _).mono ?_; rintro e w1 ⟨r0, r1, r2, r3, rfl, hbn, hk1, hr1'⟩)
            go_wp2_with fail
            refine hK.out _ _ ?_ (fun hHeld1 => ?_)
            · exact ⟨range_below hHeld.1 hbn (by have := hHeld.2.2; have := HLT1.out; omega), range_below hHeld.2.1 hbn (by have := hHeld.2.2; have := HLT1.out; omega), Nat.le_trans hHeld.2.2 hbn.size⟩
            clear hK K
            try simp only [Act.put, List.setIfInBounds_toArray, List.set_cons_zero, List.set_cons_succ]
            have HB2 := Lib.hid hbn
            have HK1 := Lib.hid hk1
            have HL1 := Lib.hid hr1'
            clear hbn hk1 hr1' hHeld
            refine wpAnyH_take (i := 7) (oi := { dst := some 26, op := Op.index 34 (Operand.tmp 25) (Operand.const (Value.int IntKind.i64 1)), type := 33, pos := "ref.go:75", after := #[{ on := 6, ground := Ground.data }, { on := 1, ground := Ground.guard }], guard := some (1, true) }) (v := ?_) rfl (by kernel_rfl) (by kernel_rfl) (by kernel_rfl) (fun _ _ _ h => h) (Or.inl ⟨by rfl, ?_⟩) (by assumption) ?_
            rotate_left
            · (intro w hSw; (try dsimp only at hSw); go_simp; try with_reducible rfl)
            try simp only [Act.put, List.setIfInBounds_toArray, List.set_cons_zero, List.set_cons_succ]
            refine wpAnyH_ready (rs := [12]) (by kernel_rfl) (by simp) ?_
            refine AllReadyH.cons (o := { dst := some 31, op := Op.call { callee := Callee.value (Operand.func 7), args := #[Operand.tmp 30], argTypes := #[32] }, type := 34, pos := "ref.go:75", after := #[{ on := 11, ground := Ground.data }, { on := 6, ground := Ground.chain }, { on := 1, ground := Ground.guard }], guard := some (1, true) }) rfl (fun K hK => ?_) ?_
            rotate_left
            · exact AllReadyH.nil
            go_simp
            (go_at_call 7; refine (CT.out _).mono ?_; rintro e w2 ⟨q0, q1, q2, q3, rfl, hbn, hk1, hr1'⟩)
            go_wp2_with fail
            refine hK.out _ _ ?_ (fun hHeld2 => ?_)
            · exact ⟨range_below hHeld1.1 hbn (by have := hHeld1.2.2; have := HLT1.out; omega), range_below hHeld1.2.1 hbn (by have := hHeld1.2.2; have := HLT1.out; omega), Nat.le_trans hHeld1.2.2 hbn.size⟩
            clear hK K
            try simp only [Act.put, List.setIfInBounds_toArray, List.set_cons_zero, List.set_cons_succ]
            have HB3 := Lib.hid hbn
            have HK2 := Lib.hid hk1
            have HL2 := Lib.hid hr1'
            have HW1 := Lib.hid hHeld1.2.2
            clear hbn hk1 hr1' hHeld1
            refine wpAnyH_take (i := 13) (oi := { dst := some 32, op := Op.index 34 (Operand.tmp 31) (Operand.const (Value.int IntKind.i64 1)), type := 33, pos := "ref.go:75", after := #[{ on := 12, ground := Ground.data }, { on := 1, ground := Ground.guard }], guard := some (1, true) }) (v := ?_) rfl (by kernel_rfl) (by kernel_rfl) (by kernel_rfl) (fun _ _ _ h => h) (Or.inl ⟨by rfl, ?_⟩) (by assumption) ?_
            rotate_left
            · (intro w hSw; (try dsimp only at hSw); go_simp; try with_reducible rfl)
            try simp only [Act.put, List.setIfInBounds_toArray, List.set_cons_zero, List.set_cons_succ]
            refine wpAnyH_ready (rs := [14]) (by kernel_rfl) (by simp) ?_
            refine AllReadyH.cons (o := { dst := some 33, op := Op.call { callee := Callee.value (Operand.func 20), args := #[Operand.tmp 26, Operand.tmp 32], argTypes := #[33, 33] }, type := 4, pos := "ref.go:75", after := #[{ on := 7, ground := Ground.data }, { on := 13, ground := Ground.data }, { on := 12, ground := Ground.chain }, { on := 1, ground := Ground.guard }], guard := some (1, true) }) rfl (fun K hK => ?_) ?_
            rotate_left
            · exact AllReadyH.nil
            go_simp
            (go_at_call 20; refine (ahead_any _ _ HL1.out HL2.out _).mono ?_; rintro e w' ⟨rfl, rfl⟩)
            go_wp2_with fail
            refine hK.out _ _ ?_ (fun hHeld3 => ?_)
            · exact hHeld2
            clear hK K
            try simp only [Act.put, List.setIfInBounds_toArray, List.set_cons_zero, List.set_cons_succ]
            refine wpAnyH_take (i := 15) (oi := { dst := some 34, op := Op.unOp UnOp.not 4 (Operand.tmp 33), type := 4, pos := "ref.go:75", after := #[{ on := 14, ground := Ground.data }, { on := 1, ground := Ground.guard }], guard := some (1, true) }) (v := ?_) rfl (by kernel_rfl) (by kernel_rfl) (by kernel_rfl) (fun _ _ _ h => h) (Or.inl ⟨by rfl, ?_⟩) (by assumption) ?_
            rotate_left
            · (intro w hSw; (try dsimp only at hSw); go_simp; try with_reducible rfl)
            try simp only [Act.put, List.setIfInBounds_toArray, List.set_cons_zero, List.set_cons_succ]
            refine wpAnyH_take (i := 16) (oi := { dst := some 35, op := Op.pick (Operand.tmp 20) (Operand.tmp 34) (Operand.const (Value.bool false)), type := 4, pos := "ref.go:75", after := #[{ on := 1, ground := Ground.data }, { on := 15, ground := Ground.data }], guard := none }) (v := ?_) rfl (by kernel_rfl) (by kernel_rfl) (by kernel_rfl) (fun _ _ _ h => h) (Or.inl ⟨by rfl, ?_⟩) (by assumption) ?_
            rotate_left
            · (intro w hSw; (try dsimp only at hSw); go_simp; try with_reducible rfl)
            try simp only [Act.put, List.setIfInBounds_toArray, List.set_cons_zero, List.set_cons_succ]
            refine wpAnyH_take (i := 17) (oi := { dst := some 5, op := Op.assign (Operand.tmp 35), type := 4, pos := "ref.go:75", after := #[{ on := 16, ground := Ground.data }, { on := 14, ground := Ground.chain }, { on := 0, ground := Ground.phase }, { on := 1, ground := Ground.phase }, { on := 2, ground := Ground.phase }, { on := 3, ground := Ground.phase }, { on := 4, ground := Ground.phase }, { on := 5, ground := Ground.phase }, { on := 6, ground := Ground.phase }, { on := 7, ground := Ground.phase }, { on := 8, ground := Ground.phase }, { on := 9, ground := Ground.phase }, { on := 10, ground := Ground.phase }, { on := 11, ground := Ground.phase }, { on := 12, ground := Ground.phase }, { on := 13, ground := Ground.phase }, { on := 14, ground := Ground.phase }, { on := 15, ground := Ground.phase }, { on := 16, ground := Ground.phase }], guard := none }) (v := ?_) rfl (by kernel_rfl) (by kernel_rfl) (by kernel_rfl) (fun _ _ _ h => h) (Or.inl ⟨by rfl, ?_⟩) (by assumption) ?_
            rotate_left
            · (intro w hSw; (try dsimp only at hSw); go_simp; try with_reducible rfl)
            try simp only [Act.put, List.setIfInBounds_toArray, List.set_cons_zero, List.set_cons_succ]
            refine wpAnyH_done (by kernel_rfl) ?_ _
            have HN := Lib.hid (show Below wr.heap.size wr w2 from ((below_drewN (Below.refl _ wr) 1).trans HB2.out).trans (HB3.out.mono HW1.out))
            have HMS2 := Lib.hid (show mo L s (k + 1) = !ahd r1 q1 by
              rw [HMS.out]
              unfold ahd
              rw [HK1.out, HK2.out, Bool.true_and, ← decide_not]
              congr 1
              simp)
            clear hHeld2 hHeld3 hs1 hs2 hu hix
            go_wp2_with fail
            go_roundg g'
            case measure => omega
            case rel => exact ⟨k + 1, by omega, by go_num, by rw [HMS2.out], HBK.out.trans (HN.out.mono HBK.out.size), HBK2.out.trans (HN.out.mono HBK2.out.size)⟩
end Go.Proofs.YtkhoaaoddpjnpaaGreatDoor.RWorst
