/- The law TallyRates, walked: it answers true and changes nothing that was there. -/
import Derived.Test.YtkhoaaoddpjnpaaGreatDoorRWorst
import Derived.Test.YtkhoaaoddpjnpaaGreatDoorSizes
import Derived.Test.YtkhoaaoddpjnpaaGreatDoorLives19
import Derived.Test.YtkhoaaoddpjnpaaGreatDoorBack
import Derived.Test.YtkhoaaoddpjnpaaGreatDoorSame
import Derived.Test.YtkhoaaoddpjnpaaGreatDoorRowsOwn
import Derived.Test.YtkhoaaoddpjnpaaGreatDoorFour
import Derived.Deep.DeepCutAuto
namespace Go.Proofs.YtkhoaaoddpjnpaaGreatDoor.RatesLaw
open Go Go.RowKit Go.Proofs.YtkhoaaoddpjnpaaGreatDoor Go.Proofs.YtkhoaaoddpjnpaaGreatDoor.Flt Go.Proofs.YtkhoaaoddpjnpaaGreatDoor.Cmp Go.Proofs.YtkhoaaoddpjnpaaGreatDoor.Mem Go.Proofs.YtkhoaaoddpjnpaaGreatDoor.Add Go.Proofs.YtkhoaaoddpjnpaaGreatDoor.Sums Go.Proofs.YtkhoaaoddpjnpaaGreatDoor.Ratio Go.Proofs.YtkhoaaoddpjnpaaGreatDoor.Asked Go.Proofs.YtkhoaaoddpjnpaaGreatDoor.Of Go.Proofs.YtkhoaaoddpjnpaaGreatDoor.Worst Go.Proofs.YtkhoaaoddpjnpaaGreatDoor.Back Go.Proofs.YtkhoaaoddpjnpaaGreatDoor.RowsOwn Go.Proofs.YtkhoaaoddpjnpaaGreatDoor.Rank Go.Proofs.YtkhoaaoddpjnpaaGreatDoor.RefExt Go.Proofs.YtkhoaaoddpjnpaaGreatDoor.Sizes Go.Proofs.YtkhoaaoddpjnpaaGreatDoor.RRate Go.Proofs.YtkhoaaoddpjnpaaGreatDoor.RWorst Go.Proofs.YtkhoaaoddpjnpaaGreatDoor.Four

/-- The back of a sum, as the walk spells it. -/
theorem back_m (s : List Int) (hs : s.length = 27) (w : World) : Calls Tryz.prog 5 #[.agg (s.map (Value.int .i64)).toArray] w fun e w' => e = .returned (.agg (s.map (Value.int .i64)).toArray) ∧ Below w.heap.size w w' := back_any s hs w
theorem info_rsum : (Tryz.prog.info? 32).map (·.size) = some 27 := by kernel_rfl

/-- The same numbers, one by one. -/
def FourSame (a0 a1 a2 a3 b0 b1 b2 b3 : Nat) : Prop := (key a0 = key b0 ∧ a0 < 18446744073709551616 ∧ b0 < 18446744073709551616) ∧ (key a1 = key b1 ∧ a1 < 18446744073709551616 ∧ b1 < 18446744073709551616) ∧
  (key a2 = key b2 ∧ a2 < 18446744073709551616 ∧ b2 < 18446744073709551616) ∧ (key a3 = key b3 ∧ a3 < 18446744073709551616 ∧ b3 < 18446744073709551616)
theorem four_same {a0 a1 a2 a3 b0 b1 b2 b3 : Nat} {k0 k1 k2 k3 : Int}
    (ha : (key a0 = k0 ∧ a0 < 18446744073709551616) ∧ (key a1 = k1 ∧ a1 < 18446744073709551616) ∧ (key a2 = k2 ∧ a2 < 18446744073709551616) ∧ (key a3 = k3 ∧ a3 < 18446744073709551616))
    (hb : (key b0 = k0 ∧ b0 < 18446744073709551616) ∧ (key b1 = k1 ∧ b1 < 18446744073709551616) ∧ (key b2 = k2 ∧ b2 < 18446744073709551616) ∧ (key b3 = k3 ∧ b3 < 18446744073709551616)) : FourSame a0 a1 a2 a3 b0 b1 b2 b3 :=
  ⟨⟨ha.1.1.trans hb.1.1.symm, ha.1.2, hb.1.2⟩, ⟨ha.2.1.1.trans hb.2.1.1.symm, ha.2.1.2, hb.2.1.2⟩, ⟨ha.2.2.1.1.trans hb.2.2.1.1.symm, ha.2.2.1.2, hb.2.2.1.2⟩, ⟨ha.2.2.2.1.trans hb.2.2.2.1.symm, ha.2.2.2.2, hb.2.2.2.2⟩⟩
theorem sizes_lt (ds : List (List Value)) : ∀ x ∈ sizesL ds, x < 18446744073709551616 := by
  intro x hx
  unfold sizesL at hx
  obtain ⟨d, _, h⟩ := List.mem_flatMap.1 hx
  split at h
  · obtain rfl : x = lenF d := by simpa using h
    exact lenF_lt d
  · cases h
theorem three_same {ds : List (List Value)} {a b c a' b' c' : Nat} (h : Three (sizesL ds) a b c) (k : Three (sizesL ds) a' b' c') :
    (key a = key a' ∧ a < 18446744073709551616 ∧ a' < 18446744073709551616) ∧ (key b = key b' ∧ b < 18446744073709551616 ∧ b' < 18446744073709551616) ∧ (key c = key c' ∧ c < 18446744073709551616 ∧ c' < 18446744073709551616) := by
  obtain ⟨⟨x, hx, rfl⟩, h2, h3, ⟨y, hy, rfl⟩⟩ := h
  obtain ⟨⟨x', hx', rfl⟩, k2, k3, ⟨y', hy', rfl⟩⟩ := k
  exact ⟨⟨(best_same hx hx').2, best_lt hx (sizes_lt ds), best_lt hx' (sizes_lt ds)⟩, ⟨h2.trans k2.symm, h3, k3⟩, ⟨(best_same hy hy').2, best_lt hy (sizes_lt ds), best_lt hy' (sizes_lt ds)⟩⟩
attribute [local go_sem] Ratio.run_store_float
set_option maxHeartbeats 4000000 in
set_option maxRecDepth 100000 in
theorem law_any (A N : Option Addr) (n c p d : Nat) (l : List (List Int)) (ds : List (List Value)) (w : World) (hl : l.length = n) (fl : SS w w.heap.size A l) (hn : n ≤ c) (hc : c ≤ 9223372036854775807)
    (hd : ds.length = p) (fd : NS w w.heap.size N ds) (hp : p ≤ 10000000000000) :
    Calls Tryz.prog 3 #[.slice A n c, .slice N p d] w fun e w' => e = .returned (.bool true) ∧ Below w.heap.size w w' := by
  obtain ⟨m, hm⟩ : ∃ m, min n 40 = m := ⟨_, rfl⟩
  have Hl := Lib.hid (show (l.take 40).length = m by rw [List.length_take]; omega)
  have Fl := Lib.hid (fl.take_ 40)
  have Hd := Lib.hid hd
  have Fd := Lib.hid fd
  have Hp := Lib.hid hp
  have hmn : (m : Int) ≤ (n : Int) := by omega
  have hmc : (m : Int) ≤ (c : Int) := by omega
  have hm40 : m ≤ 40 := by omega
  have Hm := Lib.hid hm
  have hmin : min (n : Int) 40 = (m : Int) := by omega
  generalize l.take 40 = L at *
  clear hl fl hm hd fd hp
  go_enter Tryz.func3, Tryz.ntmps3
  go_wp2_with fail
  refine (Lives19.lives_any _).mono ?_; rintro e w0 ⟨rfl, hb0⟩
  have HB0 := Lib.hid hb0
  clear hb0
  go_wp2_with fail
  go_loopg [5, 6] m (fun g s5 s6 wx => ∃ i : Nat, i + g = m ∧ s6 = .int .i64 i ∧ RO wx w0.heap.size s5 (L.take i) ∧ Below w.heap.size w wx ∧ w0.heap.size ≤ wx.heap.size)
  case atStart => exact ⟨0, by omega, rfl, RO.nil_ _ _, HB0.out, Nat.le_refl _⟩
  case round =>
    obtain ⟨i, hig, rfl, hro, hb, hsz⟩ := hrel
    have HRO := Lib.hid hro
    have HB := Lib.hid hb
    have HSZ := Lib.hid hsz
    clear hro hb hsz
    cases gk with
    | zero =>
      have hiz : ¬ ((i : Int) < (m : Int)) := by omega
      obtain rfl : i = m := by omega
      rw [show L.take i = L by rw [← Hl.out, List.take_length]] at HRO
      obtain ⟨A', cap, rfl, hcap, hcm, hss⟩ := HRO.out.reads' Hl.out
      have CW := Lib.hid (worst_any A' cap L i wr Hl.out hss (by omega))
      have HSF := Lib.hid ((Fl.out.below HB.out).more HB.out.size)
      have HSN := Lib.hid ((Fd.out.below HB.out).more HB.out.size)
      clear hss hcap hcm
      go_wp2_with fail
      refine CW.out.mono ?_; rintro e w1 ⟨k, rfl, htop, hb1⟩
      have HTOP := Lib.hid htop
      have HB1 := Lib.hid (HB.out.trans (hb1.mono HB.out.size))
      have HSF1 := Lib.hid ((HSF.out.below hb1).more hb1.size)
      have HSN1 := Lib.hid ((HSN.out.below hb1).more hb1.size)
      clear htop hb1
      go_wp2_with fail
      refine (rworst_any A c L i w1 Hl.out HSF1.out (by omega)).mono ?_; rintro e w2 ⟨k', rfl, htop, hb2⟩
      obtain rfl : k = k' := top_one Hl.out HTOP.out htop
      have HB2 := Lib.hid (HB1.out.trans (hb2.mono HB1.out.size))
      have HSN2 := Lib.hid ((HSN1.out.below hb2).more hb2.size)
      clear htop hb2
      go_wp2_with fail
      refine (sizes_any N p d ds w2 Hd.out HSN2.out Hp.out).mono ?_; rintro e w3 ⟨x1, x2, x3, rfl, hth, hb3⟩
      have HTH := Lib.hid hth
      have HB3 := Lib.hid (HB2.out.trans (hb3.mono HB2.out.size))
      have HSN3 := Lib.hid ((HSN2.out.below hb3).more hb3.size)
      clear hth hb3
      go_wp2_with fail
      refine (rsizes_any N p d ds w3 Hd.out HSN3.out Hp.out).mono ?_; rintro e w4 ⟨y1, y2, y3, rfl, hth, hb4⟩
      have HB4 := Lib.hid (HB3.out.trans (hb4.mono HB3.out.size))
      have E1 := Lib.hid (fun W => same_any x1 y1 (three_same HTH.out hth).1.2.1 (three_same HTH.out hth).1.2.2 (three_same HTH.out hth).1.1 W)
      have E2 := Lib.hid (fun W => same_any x2 y2 (three_same HTH.out hth).2.1.2.1 (three_same HTH.out hth).2.1.2.2 (three_same HTH.out hth).2.1.1 W)
      have E3 := Lib.hid (fun W => same_any x3 y3 (three_same HTH.out hth).2.2.2.1 (three_same HTH.out hth).2.2.2.2 (three_same HTH.out hth).2.2.1 W)
      clear hth hb4
      have hkk : ((k : Int) == (k : Int)) = true := by simp
      obtain ⟨b0, hb0⟩ : ∃ b, decide (0 < i) = b := ⟨_, rfl⟩
      rw [hb0]
      clear hb0
      have hbb : (b0 == b0) = true := by simp
      go_wp2_with (first
        | (go_at_call 8; with_reducible refine (E1.out _).mono ?_; rintro e w' ⟨rfl, rfl⟩)
        | (go_at_call 8; with_reducible refine (E2.out _).mono ?_; rintro e w' ⟨rfl, rfl⟩)
        | (go_at_call 8; with_reducible refine (E3.out _).mono ?_; rintro e w' ⟨rfl, rfl⟩))
      go_ret
      exact ⟨rfl, HB4.out.alloc HB4.out.size _⟩
    | succ g =>
      have hiz : (i : Int) < (m : Int) := by omega
      obtain ⟨s, hs⟩ : ∃ s, L[i]? = some s := ⟨_, List.getElem?_eq_getElem (by rw [Hl.out]; omega)⟩
      obtain ⟨b, o, rfl, hlt, hr⟩ := Fl.out.2 (by rintro rfl; simp at hs)
      have hs27 := Fl.out.1 s (List.mem_of_getElem? hs)
      have HR := Lib.hid (range_below (hr i s hs) HB.out hlt)
      have HS := Lib.hid (show (Tryz.prog.info? 32).map (·.size) = some (s.map (Value.int .i64)).length by rw [List.length_map, hs27]; exact info_rsum)
      have HTK := Lib.hid (show L.take i ++ [s] = L.take (i + 1) from by
        obtain ⟨hk, rfl⟩ := List.getElem?_eq_some_iff.1 hs
        rw [List.take_succ_eq_append_getElem hk])
      have HLI := Lib.hid (show (L.take i).length = i by rw [List.length_take, Hl.out]; omega)
      have HSRC := Lib.hid (hr i s hs)
      have Hs := Lib.hid hs
      have Hs27 := Lib.hid hs27
      have Hlt := Lib.hid hlt
      clear hs hs27 hr hlt
      go_wp2_with (first
        | refine wpList_load_mid rfl 32 (.tmp 34) rfl b (o + i * 27) rfl (s.map (Value.int .i64)) _ HR.out Tryz.underlying32 rfl HS.out ?_)
      refine (back_m s Hs27.out _).mono ?_; rintro e w1 ⟨rfl, hb1⟩
      have HB2 := Lib.hid (HB.out.trans (hb1.mono HB.out.size))
      have HRO2 := Lib.hid (HRO.out.below hb1 (Nat.le_refl _))
      have HSZ2 := Lib.hid (Nat.le_trans HSZ.out hb1.size)
      clear hb1
      obtain ⟨t, ht⟩ : ∃ t, s = t := ⟨s, rfl⟩
      have Ht := Lib.hid ht
      have Ht27 := Lib.hid (show t.length = 27 by rw [← ht]; exact Hs27.out)
      rw [ht]
      clear ht
      obtain ⟨q0, q1, q2, q3, q4, q5, q6, q7, q8, q9, q10, q11, q12, q13, q14, q15, q16, q17, q18, q19, q20, q21, q22, q23, q24, q25, q26, hq⟩ := list27 t Ht27.out
      have Hq := Lib.hid hq
      rw [hq]
      clear hq
      go_upto_region 9 with (at_builtin; refine wpAppR [q0, q1, q2, q3, q4, q5, q6, q7, q8, q9, q10, q11, q12, q13, q14, q15, q16, q17, q18, q19, q20, q21, q22, q23, q24, q25, q26] rfl rfl _ _ rfl rfl rfl HRO2.out (by rw [HLI.out]; omega) HSZ2.out (Below.refl _ _) ?_; intro v' w3 hs3 hb3 hB3)
      have HRO3 := Lib.hid (show RO w3 w0.heap.size v' (L.take (i + 1)) by rw [← HTK.out, Ht.out, Hq.out]; exact hs3)
      have HB3 := Lib.hid (HB2.out.trans (hb3.mono HB0.out.size))
      have HSZ3 := Lib.hid hB3
      clear hs3 hb3 hB3 Hq Ht Ht27
      obtain ⟨A', cap, rfl, hcap, hcm, hss⟩ := HRO3.out.reads' (show (L.take (i + 1)).length = i + 1 by rw [List.length_take, Hl.out]; omega)
      obtain ⟨gb, ob, rfl, hgb, hsr⟩ := hss.2 (by rw [← HTK.out]; simp)
      have hir : (i : Int) < (i : Int) + 1 := by omega
      have HXR := Lib.hid (hsr i s (by rw [← HTK.out, List.getElem?_append_right (by rw [HLI.out]; exact Nat.le_refl _), HLI.out, Nat.sub_self]; rfl))
      have HGB := Lib.hid hgb
      have HR3 := Lib.hid (range_below HSRC.out HB3.out Hlt.out)
      clear hss hsr hgb hcap hcm
      have hu1 := Tryz.underlying28
      have hu2 := Tryz.underlying32
      have hs1 : (Tryz.prog.info? 28).map (·.size) = some (s.map (Value.int .i64)).length := by rw [List.length_map, Hs27.out]; exact info_sum
      have hs2 : (Tryz.prog.info? 32).map (·.size) = some (s.map (Value.int .i64)).length := by rw [List.length_map, Hs27.out]; exact info_rsum
      have C1 := Lib.hid (fun W => rate_t s Hs27.out W)
      have C2 := Lib.hid (fun W => rrate_t s Hs27.out W)
      have HBL := Lib.hid (show b < w3.heap.size by have := Hlt.out; have := HB3.out.size; omega)
      go_cut [7, 8] (fun s7 s8 wx => ∃ g7 g8 a0 a1 a2 a3 b0 b1 b2 b3 : Nat, s7 = .pointer (some ⟨g7, 0, none⟩) ∧ s8 = .pointer (some ⟨g8, 0, none⟩) ∧ V4 wx g7 a0 a1 a2 a3 ∧ V4 wx g8 b0 b1 b2 b3 ∧ Below w3.heap.size w3 wx ∧ FourSame a0 a1 a2 a3 b0 b1 b2 b3)
      case first =>
        refine wp_region_held_drew (S := fun w' => Below w3.heap.size w3 w') (by kernel_rfl) ?_ (fun hS0 => ?_)
        · exact (Below.refl _ _).drew
        refine wpAnyH_take (i := 0) (oi := { dst := some 39, op := Op.move (Operand.tmp 5), type := 25, pos := "law.go:69", after := #[], guard := none }) (v := ?_) rfl (by kernel_rfl) (by kernel_rfl) (by kernel_rfl) (fun _ _ _ h => h) (Or.inl ⟨by rfl, ?_⟩) (by assumption) ?_
        rotate_left
        · (intro w hSw; (try dsimp only at hSw); go_simp; try with_reducible rfl)
        try simp only [Act.put, List.setIfInBounds_toArray, List.set_cons_zero, List.set_cons_succ]
        refine wpAnyH_take (i := 1) (oi := { dst := some 40, op := Op.move (Operand.tmp 6), type := 3, pos := "law.go:69", after := #[], guard := none }) (v := ?_) rfl (by kernel_rfl) (by kernel_rfl) (by kernel_rfl) (fun _ _ _ h => h) (Or.inl ⟨by rfl, ?_⟩) (by assumption) ?_
        rotate_left
        · (intro w hSw; (try dsimp only at hSw); go_simp; try with_reducible rfl)
        try simp only [Act.put, List.setIfInBounds_toArray, List.set_cons_zero, List.set_cons_succ]
        refine wpAnyH_take (i := 2) (oi := { dst := some 41, op := Op.indexAddr 25 (Operand.tmp 39) (Operand.tmp 40), type := 0, pos := "law.go:69", after := #[{ on := 0, ground := Ground.data }, { on := 1, ground := Ground.data }], guard := none }) (v := ?_) rfl (by kernel_rfl) (by kernel_rfl) (by kernel_rfl) (fun _ _ _ h => h) (Or.inl ⟨by rfl, ?_⟩) (by assumption) ?_
        rotate_left
        · (intro w hSw; (try dsimp only at hSw); go_simp; try with_reducible rfl)
        try simp only [Act.put, List.setIfInBounds_toArray, List.set_cons_zero, List.set_cons_succ]
        refine' wpAnyH_take (i := 3) (v := _) rfl (by kernel_rfl) (by kernel_rfl) (by kernel_rfl) (fun _ _ _ h => h) (yieldsIf_load_mid (by rfl) _ _ rfl _ _ rfl _ _ (fun _ h => range_below HXR.out h HGB.out) hu1 rfl hs1) (by assumption) ?_
        try simp only [Act.put, List.setIfInBounds_toArray, List.set_cons_zero, List.set_cons_succ]
        refine wpAnyH_take (i := 5) (oi := { dst := some 44, op := Op.move (Operand.tmp 0), type := 22, pos := "law.go:69", after := #[], guard := none }) (v := ?_) rfl (by kernel_rfl) (by kernel_rfl) (by kernel_rfl) (fun _ _ _ h => h) (Or.inl ⟨by rfl, ?_⟩) (by assumption) ?_
        rotate_left
        · (intro w hSw; (try dsimp only at hSw); go_simp; try with_reducible rfl)
        try simp only [Act.put, List.setIfInBounds_toArray, List.set_cons_zero, List.set_cons_succ]
        refine wpAnyH_take (i := 6) (oi := { dst := some 45, op := Op.move (Operand.tmp 6), type := 3, pos := "law.go:69", after := #[], guard := none }) (v := ?_) rfl (by kernel_rfl) (by kernel_rfl) (by kernel_rfl) (fun _ _ _ h => h) (Or.inl ⟨by rfl, ?_⟩) (by assumption) ?_
        rotate_left
        · (intro w hSw; (try dsimp only at hSw); go_simp; try with_reducible rfl)
        try simp only [Act.put, List.setIfInBounds_toArray, List.set_cons_zero, List.set_cons_succ]
        refine wpAnyH_take (i := 7) (oi := { dst := some 46, op := Op.indexAddr 22 (Operand.tmp 44) (Operand.tmp 45), type := 0, pos := "law.go:69", after := #[{ on := 5, ground := Ground.data }, { on := 6, ground := Ground.data }], guard := none }) (v := ?_) rfl (by kernel_rfl) (by kernel_rfl) (by kernel_rfl) (fun _ _ _ h => h) (Or.inl ⟨by rfl, ?_⟩) (by assumption) ?_
        rotate_left
        · (intro w hSw; (try dsimp only at hSw); go_simp; try with_reducible rfl)
        try simp only [Act.put, List.setIfInBounds_toArray, List.set_cons_zero, List.set_cons_succ]
        refine' wpAnyH_take (i := 8) (v := _) rfl (by kernel_rfl) (by kernel_rfl) (by kernel_rfl) (fun _ _ _ h => h) (yieldsIf_load_mid (by rfl) _ _ rfl _ _ rfl _ _ (fun _ h => range_below HR3.out h HBL.out) hu2 rfl hs2) (by assumption) ?_
        try simp only [Act.put, List.setIfInBounds_toArray, List.set_cons_zero, List.set_cons_succ]
        generalize w3.drew = W0 at *
        refine wpAnyH_ready (rs := [4, 10, 11]) (by kernel_rfl) (by simp) ?_
        refine AllReadyH.cons (o := { dst := some 43, op := Op.call { callee := Callee.value (Operand.func 6), args := #[Operand.tmp 42], argTypes := #[28] }, type := 34, pos := "law.go:69", after := #[{ on := 3, ground := Ground.data }], guard := none }) rfl (fun K hK => ?_) (AllReadyH.cons (o := { dst := some 7, op := Op.alloc 34, type := 0, pos := "law.go:69", after := #[], guard := none }) rfl (fun K hK => ?_) (AllReadyH.cons (o := { dst := some 8, op := Op.alloc 34, type := 0, pos := "law.go:69", after := #[], guard := none }) rfl (fun K hK => ?_) (AllReadyH.nil)))
        · go_simp
          (go_at_call 6; refine (C1.out _).mono ?_; rintro e W1 ⟨r0, r1, r2, r3, rfl, hbn, hkk⟩)
          go_wp2_with fail
          refine hK.out _ _ ?_ (fun hS1 => ?_)
          · exact hS0.trans (hbn.mono hS0.size)
          clear hK K
          try simp only [Act.put, List.setIfInBounds_toArray, List.set_cons_zero, List.set_cons_succ]
          have HA := Lib.hid hkk
          clear hbn hkk
          refine wpAnyH_ready (rs := [9, 10, 11]) (by kernel_rfl) (by simp) ?_
          refine AllReadyH.cons (o := { dst := some 48, op := Op.call { callee := Callee.value (Operand.func 7), args := #[Operand.tmp 47], argTypes := #[32] }, type := 34, pos := "law.go:69", after := #[{ on := 8, ground := Ground.data }, { on := 4, ground := Ground.chain }], guard := none }) rfl (fun K hK => ?_) (AllReadyH.cons (o := { dst := some 7, op := Op.alloc 34, type := 0, pos := "law.go:69", after := #[], guard := none }) rfl (fun K hK => ?_) (AllReadyH.cons (o := { dst := some 8, op := Op.alloc 34, type := 0, pos := "law.go:69", after := #[], guard := none }) rfl (fun K hK => ?_) (AllReadyH.nil)))
          · go_simp
            (go_at_call 7; refine (C2.out _).mono ?_; rintro e W2 ⟨p0, p1, p2, p3, rfl, hbn, hkk⟩)
            go_wp2_with fail
            refine hK.out _ _ ?_ (fun hS2 => ?_)
            · exact hS1.trans (hbn.mono hS1.size)
            clear hK K
            try simp only [Act.put, List.setIfInBounds_toArray, List.set_cons_zero, List.set_cons_succ]
            have HBB := Lib.hid hkk
            clear hbn hkk
            refine wpAnyH_ready (rs := [10, 11]) (by kernel_rfl) (by simp) ?_
            refine AllReadyH.cons (o := { dst := some 7, op := Op.alloc 34, type := 0, pos := "law.go:69", after := #[], guard := none }) rfl (fun K hK => ?_) (AllReadyH.cons (o := { dst := some 8, op := Op.alloc 34, type := 0, pos := "law.go:69", after := #[], guard := none }) rfl (fun K hK => ?_) (AllReadyH.nil))
            · go_simp
              refine hK.out _ _ ?_ (fun hS3 => ?_)
              · exact hS2.alloc hS2.size _
              clear hK K
              try simp only [Act.put, List.setIfInBounds_toArray, List.set_cons_zero, List.set_cons_succ]
              have H7 := Lib.hid (V4.new_ W2 0 0 0 0)
              have hge7 := hS2.size
              generalize W2.alloc (.cells #[.float .f64 0, .float .f64 0, .float .f64 0, .float .f64 0] 34) = W3 at *
              generalize W2.heap.size = g7 at *
              refine wpAnyH_ready (rs := [11]) (by kernel_rfl) (by simp) ?_
              refine AllReadyH.cons (o := { dst := some 8, op := Op.alloc 34, type := 0, pos := "law.go:69", after := #[], guard := none }) rfl (fun K hK => ?_) (AllReadyH.nil)
              · go_simp
                refine hK.out _ _ ?_ (fun hS4 => ?_)
                · exact hS3.alloc hS3.size _
                clear hK K
                try simp only [Act.put, List.setIfInBounds_toArray, List.set_cons_zero, List.set_cons_succ]
                have H8 := Lib.hid (V4.new_ W3 0 0 0 0)
                have hge8 := hS3.size
                have hne : g7 < W3.heap.size := H7.out.lt
                replace H7 := Lib.hid (H7.out.alloc (.cells #[.float .f64 0, .float .f64 0, .float .f64 0, .float .f64 0] 34))
                generalize W3.alloc (.cells #[.float .f64 0, .float .f64 0, .float .f64 0, .float .f64 0] 34) = W4 at *
                generalize W3.heap.size = g8 at *
                refine wpAnyH_ready (rs := [12]) (by kernel_rfl) (by simp) ?_
                refine AllReadyH.cons (o := { dst := none, op := Op.store 34 (Operand.tmp 7) (Operand.tmp 43), type := 0, pos := "law.go:69", after := #[{ on := 10, ground := Ground.data }, { on := 4, ground := Ground.data }, { on := 9, ground := Ground.chain }, { on := 0, ground := Ground.phase }, { on := 1, ground := Ground.phase }, { on := 2, ground := Ground.phase }, { on := 3, ground := Ground.phase }, { on := 4, ground := Ground.phase }, { on := 5, ground := Ground.textOnly Departure.lateStores }, { on := 6, ground := Ground.textOnly Departure.lateStores }, { on := 7, ground := Ground.textOnly Departure.lateStores }, { on := 8, ground := Ground.textOnly Departure.lateStores }, { on := 9, ground := Ground.textOnly Departure.lateStoresUnsure }, { on := 10, ground := Ground.phase }, { on := 11, ground := Ground.phase }], guard := none }) rfl (fun K hK => ?_) (AllReadyH.nil)
                · obtain ⟨c0, c1, c2, c3⟩ := H7.out.cell
                  obtain ⟨f0, f1, f2, f3⟩ := H7.out.frozen
                  go_simp
                  refine hK.out _ _ ?_ (fun hS5 => ?_)
                  · exact below_four hS4 _ hge7 _ _ _ _
                  clear hK K c0 c1 c2 c3 f0 f1 f2 f3
                  try simp only [Act.put, List.setIfInBounds_toArray, List.set_cons_zero, List.set_cons_succ]
                  replace H8 := Lib.hid (H8.out.far (k := g7) (by omega) (.float .f64 r0) (.float .f64 r1) (.float .f64 r2) (.float .f64 r3))
                  replace H7 := Lib.hid (H7.out.set_ r0 r1 r2 r3)
                  generalize (((W4.setCell ⟨g7, 0, none⟩ (.float .f64 r0)).setCell ⟨g7, 1, none⟩ (.float .f64 r1)).setCell ⟨g7, 2, none⟩ (.float .f64 r2)).setCell ⟨g7, 3, none⟩ (.float .f64 r3) = W5 at *
                  refine wpAnyH_ready (rs := [13]) (by kernel_rfl) (by simp) ?_
                  refine AllReadyH.cons (o := { dst := none, op := Op.store 34 (Operand.tmp 8) (Operand.tmp 48), type := 0, pos := "law.go:69", after := #[{ on := 11, ground := Ground.data }, { on := 9, ground := Ground.data }, { on := 12, ground := Ground.chain }, { on := 0, ground := Ground.phase }, { on := 1, ground := Ground.phase }, { on := 2, ground := Ground.phase }, { on := 3, ground := Ground.phase }, { on := 4, ground := Ground.phase }, { on := 5, ground := Ground.phase }, { on := 6, ground := Ground.phase }, { on := 7, ground := Ground.phase }, { on := 8, ground := Ground.phase }, { on := 9, ground := Ground.phase }, { on := 10, ground := Ground.phase }, { on := 11, ground := Ground.phase }, { on := 12, ground := Ground.phase }], guard := none }) rfl (fun K hK => ?_) (AllReadyH.nil)
                  · obtain ⟨c0, c1, c2, c3⟩ := H8.out.cell
                    obtain ⟨f0, f1, f2, f3⟩ := H8.out.frozen
                    go_simp
                    refine hK.out _ _ ?_ (fun hS6 => ?_)
                    · exact below_four hS5 _ hge8 _ _ _ _
                    clear hK K c0 c1 c2 c3 f0 f1 f2 f3
                    try simp only [Act.put, List.setIfInBounds_toArray, List.set_cons_zero, List.set_cons_succ]
                    replace H7 := Lib.hid (H7.out.far (k := g8) (by omega) (.float .f64 p0) (.float .f64 p1) (.float .f64 p2) (.float .f64 p3))
                    replace H8 := Lib.hid (H8.out.set_ p0 p1 p2 p3)
                    generalize (((W5.setCell ⟨g8, 0, none⟩ (.float .f64 p0)).setCell ⟨g8, 1, none⟩ (.float .f64 p1)).setCell ⟨g8, 2, none⟩ (.float .f64 p2)).setCell ⟨g8, 3, none⟩ (.float .f64 p3) = W6 at *
                    refine wpAnyH_done (by kernel_rfl) ?_ _
                    go_wp2_with fail
                    go_meet
                    exact ⟨g7, g8, _, _, _, _, _, _, _, _, rfl, rfl, H7.out, H8.out, hS6, four_same HA.out HBB.out⟩
            · go_simp
              refine hK.out _ _ ?_ (fun hS7 => ?_)
              · exact hS2.alloc hS2.size _
              clear hK K
              try simp only [Act.put, List.setIfInBounds_toArray, List.set_cons_zero, List.set_cons_succ]
              have H8 := Lib.hid (V4.new_ W2 0 0 0 0)
              have hge8 := hS2.size
              generalize W2.alloc (.cells #[.float .f64 0, .float .f64 0, .float .f64 0, .float .f64 0] 34) = W7 at *
              generalize W2.heap.size = g8 at *
              refine wpAnyH_ready (rs := [10]) (by kernel_rfl) (by simp) ?_
              refine AllReadyH.cons (o := { dst := some 7, op := Op.alloc 34, type := 0, pos := "law.go:69", after := #[], guard := none }) rfl (fun K hK => ?_) (AllReadyH.nil)
              · go_simp
                refine hK.out _ _ ?_ (fun hS8 => ?_)
                · exact hS7.alloc hS7.size _
                clear hK K
                try simp only [Act.put, List.setIfInBounds_toArray, List.set_cons_zero, List.set_cons_succ]
                have H7 := Lib.hid (V4.new_ W7 0 0 0 0)
                have hge7 := hS7.size
                have hne : g8 < W7.heap.size := H8.out.lt
                replace H8 := Lib.hid (H8.out.alloc (.cells #[.float .f64 0, .float .f64 0, .float .f64 0, .float .f64 0] 34))
                generalize W7.alloc (.cells #[.float .f64 0, .float .f64 0, .float .f64 0, .float .f64 0] 34) = W8 at *
                generalize W7.heap.size = g7 at *
                refine wpAnyH_ready (rs := [12]) (by kernel_rfl) (by simp) ?_
                refine AllReadyH.cons (o := { dst := none, op := Op.store 34 (Operand.tmp 7) (Operand.tmp 43), type := 0, pos := "law.go:69", after := #[{ on := 10, ground := Ground.data }, { on := 4, ground := Ground.data }, { on := 9, ground := Ground.chain }, { on := 0, ground := Ground.phase }, { on := 1, ground := Ground.phase }, { on := 2, ground := Ground.phase }, { on := 3, ground := Ground.phase }, { on := 4, ground := Ground.phase }, { on := 5, ground := Ground.textOnly Departure.lateStores }, { on := 6, ground := Ground.textOnly Departure.lateStores }, { on := 7, ground := Ground.textOnly Departure.lateStores }, { on := 8, ground := Ground.textOnly Departure.lateStores }, { on := 9, ground := Ground.textOnly Departure.lateStoresUnsure }, { on := 10, ground := Ground.phase }, { on := 11, ground := Ground.phase }], guard := none }) rfl (fun K hK => ?_) (AllReadyH.nil)
                · obtain ⟨c0, c1, c2, c3⟩ := H7.out.cell
                  obtain ⟨f0, f1, f2, f3⟩ := H7.out.frozen
                  go_simp
                  refine hK.out _ _ ?_ (fun hS9 => ?_)
                  · exact below_four hS8 _ hge7 _ _ _ _
                  clear hK K c0 c1 c2 c3 f0 f1 f2 f3
                  try simp only [Act.put, List.setIfInBounds_toArray, List.set_cons_zero, List.set_cons_succ]
                  replace H8 := Lib.hid (H8.out.far (k := g7) (by omega) (.float .f64 r0) (.float .f64 r1) (.float .f64 r2) (.float .f64 r3))
                  replace H7 := Lib.hid (H7.out.set_ r0 r1 r2 r3)
                  generalize (((W8.setCell ⟨g7, 0, none⟩ (.float .f64 r0)).setCell ⟨g7, 1, none⟩ (.float .f64 r1)).setCell ⟨g7, 2, none⟩ (.float .f64 r2)).setCell ⟨g7, 3, none⟩ (.float .f64 r3) = W9 at *
                  refine wpAnyH_ready (rs := [13]) (by kernel_rfl) (by simp) ?_
                  refine AllReadyH.cons (o := { dst := none, op := Op.store 34 (Operand.tmp 8) (Operand.tmp 48), type := 0, pos := "law.go:69", after := #[{ on := 11, ground := Ground.data }, { on := 9, ground := Ground.data }, { on := 12, ground := Ground.chain }, { on := 0, ground := Ground.phase }, { on := 1, ground := Ground.phase }, { on := 2, ground := Ground.phase }, { on := 3, ground := Ground.phase }, { on := 4, ground := Ground.phase }, { on := 5, ground := Ground.phase }, { on := 6, ground := Ground.phase }, { on := 7, ground := Ground.phase }, { on := 8, ground := Ground.phase }, { on := 9, ground := Ground.phase }, { on := 10, ground := Ground.phase }, { on := 11, ground := Ground.phase }, { on := 12, ground := Ground.phase }], guard := none }) rfl (fun K hK => ?_) (AllReadyH.nil)
                  · obtain ⟨c0, c1, c2, c3⟩ := H8.out.cell
                    obtain ⟨f0, f1, f2, f3⟩ := H8.out.frozen
                    go_simp
                    refine hK.out _ _ ?_ (fun hS10 => ?_)
                    · exact below_four hS9 _ hge8 _ _ _ _
                    clear hK K c0 c1 c2 c3 f0 f1 f2 f3
                    try simp only [Act.put, List.setIfInBounds_toArray, List.set_cons_zero, List.set_cons_succ]
                    replace H7 := Lib.hid (H7.out.far (k := g8) (by omega) (.float .f64 p0) (.float .f64 p1) (.float .f64 p2) (.float .f64 p3))
                    replace H8 := Lib.hid (H8.out.set_ p0 p1 p2 p3)
                    generalize (((W9.setCell ⟨g8, 0, none⟩ (.float .f64 p0)).setCell ⟨g8, 1, none⟩ (.float .f64 p1)).setCell ⟨g8, 2, none⟩ (.float .f64 p2)).setCell ⟨g8, 3, none⟩ (.float .f64 p3) = W10 at *
                    refine wpAnyH_done (by kernel_rfl) ?_ _
                    go_wp2_with fail
                    go_meet
                    exact ⟨g7, g8, _, _, _, _, _, _, _, _, rfl, rfl, H7.out, H8.out, hS10, four_same HA.out HBB.out⟩
          · go_simp
            refine hK.out _ _ ?_ (fun hS11 => ?_)
            · exact hS1.alloc hS1.size _
            clear hK K
            try simp only [Act.put, List.setIfInBounds_toArray, List.set_cons_zero, List.set_cons_succ]
            have H7 := Lib.hid (V4.new_ W1 0 0 0 0)
            have hge7 := hS1.size
            generalize W1.alloc (.cells #[.float .f64 0, .float .f64 0, .float .f64 0, .float .f64 0] 34) = W11 at *
            generalize W1.heap.size = g7 at *
            refine wpAnyH_ready (rs := [9, 11]) (by kernel_rfl) (by simp) ?_
            refine AllReadyH.cons (o := { dst := some 48, op := Op.call { callee := Callee.value (Operand.func 7), args := #[Operand.tmp 47], argTypes := #[32] }, type := 34, pos := "law.go:69", after := #[{ on := 8, ground := Ground.data }, { on := 4, ground := Ground.chain }], guard := none }) rfl (fun K hK => ?_) (AllReadyH.cons (o := { dst := some 8, op := Op.alloc 34, type := 0, pos := "law.go:69", after := #[], guard := none }) rfl (fun K hK => ?_) (AllReadyH.nil))
            · go_simp
              (go_at_call 7; refine (C2.out _).mono ?_; rintro e W12 ⟨p0, p1, p2, p3, rfl, hbn, hkk⟩)
              go_wp2_with fail
              refine hK.out _ _ ?_ (fun hS12 => ?_)
              · exact hS11.trans (hbn.mono hS11.size)
              clear hK K
              try simp only [Act.put, List.setIfInBounds_toArray, List.set_cons_zero, List.set_cons_succ]
              have HBB := Lib.hid hkk
              replace H7 := Lib.hid (H7.out.below hbn H7.out.lt)
              clear hbn hkk
              refine wpAnyH_ready (rs := [11]) (by kernel_rfl) (by simp) ?_
              refine AllReadyH.cons (o := { dst := some 8, op := Op.alloc 34, type := 0, pos := "law.go:69", after := #[], guard := none }) rfl (fun K hK => ?_) (AllReadyH.nil)
              · go_simp
                refine hK.out _ _ ?_ (fun hS13 => ?_)
                · exact hS12.alloc hS12.size _
                clear hK K
                try simp only [Act.put, List.setIfInBounds_toArray, List.set_cons_zero, List.set_cons_succ]
                have H8 := Lib.hid (V4.new_ W12 0 0 0 0)
                have hge8 := hS12.size
                have hne : g7 < W12.heap.size := H7.out.lt
                replace H7 := Lib.hid (H7.out.alloc (.cells #[.float .f64 0, .float .f64 0, .float .f64 0, .float .f64 0] 34))
                generalize W12.alloc (.cells #[.float .f64 0, .float .f64 0, .float .f64 0, .float .f64 0] 34) = W13 at *
                generalize W12.heap.size = g8 at *
                refine wpAnyH_ready (rs := [12]) (by kernel_rfl) (by simp) ?_
                refine AllReadyH.cons (o := { dst := none, op := Op.store 34 (Operand.tmp 7) (Operand.tmp 43), type := 0, pos := "law.go:69", after := #[{ on := 10, ground := Ground.data }, { on := 4, ground := Ground.data }, { on := 9, ground := Ground.chain }, { on := 0, ground := Ground.phase }, { on := 1, ground := Ground.phase }, { on := 2, ground := Ground.phase }, { on := 3, ground := Ground.phase }, { on := 4, ground := Ground.phase }, { on := 5, ground := Ground.textOnly Departure.lateStores }, { on := 6, ground := Ground.textOnly Departure.lateStores }, { on := 7, ground := Ground.textOnly Departure.lateStores }, { on := 8, ground := Ground.textOnly Departure.lateStores }, { on := 9, ground := Ground.textOnly Departure.lateStoresUnsure }, { on := 10, ground := Ground.phase }, { on := 11, ground := Ground.phase }], guard := none }) rfl (fun K hK => ?_) (AllReadyH.nil)
                · obtain ⟨c0, c1, c2, c3⟩ := H7.out.cell
                  obtain ⟨f0, f1, f2, f3⟩ := H7.out.frozen
                  go_simp
                  refine hK.out _ _ ?_ (fun hS14 => ?_)
                  · exact below_four hS13 _ hge7 _ _ _ _
                  clear hK K c0 c1 c2 c3 f0 f1 f2 f3
                  try simp only [Act.put, List.setIfInBounds_toArray, List.set_cons_zero, List.set_cons_succ]
                  replace H8 := Lib.hid (H8.out.far (k := g7) (by omega) (.float .f64 r0) (.float .f64 r1) (.float .f64 r2) (.float .f64 r3))
                  replace H7 := Lib.hid (H7.out.set_ r0 r1 r2 r3)
                  generalize (((W13.setCell ⟨g7, 0, none⟩ (.float .f64 r0)).setCell ⟨g7, 1, none⟩ (.float .f64 r1)).setCell ⟨g7, 2, none⟩ (.float .f64 r2)).setCell ⟨g7, 3, none⟩ (.float .f64 r3) = W14 at *
                  refine wpAnyH_ready (rs := [13]) (by kernel_rfl) (by simp) ?_
                  refine AllReadyH.cons (o := { dst := none, op := Op.store 34 (Operand.tmp 8) (Operand.tmp 48), type := 0, pos := "law.go:69", after := #[{ on := 11, ground := Ground.data }, { on := 9, ground := Ground.data }, { on := 12, ground := Ground.chain }, { on := 0, ground := Ground.phase }, { on := 1, ground := Ground.phase }, { on := 2, ground := Ground.phase }, { on := 3, ground := Ground.phase }, { on := 4, ground := Ground.phase }, { on := 5, ground := Ground.phase }, { on := 6, ground := Ground.phase }, { on := 7, ground := Ground.phase }, { on := 8, ground := Ground.phase }, { on := 9, ground := Ground.phase }, { on := 10, ground := Ground.phase }, { on := 11, ground := Ground.phase }, { on := 12, ground := Ground.phase }], guard := none }) rfl (fun K hK => ?_) (AllReadyH.nil)
                  · obtain ⟨c0, c1, c2, c3⟩ := H8.out.cell
                    obtain ⟨f0, f1, f2, f3⟩ := H8.out.frozen
                    go_simp
                    refine hK.out _ _ ?_ (fun hS15 => ?_)
                    · exact below_four hS14 _ hge8 _ _ _ _
                    clear hK K c0 c1 c2 c3 f0 f1 f2 f3
                    try simp only [Act.put, List.setIfInBounds_toArray, List.set_cons_zero, List.set_cons_succ]
                    replace H7 := Lib.hid (H7.out.far (k := g8) (by omega) (.float .f64 p0) (.float .f64 p1) (.float .f64 p2) (.float .f64 p3))
                    replace H8 := Lib.hid (H8.out.set_ p0 p1 p2 p3)
                    generalize (((W14.setCell ⟨g8, 0, none⟩ (.float .f64 p0)).setCell ⟨g8, 1, none⟩ (.float .f64 p1)).setCell ⟨g8, 2, none⟩ (.float .f64 p2)).setCell ⟨g8, 3, none⟩ (.float .f64 p3) = W15 at *
                    refine wpAnyH_done (by kernel_rfl) ?_ _
                    go_wp2_with fail
                    go_meet
                    exact ⟨g7, g8, _, _, _, _, _, _, _, _, rfl, rfl, H7.out, H8.out, hS15, four_same HA.out HBB.out⟩
            · go_simp
              refine hK.out _ _ ?_ (fun hS16 => ?_)
              · exact hS11.alloc hS11.size _
              clear hK K
              try simp only [Act.put, List.setIfInBounds_toArray, List.set_cons_zero, List.set_cons_succ]
              have H8 := Lib.hid (V4.new_ W11 0 0 0 0)
              have hge8 := hS11.size
              have hne : g7 < W11.heap.size := H7.out.lt
              replace H7 := Lib.hid (H7.out.alloc (.cells #[.float .f64 0, .float .f64 0, .float .f64 0, .float .f64 0] 34))
              generalize W11.alloc (.cells #[.float .f64 0, .float .f64 0, .float .f64 0, .float .f64 0] 34) = W16 at *
              generalize W11.heap.size = g8 at *
              refine wpAnyH_ready (rs := [9]) (by kernel_rfl) (by simp) ?_
              refine AllReadyH.cons (o := { dst := some 48, op := Op.call { callee := Callee.value (Operand.func 7), args := #[Operand.tmp 47], argTypes := #[32] }, type := 34, pos := "law.go:69", after := #[{ on := 8, ground := Ground.data }, { on := 4, ground := Ground.chain }], guard := none }) rfl (fun K hK => ?_) (AllReadyH.nil)
              · go_simp
                (go_at_call 7; refine (C2.out _).mono ?_; rintro e W17 ⟨p0, p1, p2, p3, rfl, hbn, hkk⟩)
                go_wp2_with fail
                refine hK.out _ _ ?_ (fun hS17 => ?_)
                · exact hS16.trans (hbn.mono hS16.size)
                clear hK K
                try simp only [Act.put, List.setIfInBounds_toArray, List.set_cons_zero, List.set_cons_succ]
                have HBB := Lib.hid hkk
                replace H7 := Lib.hid (H7.out.below hbn H7.out.lt)
                replace H8 := Lib.hid (H8.out.below hbn H8.out.lt)
                clear hbn hkk
                refine wpAnyH_ready (rs := [12]) (by kernel_rfl) (by simp) ?_
                refine AllReadyH.cons (o := { dst := none, op := Op.store 34 (Operand.tmp 7) (Operand.tmp 43), type := 0, pos := "law.go:69", after := #[{ on := 10, ground := Ground.data }, { on := 4, ground := Ground.data }, { on := 9, ground := Ground.chain }, { on := 0, ground := Ground.phase }, { on := 1, ground := Ground.phase }, { on := 2, ground := Ground.phase }, { on := 3, ground := Ground.phase }, { on := 4, ground := Ground.phase }, { on := 5, ground := Ground.textOnly Departure.lateStores }, { on := 6, ground := Ground.textOnly Departure.lateStores }, { on := 7, ground := Ground.textOnly Departure.lateStores }, { on := 8, ground := Ground.textOnly Departure.lateStores }, { on := 9, ground := Ground.textOnly Departure.lateStoresUnsure }, { on := 10, ground := Ground.phase }, { on := 11, ground := Ground.phase }], guard := none }) rfl (fun K hK => ?_) (AllReadyH.nil)
                · obtain ⟨c0, c1, c2, c3⟩ := H7.out.cell
                  obtain ⟨f0, f1, f2, f3⟩ := H7.out.frozen
                  go_simp
                  refine hK.out _ _ ?_ (fun hS18 => ?_)
                  · exact below_four hS17 _ hge7 _ _ _ _
                  clear hK K c0 c1 c2 c3 f0 f1 f2 f3
                  try simp only [Act.put, List.setIfInBounds_toArray, List.set_cons_zero, List.set_cons_succ]
                  replace H8 := Lib.hid (H8.out.far (k := g7) (by omega) (.float .f64 r0) (.float .f64 r1) (.float .f64 r2) (.float .f64 r3))
                  replace H7 := Lib.hid (H7.out.set_ r0 r1 r2 r3)
                  generalize (((W17.setCell ⟨g7, 0, none⟩ (.float .f64 r0)).setCell ⟨g7, 1, none⟩ (.float .f64 r1)).setCell ⟨g7, 2, none⟩ (.float .f64 r2)).setCell ⟨g7, 3, none⟩ (.float .f64 r3) = W18 at *
                  refine wpAnyH_ready (rs := [13]) (by kernel_rfl) (by simp) ?_
                  refine AllReadyH.cons (o := { dst := none, op := Op.store 34 (Operand.tmp 8) (Operand.tmp 48), type := 0, pos := "law.go:69", after := #[{ on := 11, ground := Ground.data }, { on := 9, ground := Ground.data }, { on := 12, ground := Ground.chain }, { on := 0, ground := Ground.phase }, { on := 1, ground := Ground.phase }, { on := 2, ground := Ground.phase }, { on := 3, ground := Ground.phase }, { on := 4, ground := Ground.phase }, { on := 5, ground := Ground.phase }, { on := 6, ground := Ground.phase }, { on := 7, ground := Ground.phase }, { on := 8, ground := Ground.phase }, { on := 9, ground := Ground.phase }, { on := 10, ground := Ground.phase }, { on := 11, ground := Ground.phase }, { on := 12, ground := Ground.phase }], guard := none }) rfl (fun K hK => ?_) (AllReadyH.nil)
                  · obtain ⟨c0, c1, c2, c3⟩ := H8.out.cell
                    obtain ⟨f0, f1, f2, f3⟩ := H8.out.frozen
                    go_simp
                    refine hK.out _ _ ?_ (fun hS19 => ?_)
                    · exact below_four hS18 _ hge8 _ _ _ _
                    clear hK K c0 c1 c2 c3 f0 f1 f2 f3
                    try simp only [Act.put, List.setIfInBounds_toArray, List.set_cons_zero, List.set_cons_succ]
                    replace H7 := Lib.hid (H7.out.far (k := g8) (by omega) (.float .f64 p0) (.float .f64 p1) (.float .f64 p2) (.float .f64 p3))
                    replace H8 := Lib.hid (H8.out.set_ p0 p1 p2 p3)
                    generalize (((W18.setCell ⟨g8, 0, none⟩ (.float .f64 p0)).setCell ⟨g8, 1, none⟩ (.float .f64 p1)).setCell ⟨g8, 2, none⟩ (.float .f64 p2)).setCell ⟨g8, 3, none⟩ (.float .f64 p3) = W19 at *
                    refine wpAnyH_done (by kernel_rfl) ?_ _
                    go_wp2_with fail
                    go_meet
                    exact ⟨g7, g8, _, _, _, _, _, _, _, _, rfl, rfl, H7.out, H8.out, hS19, four_same HA.out HBB.out⟩
          · go_simp
            refine hK.out _ _ ?_ (fun hS20 => ?_)
            · exact hS1.alloc hS1.size _
            clear hK K
            try simp only [Act.put, List.setIfInBounds_toArray, List.set_cons_zero, List.set_cons_succ]
            have H8 := Lib.hid (V4.new_ W1 0 0 0 0)
            have hge8 := hS1.size
            generalize W1.alloc (.cells #[.float .f64 0, .float .f64 0, .float .f64 0, .float .f64 0] 34) = W20 at *
            generalize W1.heap.size = g8 at *
            refine wpAnyH_ready (rs := [9, 10]) (by kernel_rfl) (by simp) ?_
            refine AllReadyH.cons (o := { dst := some 48, op := Op.call { callee := Callee.value (Operand.func 7), args := #[Operand.tmp 47], argTypes := #[32] }, type := 34, pos := "law.go:69", after := #[{ on := 8, ground := Ground.data }, { on := 4, ground := Ground.chain }], guard := none }) rfl (fun K hK => ?_) (AllReadyH.cons (o := { dst := some 7, op := Op.alloc 34, type := 0, pos := "law.go:69", after := #[], guard := none }) rfl (fun K hK => ?_) (AllReadyH.nil))
            · go_simp
              (go_at_call 7; refine (C2.out _).mono ?_; rintro e W21 ⟨p0, p1, p2, p3, rfl, hbn, hkk⟩)
              go_wp2_with fail
              refine hK.out _ _ ?_ (fun hS21 => ?_)
              · exact hS20.trans (hbn.mono hS20.size)
              clear hK K
              try simp only [Act.put, List.setIfInBounds_toArray, List.set_cons_zero, List.set_cons_succ]
              have HBB := Lib.hid hkk
              replace H8 := Lib.hid (H8.out.below hbn H8.out.lt)
              clear hbn hkk
              refine wpAnyH_ready (rs := [10]) (by kernel_rfl) (by simp) ?_
              refine AllReadyH.cons (o := { dst := some 7, op := Op.alloc 34, type := 0, pos := "law.go:69", after := #[], guard := none }) rfl (fun K hK => ?_) (AllReadyH.nil)
              · go_simp
                refine hK.out _ _ ?_ (fun hS22 => ?_)
                · exact hS21.alloc hS21.size _
                clear hK K
                try simp only [Act.put, List.setIfInBounds_toArray, List.set_cons_zero, List.set_cons_succ]
                have H7 := Lib.hid (V4.new_ W21 0 0 0 0)
                have hge7 := hS21.size
                have hne : g8 < W21.heap.size := H8.out.lt
                replace H8 := Lib.hid (H8.out.alloc (.cells #[.float .f64 0, .float .f64 0, .float .f64 0, .float .f64 0] 34))
                generalize W21.alloc (.cells #[.float .f64 0, .float .f64 0, .float .f64 0, .float .f64 0] 34) = W22 at *
                generalize W21.heap.size = g7 at *
                refine wpAnyH_ready (rs := [12]) (by kernel_rfl) (by simp) ?_
                refine AllReadyH.cons (o := { dst := none, op := Op.store 34 (Operand.tmp 7) (Operand.tmp 43), type := 0, pos := "law.go:69", after := #[{ on := 10, ground := Ground.data }, { on := 4, ground := Ground.data }, { on := 9, ground := Ground.chain }, { on := 0, ground := Ground.phase }, { on := 1, ground := Ground.phase }, { on := 2, ground := Ground.phase }, { on := 3, ground := Ground.phase }, { on := 4, ground := Ground.phase }, { on := 5, ground := Ground.textOnly Departure.lateStores }, { on := 6, ground := Ground.textOnly Departure.lateStores }, { on := 7, ground := Ground.textOnly Departure.lateStores }, { on := 8, ground := Ground.textOnly Departure.lateStores }, { on := 9, ground := Ground.textOnly Departure.lateStoresUnsure }, { on := 10, ground := Ground.phase }, { on := 11, ground := Ground.phase }], guard := none }) rfl (fun K hK => ?_) (AllReadyH.nil)
                · obtain ⟨c0, c1, c2, c3⟩ := H7.out.cell
                  obtain ⟨f0, f1, f2, f3⟩ := H7.out.frozen
                  go_simp
                  refine hK.out _ _ ?_ (fun hS23 => ?_)
                  · exact below_four hS22 _ hge7 _ _ _ _
                  clear hK K c0 c1 c2 c3 f0 f1 f2 f3
                  try simp only [Act.put, List.setIfInBounds_toArray, List.set_cons_zero, List.set_cons_succ]
                  replace H8 := Lib.hid (H8.out.far (k := g7) (by omega) (.float .f64 r0) (.float .f64 r1) (.float .f64 r2) (.float .f64 r3))
                  replace H7 := Lib.hid (H7.out.set_ r0 r1 r2 r3)
                  generalize (((W22.setCell ⟨g7, 0, none⟩ (.float .f64 r0)).setCell ⟨g7, 1, none⟩ (.float .f64 r1)).setCell ⟨g7, 2, none⟩ (.float .f64 r2)).setCell ⟨g7, 3, none⟩ (.float .f64 r3) = W23 at *
                  refine wpAnyH_ready (rs := [13]) (by kernel_rfl) (by simp) ?_
                  refine AllReadyH.cons (o := { dst := none, op := Op.store 34 (Operand.tmp 8) (Operand.tmp 48), type := 0, pos := "law.go:69", after := #[{ on := 11, ground := Ground.data }, { on := 9, ground := Ground.data }, { on := 12, ground := Ground.chain }, { on := 0, ground := Ground.phase }, { on := 1, ground := Ground.phase }, { on := 2, ground := Ground.phase }, { on := 3, ground := Ground.phase }, { on := 4, ground := Ground.phase }, { on := 5, ground := Ground.phase }, { on := 6, ground := Ground.phase }, { on := 7, ground := Ground.phase }, { on := 8, ground := Ground.phase }, { on := 9, ground := Ground.phase }, { on := 10, ground := Ground.phase }, { on := 11, ground := Ground.phase }, { on := 12, ground := Ground.phase }], guard := none }) rfl (fun K hK => ?_) (AllReadyH.nil)
                  · obtain ⟨c0, c1, c2, c3⟩ := H8.out.cell
                    obtain ⟨f0, f1, f2, f3⟩ := H8.out.frozen
                    go_simp
                    refine hK.out _ _ ?_ (fun hS24 => ?_)
                    · exact below_four hS23 _ hge8 _ _ _ _
                    clear hK K c0 c1 c2 c3 f0 f1 f2 f3
                    try simp only [Act.put, List.setIfInBounds_toArray, List.set_cons_zero, List.set_cons_succ]
                    replace H7 := Lib.hid (H7.out.far (k := g8) (by omega) (.float .f64 p0) (.float .f64 p1) (.float .f64 p2) (.float .f64 p3))
                    replace H8 := Lib.hid (H8.out.set_ p0 p1 p2 p3)
                    generalize (((W23.setCell ⟨g8, 0, none⟩ (.float .f64 p0)).setCell ⟨g8, 1, none⟩ (.float .f64 p1)).setCell ⟨g8, 2, none⟩ (.float .f64 p2)).setCell ⟨g8, 3, none⟩ (.float .f64 p3) = W24 at *
                    refine wpAnyH_done (by kernel_rfl) ?_ _
                    go_wp2_with fail
                    go_meet
                    exact ⟨g7, g8, _, _, _, _, _, _, _, _, rfl, rfl, H7.out, H8.out, hS24, four_same HA.out HBB.out⟩
            · go_simp
              refine hK.out _ _ ?_ (fun hS25 => ?_)
              · exact hS20.alloc hS20.size _
              clear hK K
              try simp only [Act.put, List.setIfInBounds_toArray, List.set_cons_zero, List.set_cons_succ]
              have H7 := Lib.hid (V4.new_ W20 0 0 0 0)
              have hge7 := hS20.size
              have hne : g8 < W20.heap.size := H8.out.lt
              replace H8 := Lib.hid (H8.out.alloc (.cells #[.float .f64 0, .float .f64 0, .float .f64 0, .float .f64 0] 34))
              generalize W20.alloc (.cells #[.float .f64 0, .float .f64 0, .float .f64 0, .float .f64 0] 34) = W25 at *
              generalize W20.heap.size = g7 at *
              refine wpAnyH_ready (rs := [9]) (by kernel_rfl) (by simp) ?_
              refine AllReadyH.cons (o := { dst := some 48, op := Op.call { callee := Callee.value (Operand.func 7), args := #[Operand.tmp 47], argTypes := #[32] }, type := 34, pos := "law.go:69", after := #[{ on := 8, ground := Ground.data }, { on := 4, ground := Ground.chain }], guard := none }) rfl (fun K hK => ?_) (AllReadyH.nil)
              · go_simp
                (go_at_call 7; refine (C2.out _).mono ?_; rintro e W26 ⟨p0, p1, p2, p3, rfl, hbn, hkk⟩)
                go_wp2_with fail
                refine hK.out _ _ ?_ (fun hS26 => ?_)
                · exact hS25.trans (hbn.mono hS25.size)
                clear hK K
                try simp only [Act.put, List.setIfInBounds_toArray, List.set_cons_zero, List.set_cons_succ]
                have HBB := Lib.hid hkk
                replace H7 := Lib.hid (H7.out.below hbn H7.out.lt)
                replace H8 := Lib.hid (H8.out.below hbn H8.out.lt)
                clear hbn hkk
                refine wpAnyH_ready (rs := [12]) (by kernel_rfl) (by simp) ?_
                refine AllReadyH.cons (o := { dst := none, op := Op.store 34 (Operand.tmp 7) (Operand.tmp 43), type := 0, pos := "law.go:69", after := #[{ on := 10, ground := Ground.data }, { on := 4, ground := Ground.data }, { on := 9, ground := Ground.chain }, { on := 0, ground := Ground.phase }, { on := 1, ground := Ground.phase }, { on := 2, ground := Ground.phase }, { on := 3, ground := Ground.phase }, { on := 4, ground := Ground.phase }, { on := 5, ground := Ground.textOnly Departure.lateStores }, { on := 6, ground := Ground.textOnly Departure.lateStores }, { on := 7, ground := Ground.textOnly Departure.lateStores }, { on := 8, ground := Ground.textOnly Departure.lateStores }, { on := 9, ground := Ground.textOnly Departure.lateStoresUnsure }, { on := 10, ground := Ground.phase }, { on := 11, ground := Ground.phase }], guard := none }) rfl (fun K hK => ?_) (AllReadyH.nil)
                · obtain ⟨c0, c1, c2, c3⟩ := H7.out.cell
                  obtain ⟨f0, f1, f2, f3⟩ := H7.out.frozen
                  go_simp
                  refine hK.out _ _ ?_ (fun hS27 => ?_)
                  · exact below_four hS26 _ hge7 _ _ _ _
                  clear hK K c0 c1 c2 c3 f0 f1 f2 f3
                  try simp only [Act.put, List.setIfInBounds_toArray, List.set_cons_zero, List.set_cons_succ]
                  replace H8 := Lib.hid (H8.out.far (k := g7) (by omega) (.float .f64 r0) (.float .f64 r1) (.float .f64 r2) (.float .f64 r3))
                  replace H7 := Lib.hid (H7.out.set_ r0 r1 r2 r3)
                  generalize (((W26.setCell ⟨g7, 0, none⟩ (.float .f64 r0)).setCell ⟨g7, 1, none⟩ (.float .f64 r1)).setCell ⟨g7, 2, none⟩ (.float .f64 r2)).setCell ⟨g7, 3, none⟩ (.float .f64 r3) = W27 at *
                  refine wpAnyH_ready (rs := [13]) (by kernel_rfl) (by simp) ?_
                  refine AllReadyH.cons (o := { dst := none, op := Op.store 34 (Operand.tmp 8) (Operand.tmp 48), type := 0, pos := "law.go:69", after := #[{ on := 11, ground := Ground.data }, { on := 9, ground := Ground.data }, { on := 12, ground := Ground.chain }, { on := 0, ground := Ground.phase }, { on := 1, ground := Ground.phase }, { on := 2, ground := Ground.phase }, { on := 3, ground := Ground.phase }, { on := 4, ground := Ground.phase }, { on := 5, ground := Ground.phase }, { on := 6, ground := Ground.phase }, { on := 7, ground := Ground.phase }, { on := 8, ground := Ground.phase }, { on := 9, ground := Ground.phase }, { on := 10, ground := Ground.phase }, { on := 11, ground := Ground.phase }, { on := 12, ground := Ground.phase }], guard := none }) rfl (fun K hK => ?_) (AllReadyH.nil)
                  · obtain ⟨c0, c1, c2, c3⟩ := H8.out.cell
                    obtain ⟨f0, f1, f2, f3⟩ := H8.out.frozen
                    go_simp
                    refine hK.out _ _ ?_ (fun hS28 => ?_)
                    · exact below_four hS27 _ hge8 _ _ _ _
                    clear hK K c0 c1 c2 c3 f0 f1 f2 f3
                    try simp only [Act.put, List.setIfInBounds_toArray, List.set_cons_zero, List.set_cons_succ]
                    replace H7 := Lib.hid (H7.out.far (k := g8) (by omega) (.float .f64 p0) (.float .f64 p1) (.float .f64 p2) (.float .f64 p3))
                    replace H8 := Lib.hid (H8.out.set_ p0 p1 p2 p3)
                    generalize (((W27.setCell ⟨g8, 0, none⟩ (.float .f64 p0)).setCell ⟨g8, 1, none⟩ (.float .f64 p1)).setCell ⟨g8, 2, none⟩ (.float .f64 p2)).setCell ⟨g8, 3, none⟩ (.float .f64 p3) = W28 at *
                    refine wpAnyH_done (by kernel_rfl) ?_ _
                    go_wp2_with fail
                    go_meet
                    exact ⟨g7, g8, _, _, _, _, _, _, _, _, rfl, rfl, H7.out, H8.out, hS28, four_same HA.out HBB.out⟩
        · go_simp
          refine hK.out _ _ ?_ (fun hS29 => ?_)
          · exact hS0.alloc hS0.size _
          clear hK K
          try simp only [Act.put, List.setIfInBounds_toArray, List.set_cons_zero, List.set_cons_succ]
          have H7 := Lib.hid (V4.new_ W0 0 0 0 0)
          have hge7 := hS0.size
          generalize W0.alloc (.cells #[.float .f64 0, .float .f64 0, .float .f64 0, .float .f64 0] 34) = W29 at *
          generalize W0.heap.size = g7 at *
          refine wpAnyH_ready (rs := [4, 11]) (by kernel_rfl) (by simp) ?_
          refine AllReadyH.cons (o := { dst := some 43, op := Op.call { callee := Callee.value (Operand.func 6), args := #[Operand.tmp 42], argTypes := #[28] }, type := 34, pos := "law.go:69", after := #[{ on := 3, ground := Ground.data }], guard := none }) rfl (fun K hK => ?_) (AllReadyH.cons (o := { dst := some 8, op := Op.alloc 34, type := 0, pos := "law.go:69", after := #[], guard := none }) rfl (fun K hK => ?_) (AllReadyH.nil))
          · go_simp
            (go_at_call 6; refine (C1.out _).mono ?_; rintro e W30 ⟨r0, r1, r2, r3, rfl, hbn, hkk⟩)
            go_wp2_with fail
            refine hK.out _ _ ?_ (fun hS30 => ?_)
            · exact hS29.trans (hbn.mono hS29.size)
            clear hK K
            try simp only [Act.put, List.setIfInBounds_toArray, List.set_cons_zero, List.set_cons_succ]
            have HA := Lib.hid hkk
            replace H7 := Lib.hid (H7.out.below hbn H7.out.lt)
            clear hbn hkk
            refine wpAnyH_ready (rs := [9, 11]) (by kernel_rfl) (by simp) ?_
            refine AllReadyH.cons (o := { dst := some 48, op := Op.call { callee := Callee.value (Operand.func 7), args := #[Operand.tmp 47], argTypes := #[32] }, type := 34, pos := "law.go:69", after := #[{ on := 8, ground := Ground.data }, { on := 4, ground := Ground.chain }], guard := none }) rfl (fun K hK => ?_) (AllReadyH.cons (o := { dst := some 8, op := Op.alloc 34, type := 0, pos := "law.go:69", after := #[], guard := none }) rfl (fun K hK => ?_) (AllReadyH.nil))
            · go_simp
              (go_at_call 7; refine (C2.out _).mono ?_; rintro e W31 ⟨p0, p1, p2, p3, rfl, hbn, hkk⟩)
              go_wp2_with fail
              refine hK.out _ _ ?_ (fun hS31 => ?_)
              · exact hS30.trans (hbn.mono hS30.size)
              clear hK K
              try simp only [Act.put, List.setIfInBounds_toArray, List.set_cons_zero, List.set_cons_succ]
              have HBB := Lib.hid hkk
              replace H7 := Lib.hid (H7.out.below hbn H7.out.lt)
              clear hbn hkk
              refine wpAnyH_ready (rs := [11]) (by kernel_rfl) (by simp) ?_
              refine AllReadyH.cons (o := { dst := some 8, op := Op.alloc 34, type := 0, pos := "law.go:69", after := #[], guard := none }) rfl (fun K hK => ?_) (AllReadyH.nil)
              · go_simp
                refine hK.out _ _ ?_ (fun hS32 => ?_)
                · exact hS31.alloc hS31.size _
                clear hK K
                try simp only [Act.put, List.setIfInBounds_toArray, List.set_cons_zero, List.set_cons_succ]
                have H8 := Lib.hid (V4.new_ W31 0 0 0 0)
                have hge8 := hS31.size
                have hne : g7 < W31.heap.size := H7.out.lt
                replace H7 := Lib.hid (H7.out.alloc (.cells #[.float .f64 0, .float .f64 0, .float .f64 0, .float .f64 0] 34))
                generalize W31.alloc (.cells #[.float .f64 0, .float .f64 0, .float .f64 0, .float .f64 0] 34) = W32 at *
                generalize W31.heap.size = g8 at *
                refine wpAnyH_ready (rs := [12]) (by kernel_rfl) (by simp) ?_
                refine AllReadyH.cons (o := { dst := none, op := Op.store 34 (Operand.tmp 7) (Operand.tmp 43), type := 0, pos := "law.go:69", after := #[{ on := 10, ground := Ground.data }, { on := 4, ground := Ground.data }, { on := 9, ground := Ground.chain }, { on := 0, ground := Ground.phase }, { on := 1, ground := Ground.phase }, { on := 2, ground := Ground.phase }, { on := 3, ground := Ground.phase }, { on := 4, ground := Ground.phase }, { on := 5, ground := Ground.textOnly Departure.lateStores }, { on := 6, ground := Ground.textOnly Departure.lateStores }, { on := 7, ground := Ground.textOnly Departure.lateStores }, { on := 8, ground := Ground.textOnly Departure.lateStores }, { on := 9, ground := Ground.textOnly Departure.lateStoresUnsure }, { on := 10, ground := Ground.phase }, { on := 11, ground := Ground.phase }], guard := none }) rfl (fun K hK => ?_) (AllReadyH.nil)
                · obtain ⟨c0, c1, c2, c3⟩ := H7.out.cell
                  obtain ⟨f0, f1, f2, f3⟩ := H7.out.frozen
                  go_simp
                  refine hK.out _ _ ?_ (fun hS33 => ?_)
                  · exact below_four hS32 _ hge7 _ _ _ _
                  clear hK K c0 c1 c2 c3 f0 f1 f2 f3
                  try simp only [Act.put, List.setIfInBounds_toArray, List.set_cons_zero, List.set_cons_succ]
                  replace H8 := Lib.hid (H8.out.far (k := g7) (by omega) (.float .f64 r0) (.float .f64 r1) (.float .f64 r2) (.float .f64 r3))
                  replace H7 := Lib.hid (H7.out.set_ r0 r1 r2 r3)
                  generalize (((W32.setCell ⟨g7, 0, none⟩ (.float .f64 r0)).setCell ⟨g7, 1, none⟩ (.float .f64 r1)).setCell ⟨g7, 2, none⟩ (.float .f64 r2)).setCell ⟨g7, 3, none⟩ (.float .f64 r3) = W33 at *
                  refine wpAnyH_ready (rs := [13]) (by kernel_rfl) (by simp) ?_
                  refine AllReadyH.cons (o := { dst := none, op := Op.store 34 (Operand.tmp 8) (Operand.tmp 48), type := 0, pos := "law.go:69", after := #[{ on := 11, ground := Ground.data }, { on := 9, ground := Ground.data }, { on := 12, ground := Ground.chain }, { on := 0, ground := Ground.phase }, { on := 1, ground := Ground.phase }, { on := 2, ground := Ground.phase }, { on := 3, ground := Ground.phase }, { on := 4, ground := Ground.phase }, { on := 5, ground := Ground.phase }, { on := 6, ground := Ground.phase }, { on := 7, ground := Ground.phase }, { on := 8, ground := Ground.phase }, { on := 9, ground := Ground.phase }, { on := 10, ground := Ground.phase }, { on := 11, ground := Ground.phase }, { on := 12, ground := Ground.phase }], guard := none }) rfl (fun K hK => ?_) (AllReadyH.nil)
                  · obtain ⟨c0, c1, c2, c3⟩ := H8.out.cell
                    obtain ⟨f0, f1, f2, f3⟩ := H8.out.frozen
                    go_simp
                    refine hK.out _ _ ?_ (fun hS34 => ?_)
                    · exact below_four hS33 _ hge8 _ _ _ _
                    clear hK K c0 c1 c2 c3 f0 f1 f2 f3
                    try simp only [Act.put, List.setIfInBounds_toArray, List.set_cons_zero, List.set_cons_succ]
                    replace H7 := Lib.hid (H7.out.far (k := g8) (by omega) (.float .f64 p0) (.float .f64 p1) (.float .f64 p2) (.float .f64 p3))
                    replace H8 := Lib.hid (H8.out.set_ p0 p1 p2 p3)
                    generalize (((W33.setCell ⟨g8, 0, none⟩ (.float .f64 p0)).setCell ⟨g8, 1, none⟩ (.float .f64 p1)).setCell ⟨g8, 2, none⟩ (.float .f64 p2)).setCell ⟨g8, 3, none⟩ (.float .f64 p3) = W34 at *
                    refine wpAnyH_done (by kernel_rfl) ?_ _
                    go_wp2_with fail
                    go_meet
                    exact ⟨g7, g8, _, _, _, _, _, _, _, _, rfl, rfl, H7.out, H8.out, hS34, four_same HA.out HBB.out⟩
            · go_simp
              refine hK.out _ _ ?_ (fun hS35 => ?_)
              · exact hS30.alloc hS30.size _
              clear hK K
              try simp only [Act.put, List.setIfInBounds_toArray, List.set_cons_zero, List.set_cons_succ]
              have H8 := Lib.hid (V4.new_ W30 0 0 0 0)
              have hge8 := hS30.size
              have hne : g7 < W30.heap.size := H7.out.lt
              replace H7 := Lib.hid (H7.out.alloc (.cells #[.float .f64 0, .float .f64 0, .float .f64 0, .float .f64 0] 34))
              generalize W30.alloc (.cells #[.float .f64 0, .float .f64 0, .float .f64 0, .float .f64 0] 34) = W35 at *
              generalize W30.heap.size = g8 at *
              refine wpAnyH_ready (rs := [9]) (by kernel_rfl) (by simp) ?_
              refine AllReadyH.cons (o := { dst := some 48, op := Op.call { callee := Callee.value (Operand.func 7), args := #[Operand.tmp 47], argTypes := #[32] }, type := 34, pos := "law.go:69", after := #[{ on := 8, ground := Ground.data }, { on := 4, ground := Ground.chain }], guard := none }) rfl (fun K hK => ?_) (AllReadyH.nil)
              · go_simp
                (go_at_call 7; refine (C2.out _).mono ?_; rintro e W36 ⟨p0, p1, p2, p3, rfl, hbn, hkk⟩)
                go_wp2_with fail
                refine hK.out _ _ ?_ (fun hS36 => ?_)
                · exact hS35.trans (hbn.mono hS35.size)
                clear hK K
                try simp only [Act.put, List.setIfInBounds_toArray, List.set_cons_zero, List.set_cons_succ]
                have HBB := Lib.hid hkk
                replace H7 := Lib.hid (H7.out.below hbn H7.out.lt)
                replace H8 := Lib.hid (H8.out.below hbn H8.out.lt)
                clear hbn hkk
                refine wpAnyH_ready (rs := [12]) (by kernel_rfl) (by simp) ?_
                refine AllReadyH.cons (o := { dst := none, op := Op.store 34 (Operand.tmp 7) (Operand.tmp 43), type := 0, pos := "law.go:69", after := #[{ on := 10, ground := Ground.data }, { on := 4, ground := Ground.data }, { on := 9, ground := Ground.chain }, { on := 0, ground := Ground.phase }, { on := 1, ground := Ground.phase }, { on := 2, ground := Ground.phase }, { on := 3, ground := Ground.phase }, { on := 4, ground := Ground.phase }, { on := 5, ground := Ground.textOnly Departure.lateStores }, { on := 6, ground := Ground.textOnly Departure.lateStores }, { on := 7, ground := Ground.textOnly Departure.lateStores }, { on := 8, ground := Ground.textOnly Departure.lateStores }, { on := 9, ground := Ground.textOnly Departure.lateStoresUnsure }, { on := 10, ground := Ground.phase }, { on := 11, ground := Ground.phase }], guard := none }) rfl (fun K hK => ?_) (AllReadyH.nil)
                · obtain ⟨c0, c1, c2, c3⟩ := H7.out.cell
                  obtain ⟨f0, f1, f2, f3⟩ := H7.out.frozen
                  go_simp
                  refine hK.out _ _ ?_ (fun hS37 => ?_)
                  · exact below_four hS36 _ hge7 _ _ _ _
                  clear hK K c0 c1 c2 c3 f0 f1 f2 f3
                  try simp only [Act.put, List.setIfInBounds_toArray, List.set_cons_zero, List.set_cons_succ]
                  replace H8 := Lib.hid (H8.out.far (k := g7) (by omega) (.float .f64 r0) (.float .f64 r1) (.float .f64 r2) (.float .f64 r3))
                  replace H7 := Lib.hid (H7.out.set_ r0 r1 r2 r3)
                  generalize (((W36.setCell ⟨g7, 0, none⟩ (.float .f64 r0)).setCell ⟨g7, 1, none⟩ (.float .f64 r1)).setCell ⟨g7, 2, none⟩ (.float .f64 r2)).setCell ⟨g7, 3, none⟩ (.float .f64 r3) = W37 at *
                  refine wpAnyH_ready (rs := [13]) (by kernel_rfl) (by simp) ?_
                  refine AllReadyH.cons (o := { dst := none, op := Op.store 34 (Operand.tmp 8) (Operand.tmp 48), type := 0, pos := "law.go:69", after := #[{ on := 11, ground := Ground.data }, { on := 9, ground := Ground.data }, { on := 12, ground := Ground.chain }, { on := 0, ground := Ground.phase }, { on := 1, ground := Ground.phase }, { on := 2, ground := Ground.phase }, { on := 3, ground := Ground.phase }, { on := 4, ground := Ground.phase }, { on := 5, ground := Ground.phase }, { on := 6, ground := Ground.phase }, { on := 7, ground := Ground.phase }, { on := 8, ground := Ground.phase }, { on := 9, ground := Ground.phase }, { on := 10, ground := Ground.phase }, { on := 11, ground := Ground.phase }, { on := 12, ground := Ground.phase }], guard := none }) rfl (fun K hK => ?_) (AllReadyH.nil)
                  · obtain ⟨c0, c1, c2, c3⟩ := H8.out.cell
                    obtain ⟨f0, f1, f2, f3⟩ := H8.out.frozen
                    go_simp
                    refine hK.out _ _ ?_ (fun hS38 => ?_)
                    · exact below_four hS37 _ hge8 _ _ _ _
                    clear hK K c0 c1 c2 c3 f0 f1 f2 f3
                    try simp only [Act.put, List.setIfInBounds_toArray, List.set_cons_zero, List.set_cons_succ]
                    replace H7 := Lib.hid (H7.out.far (k := g8) (by omega) (.float .f64 p0) (.float .f64 p1) (.float .f64 p2) (.float .f64 p3))
                    replace H8 := Lib.hid (H8.out.set_ p0 p1 p2 p3)
                    generalize (((W37.setCell ⟨g8, 0, none⟩ (.float .f64 p0)).setCell ⟨g8, 1, none⟩ (.float .f64 p1)).setCell ⟨g8, 2, none⟩ (.float .f64 p2)).setCell ⟨g8, 3, none⟩ (.float .f64 p3) = W38 at *
                    refine wpAnyH_done (by kernel_rfl) ?_ _
                    go_wp2_with fail
                    go_meet
                    exact ⟨g7, g8, _, _, _, _, _, _, _, _, rfl, rfl, H7.out, H8.out, hS38, four_same HA.out HBB.out⟩
          · go_simp
            refine hK.out _ _ ?_ (fun hS39 => ?_)
            · exact hS29.alloc hS29.size _
            clear hK K
            try simp only [Act.put, List.setIfInBounds_toArray, List.set_cons_zero, List.set_cons_succ]
            have H8 := Lib.hid (V4.new_ W29 0 0 0 0)
            have hge8 := hS29.size
            have hne : g7 < W29.heap.size := H7.out.lt
            replace H7 := Lib.hid (H7.out.alloc (.cells #[.float .f64 0, .float .f64 0, .float .f64 0, .float .f64 0] 34))
            generalize W29.alloc (.cells #[.float .f64 0, .float .f64 0, .float .f64 0, .float .f64 0] 34) = W39 at *
            generalize W29.heap.size = g8 at *
            refine wpAnyH_ready (rs := [4]) (by kernel_rfl) (by simp) ?_
            refine AllReadyH.cons (o := { dst := some 43, op := Op.call { callee := Callee.value (Operand.func 6), args := #[Operand.tmp 42], argTypes := #[28] }, type := 34, pos := "law.go:69", after := #[{ on := 3, ground := Ground.data }], guard := none }) rfl (fun K hK => ?_) (AllReadyH.nil)
            · go_simp
              (go_at_call 6; refine (C1.out _).mono ?_; rintro e W40 ⟨r0, r1, r2, r3, rfl, hbn, hkk⟩)
              go_wp2_with fail
              refine hK.out _ _ ?_ (fun hS40 => ?_)
              · exact hS39.trans (hbn.mono hS39.size)
              clear hK K
              try simp only [Act.put, List.setIfInBounds_toArray, List.set_cons_zero, List.set_cons_succ]
              have HA := Lib.hid hkk
              replace H7 := Lib.hid (H7.out.below hbn H7.out.lt)
              replace H8 := Lib.hid (H8.out.below hbn H8.out.lt)
              clear hbn hkk
              refine wpAnyH_ready (rs := [9]) (by kernel_rfl) (by simp) ?_
              refine AllReadyH.cons (o := { dst := some 48, op := Op.call { callee := Callee.value (Operand.func 7), args := #[Operand.tmp 47], argTypes := #[32] }, type := 34, pos := "law.go:69", after := #[{ on := 8, ground := Ground.data }, { on := 4, ground := Ground.chain }], guard := none }) rfl (fun K hK => ?_) (AllReadyH.nil)
              · go_simp
                (go_at_call 7; refine (C2.out _).mono ?_; rintro e W41 ⟨p0, p1, p2, p3, rfl, hbn, hkk⟩)
                go_wp2_with fail
                refine hK.out _ _ ?_ (fun hS41 => ?_)
                · exact hS40.trans (hbn.mono hS40.size)
                clear hK K
                try simp only [Act.put, List.setIfInBounds_toArray, List.set_cons_zero, List.set_cons_succ]
                have HBB := Lib.hid hkk
                replace H7 := Lib.hid (H7.out.below hbn H7.out.lt)
                replace H8 := Lib.hid (H8.out.below hbn H8.out.lt)
                clear hbn hkk
                refine wpAnyH_ready (rs := [12]) (by kernel_rfl) (by simp) ?_
                refine AllReadyH.cons (o := { dst := none, op := Op.store 34 (Operand.tmp 7) (Operand.tmp 43), type := 0, pos := "law.go:69", after := #[{ on := 10, ground := Ground.data }, { on := 4, ground := Ground.data }, { on := 9, ground := Ground.chain }, { on := 0, ground := Ground.phase }, { on := 1, ground := Ground.phase }, { on := 2, ground := Ground.phase }, { on := 3, ground := Ground.phase }, { on := 4, ground := Ground.phase }, { on := 5, ground := Ground.textOnly Departure.lateStores }, { on := 6, ground := Ground.textOnly Departure.lateStores }, { on := 7, ground := Ground.textOnly Departure.lateStores }, { on := 8, ground := Ground.textOnly Departure.lateStores }, { on := 9, ground := Ground.textOnly Departure.lateStoresUnsure }, { on := 10, ground := Ground.phase }, { on := 11, ground := Ground.phase }], guard := none }) rfl (fun K hK => ?_) (AllReadyH.nil)
                · obtain ⟨c0, c1, c2, c3⟩ := H7.out.cell
                  obtain ⟨f0, f1, f2, f3⟩ := H7.out.frozen
                  go_simp
                  refine hK.out _ _ ?_ (fun hS42 => ?_)
                  · exact below_four hS41 _ hge7 _ _ _ _
                  clear hK K c0 c1 c2 c3 f0 f1 f2 f3
                  try simp only [Act.put, List.setIfInBounds_toArray, List.set_cons_zero, List.set_cons_succ]
                  replace H8 := Lib.hid (H8.out.far (k := g7) (by omega) (.float .f64 r0) (.float .f64 r1) (.float .f64 r2) (.float .f64 r3))
                  replace H7 := Lib.hid (H7.out.set_ r0 r1 r2 r3)
                  generalize (((W41.setCell ⟨g7, 0, none⟩ (.float .f64 r0)).setCell ⟨g7, 1, none⟩ (.float .f64 r1)).setCell ⟨g7, 2, none⟩ (.float .f64 r2)).setCell ⟨g7, 3, none⟩ (.float .f64 r3) = W42 at *
                  refine wpAnyH_ready (rs := [13]) (by kernel_rfl) (by simp) ?_
                  refine AllReadyH.cons (o := { dst := none, op := Op.store 34 (Operand.tmp 8) (Operand.tmp 48), type := 0, pos := "law.go:69", after := #[{ on := 11, ground := Ground.data }, { on := 9, ground := Ground.data }, { on := 12, ground := Ground.chain }, { on := 0, ground := Ground.phase }, { on := 1, ground := Ground.phase }, { on := 2, ground := Ground.phase }, { on := 3, ground := Ground.phase }, { on := 4, ground := Ground.phase }, { on := 5, ground := Ground.phase }, { on := 6, ground := Ground.phase }, { on := 7, ground := Ground.phase }, { on := 8, ground := Ground.phase }, { on := 9, ground := Ground.phase }, { on := 10, ground := Ground.phase }, { on := 11, ground := Ground.phase }, { on := 12, ground := Ground.phase }], guard := none }) rfl (fun K hK => ?_) (AllReadyH.nil)
                  · obtain ⟨c0, c1, c2, c3⟩ := H8.out.cell
                    obtain ⟨f0, f1, f2, f3⟩ := H8.out.frozen
                    go_simp
                    refine hK.out _ _ ?_ (fun hS43 => ?_)
                    · exact below_four hS42 _ hge8 _ _ _ _
                    clear hK K c0 c1 c2 c3 f0 f1 f2 f3
                    try simp only [Act.put, List.setIfInBounds_toArray, List.set_cons_zero, List.set_cons_succ]
                    replace H7 := Lib.hid (H7.out.far (k := g8) (by omega) (.float .f64 p0) (.float .f64 p1) (.float .f64 p2) (.float .f64 p3))
                    replace H8 := Lib.hid (H8.out.set_ p0 p1 p2 p3)
                    generalize (((W42.setCell ⟨g8, 0, none⟩ (.float .f64 p0)).setCell ⟨g8, 1, none⟩ (.float .f64 p1)).setCell ⟨g8, 2, none⟩ (.float .f64 p2)).setCell ⟨g8, 3, none⟩ (.float .f64 p3) = W43 at *
                    refine wpAnyH_done (by kernel_rfl) ?_ _
                    go_wp2_with fail
                    go_meet
                    exact ⟨g7, g8, _, _, _, _, _, _, _, _, rfl, rfl, H7.out, H8.out, hS43, four_same HA.out HBB.out⟩
        · go_simp
          refine hK.out _ _ ?_ (fun hS44 => ?_)
          · exact hS0.alloc hS0.size _
          clear hK K
          try simp only [Act.put, List.setIfInBounds_toArray, List.set_cons_zero, List.set_cons_succ]
          have H8 := Lib.hid (V4.new_ W0 0 0 0 0)
          have hge8 := hS0.size
          generalize W0.alloc (.cells #[.float .f64 0, .float .f64 0, .float .f64 0, .float .f64 0] 34) = W44 at *
          generalize W0.heap.size = g8 at *
          refine wpAnyH_ready (rs := [4, 10]) (by kernel_rfl) (by simp) ?_
          refine AllReadyH.cons (o := { dst := some 43, op := Op.call { callee := Callee.value (Operand.func 6), args := #[Operand.tmp 42], argTypes := #[28] }, type := 34, pos := "law.go:69", after := #[{ on := 3, ground := Ground.data }], guard := none }) rfl (fun K hK => ?_) (AllReadyH.cons (o := { dst := some 7, op := Op.alloc 34, type := 0, pos := "law.go:69", after := #[], guard := none }) rfl (fun K hK => ?_) (AllReadyH.nil))
          · go_simp
            (go_at_call 6; refine (C1.out _).mono ?_; rintro e W45 ⟨r0, r1, r2, r3, rfl, hbn, hkk⟩)
            go_wp2_with fail
            refine hK.out _ _ ?_ (fun hS45 => ?_)
            · exact hS44.trans (hbn.mono hS44.size)
            clear hK K
            try simp only [Act.put, List.setIfInBounds_toArray, List.set_cons_zero, List.set_cons_succ]
            have HA := Lib.hid hkk
            replace H8 := Lib.hid (H8.out.below hbn H8.out.lt)
            clear hbn hkk
            refine wpAnyH_ready (rs := [9, 10]) (by kernel_rfl) (by simp) ?_
            refine AllReadyH.cons (o := { dst := some 48, op := Op.call { callee := Callee.value (Operand.func 7), args := #[Operand.tmp 47], argTypes := #[32] }, type := 34, pos := "law.go:69", after := #[{ on := 8, ground := Ground.data }, { on := 4, ground := Ground.chain }], guard := none }) rfl (fun K hK => ?_) (AllReadyH.cons (o := { dst := some 7, op := Op.alloc 34, type := 0, pos := "law.go:69", after := #[], guard := none }) rfl (fun K hK => ?_) (AllReadyH.nil))
            · go_simp
              (go_at_call 7; refine (C2.out _).mono ?_; rintro e W46 ⟨p0, p1, p2, p3, rfl, hbn, hkk⟩)
              go_wp2_with fail
              refine hK.out _ _ ?_ (fun hS46 => ?_)
              · exact hS45.trans (hbn.mono hS45.size)
              clear hK K
              try simp only [Act.put, List.setIfInBounds_toArray, List.set_cons_zero, List.set_cons_succ]
              have HBB := Lib.hid hkk
              replace H8 := Lib.hid (H8.out.below hbn H8.out.lt)
              clear hbn hkk
              refine wpAnyH_ready (rs := [10]) (by kernel_rfl) (by simp) ?_
              refine AllReadyH.cons (o := { dst := some 7, op := Op.alloc 34, type := 0, pos := "law.go:69", after := #[], guard := none }) rfl (fun K hK => ?_) (AllReadyH.nil)
              · go_simp
                refine hK.out _ _ ?_ (fun hS47 => ?_)
                · exact hS46.alloc hS46.size _
                clear hK K
                try simp only [Act.put, List.setIfInBounds_toArray, List.set_cons_zero, List.set_cons_succ]
                have H7 := Lib.hid (V4.new_ W46 0 0 0 0)
                have hge7 := hS46.size
                have hne : g8 < W46.heap.size := H8.out.lt
                replace H8 := Lib.hid (H8.out.alloc (.cells #[.float .f64 0, .float .f64 0, .float .f64 0, .float .f64 0] 34))
                generalize W46.alloc (.cells #[.float .f64 0, .float .f64 0, .float .f64 0, .float .f64 0] 34) = W47 at *
                generalize W46.heap.size = g7 at *
                refine wpAnyH_ready (rs := [12]) (by kernel_rfl) (by simp) ?_
                refine AllReadyH.cons (o := { dst := none, op := Op.store 34 (Operand.tmp 7) (Operand.tmp 43), type := 0, pos := "law.go:69", after := #[{ on := 10, ground := Ground.data }, { on := 4, ground := Ground.data }, { on := 9, ground := Ground.chain }, { on := 0, ground := Ground.phase }, { on := 1, ground := Ground.phase }, { on := 2, ground := Ground.phase }, { on := 3, ground := Ground.phase }, { on := 4, ground := Ground.phase }, { on := 5, ground := Ground.textOnly Departure.lateStores }, { on := 6, ground := Ground.textOnly Departure.lateStores }, { on := 7, ground := Ground.textOnly Departure.lateStores }, { on := 8, ground := Ground.textOnly Departure.lateStores }, { on := 9, ground := Ground.textOnly Departure.lateStoresUnsure }, { on := 10, ground := Ground.phase }, { on := 11, ground := Ground.phase }], guard := none }) rfl (fun K hK => ?_) (AllReadyH.nil)
                · obtain ⟨c0, c1, c2, c3⟩ := H7.out.cell
                  obtain ⟨f0, f1, f2, f3⟩ := H7.out.frozen
                  go_simp
                  refine hK.out _ _ ?_ (fun hS48 => ?_)
                  · exact below_four hS47 _ hge7 _ _ _ _
                  clear hK K c0 c1 c2 c3 f0 f1 f2 f3
                  try simp only [Act.put, List.setIfInBounds_toArray, List.set_cons_zero, List.set_cons_succ]
                  replace H8 := Lib.hid (H8.out.far (k := g7) (by omega) (.float .f64 r0) (.float .f64 r1) (.float .f64 r2) (.float .f64 r3))
                  replace H7 := Lib.hid (H7.out.set_ r0 r1 r2 r3)
                  generalize (((W47.setCell ⟨g7, 0, none⟩ (.float .f64 r0)).setCell ⟨g7, 1, none⟩ (.float .f64 r1)).setCell ⟨g7, 2, none⟩ (.float .f64 r2)).setCell ⟨g7, 3, none⟩ (.float .f64 r3) = W48 at *
                  refine wpAnyH_ready (rs := [13]) (by kernel_rfl) (by simp) ?_
                  refine AllReadyH.cons (o := { dst := none, op := Op.store 34 (Operand.tmp 8) (Operand.tmp 48), type := 0, pos := "law.go:69", after := #[{ on := 11, ground := Ground.data }, { on := 9, ground := Ground.data }, { on := 12, ground := Ground.chain }, { on := 0, ground := Ground.phase }, { on := 1, ground := Ground.phase }, { on := 2, ground := Ground.phase }, { on := 3, ground := Ground.phase }, { on := 4, ground := Ground.phase }, { on := 5, ground := Ground.phase }, { on := 6, ground := Ground.phase }, { on := 7, ground := Ground.phase }, { on := 8, ground := Ground.phase }, { on := 9, ground := Ground.phase }, { on := 10, ground := Ground.phase }, { on := 11, ground := Ground.phase }, { on := 12, ground := Ground.phase }], guard := none }) rfl (fun K hK => ?_) (AllReadyH.nil)
                  · obtain ⟨c0, c1, c2, c3⟩ := H8.out.cell
                    obtain ⟨f0, f1, f2, f3⟩ := H8.out.frozen
                    go_simp
                    refine hK.out _ _ ?_ (fun hS49 => ?_)
                    · exact below_four hS48 _ hge8 _ _ _ _
                    clear hK K c0 c1 c2 c3 f0 f1 f2 f3
                    try simp only [Act.put, List.setIfInBounds_toArray, List.set_cons_zero, List.set_cons_succ]
                    replace H7 := Lib.hid (H7.out.far (k := g8) (by omega) (.float .f64 p0) (.float .f64 p1) (.float .f64 p2) (.float .f64 p3))
                    replace H8 := Lib.hid (H8.out.set_ p0 p1 p2 p3)
                    generalize (((W48.setCell ⟨g8, 0, none⟩ (.float .f64 p0)).setCell ⟨g8, 1, none⟩ (.float .f64 p1)).setCell ⟨g8, 2, none⟩ (.float .f64 p2)).setCell ⟨g8, 3, none⟩ (.float .f64 p3) = W49 at *
                    refine wpAnyH_done (by kernel_rfl) ?_ _
                    go_wp2_with fail
                    go_meet
                    exact ⟨g7, g8, _, _, _, _, _, _, _, _, rfl, rfl, H7.out, H8.out, hS49, four_same HA.out HBB.out⟩
            · go_simp
              refine hK.out _ _ ?_ (fun hS50 => ?_)
              · exact hS45.alloc hS45.size _
              clear hK K
              try simp only [Act.put, List.setIfInBounds_toArray, List.set_cons_zero, List.set_cons_succ]
              have H7 := Lib.hid (V4.new_ W45 0 0 0 0)
              have hge7 := hS45.size
              have hne : g8 < W45.heap.size := H8.out.lt
              replace H8 := Lib.hid (H8.out.alloc (.cells #[.float .f64 0, .float .f64 0, .float .f64 0, .float .f64 0] 34))
              generalize W45.alloc (.cells #[.float .f64 0, .float .f64 0, .float .f64 0, .float .f64 0] 34) = W50 at *
              generalize W45.heap.size = g7 at *
              refine wpAnyH_ready (rs := [9]) (by kernel_rfl) (by simp) ?_
              refine AllReadyH.cons (o := { dst := some 48, op := Op.call { callee := Callee.value (Operand.func 7), args := #[Operand.tmp 47], argTypes := #[32] }, type := 34, pos := "law.go:69", after := #[{ on := 8, ground := Ground.data }, { on := 4, ground := Ground.chain }], guard := none }) rfl (fun K hK => ?_) (AllReadyH.nil)
              · go_simp
                (go_at_call 7; refine (C2.out _).mono ?_; rintro e W51 ⟨p0, p1, p2, p3, rfl, hbn, hkk⟩)
                go_wp2_with fail
                refine hK.out _ _ ?_ (fun hS51 => ?_)
                · exact hS50.trans (hbn.mono hS50.size)
                clear hK K
                try simp only [Act.put, List.setIfInBounds_toArray, List.set_cons_zero, List.set_cons_succ]
                have HBB := Lib.hid hkk
                replace H7 := Lib.hid (H7.out.below hbn H7.out.lt)
                replace H8 := Lib.hid (H8.out.below hbn H8.out.lt)
                clear hbn hkk
                refine wpAnyH_ready (rs := [12]) (by kernel_rfl) (by simp) ?_
                refine AllReadyH.cons (o := { dst := none, op := Op.store 34 (Operand.tmp 7) (Operand.tmp 43), type := 0, pos := "law.go:69", after := #[{ on := 10, ground := Ground.data }, { on := 4, ground := Ground.data }, { on := 9, ground := Ground.chain }, { on := 0, ground := Ground.phase }, { on := 1, ground := Ground.phase }, { on := 2, ground := Ground.phase }, { on := 3, ground := Ground.phase }, { on := 4, ground := Ground.phase }, { on := 5, ground := Ground.textOnly Departure.lateStores }, { on := 6, ground := Ground.textOnly Departure.lateStores }, { on := 7, ground := Ground.textOnly Departure.lateStores }, { on := 8, ground := Ground.textOnly Departure.lateStores }, { on := 9, ground := Ground.textOnly Departure.lateStoresUnsure }, { on := 10, ground := Ground.phase }, { on := 11, ground := Ground.phase }], guard := none }) rfl (fun K hK => ?_) (AllReadyH.nil)
                · obtain ⟨c0, c1, c2, c3⟩ := H7.out.cell
                  obtain ⟨f0, f1, f2, f3⟩ := H7.out.frozen
                  go_simp
                  refine hK.out _ _ ?_ (fun hS52 => ?_)
                  · exact below_four hS51 _ hge7 _ _ _ _
                  clear hK K c0 c1 c2 c3 f0 f1 f2 f3
                  try simp only [Act.put, List.setIfInBounds_toArray, List.set_cons_zero, List.set_cons_succ]
                  replace H8 := Lib.hid (H8.out.far (k := g7) (by omega) (.float .f64 r0) (.float .f64 r1) (.float .f64 r2) (.float .f64 r3))
                  replace H7 := Lib.hid (H7.out.set_ r0 r1 r2 r3)
                  generalize (((W51.setCell ⟨g7, 0, none⟩ (.float .f64 r0)).setCell ⟨g7, 1, none⟩ (.float .f64 r1)).setCell ⟨g7, 2, none⟩ (.float .f64 r2)).setCell ⟨g7, 3, none⟩ (.float .f64 r3) = W52 at *
                  refine wpAnyH_ready (rs := [13]) (by kernel_rfl) (by simp) ?_
                  refine AllReadyH.cons (o := { dst := none, op := Op.store 34 (Operand.tmp 8) (Operand.tmp 48), type := 0, pos := "law.go:69", after := #[{ on := 11, ground := Ground.data }, { on := 9, ground := Ground.data }, { on := 12, ground := Ground.chain }, { on := 0, ground := Ground.phase }, { on := 1, ground := Ground.phase }, { on := 2, ground := Ground.phase }, { on := 3, ground := Ground.phase }, { on := 4, ground := Ground.phase }, { on := 5, ground := Ground.phase }, { on := 6, ground := Ground.phase }, { on := 7, ground := Ground.phase }, { on := 8, ground := Ground.phase }, { on := 9, ground := Ground.phase }, { on := 10, ground := Ground.phase }, { on := 11, ground := Ground.phase }, { on := 12, ground := Ground.phase }], guard := none }) rfl (fun K hK => ?_) (AllReadyH.nil)
                  · obtain ⟨c0, c1, c2, c3⟩ := H8.out.cell
                    obtain ⟨f0, f1, f2, f3⟩ := H8.out.frozen
                    go_simp
                    refine hK.out _ _ ?_ (fun hS53 => ?_)
                    · exact below_four hS52 _ hge8 _ _ _ _
                    clear hK K c0 c1 c2 c3 f0 f1 f2 f3
                    try simp only [Act.put, List.setIfInBounds_toArray, List.set_cons_zero, List.set_cons_succ]
                    replace H7 := Lib.hid (H7.out.far (k := g8) (by omega) (.float .f64 p0) (.float .f64 p1) (.float .f64 p2) (.float .f64 p3))
                    replace H8 := Lib.hid (H8.out.set_ p0 p1 p2 p3)
                    generalize (((W52.setCell ⟨g8, 0, none⟩ (.float .f64 p0)).setCell ⟨g8, 1, none⟩ (.float .f64 p1)).setCell ⟨g8, 2, none⟩ (.float .f64 p2)).setCell ⟨g8, 3, none⟩ (.float .f64 p3) = W53 at *
                    refine wpAnyH_done (by kernel_rfl) ?_ _
                    go_wp2_with fail
                    go_meet
                    exact ⟨g7, g8, _, _, _, _, _, _, _, _, rfl, rfl, H7.out, H8.out, hS53, four_same HA.out HBB.out⟩
          · go_simp
            refine hK.out _ _ ?_ (fun hS54 => ?_)
            · exact hS44.alloc hS44.size _
            clear hK K
            try simp only [Act.put, List.setIfInBounds_toArray, List.set_cons_zero, List.set_cons_succ]
            have H7 := Lib.hid (V4.new_ W44 0 0 0 0)
            have hge7 := hS44.size
            have hne : g8 < W44.heap.size := H8.out.lt
            replace H8 := Lib.hid (H8.out.alloc (.cells #[.float .f64 0, .float .f64 0, .float .f64 0, .float .f64 0] 34))
            generalize W44.alloc (.cells #[.float .f64 0, .float .f64 0, .float .f64 0, .float .f64 0] 34) = W54 at *
            generalize W44.heap.size = g7 at *
            refine wpAnyH_ready (rs := [4]) (by kernel_rfl) (by simp) ?_
            refine AllReadyH.cons (o := { dst := some 43, op := Op.call { callee := Callee.value (Operand.func 6), args := #[Operand.tmp 42], argTypes := #[28] }, type := 34, pos := "law.go:69", after := #[{ on := 3, ground := Ground.data }], guard := none }) rfl (fun K hK => ?_) (AllReadyH.nil)
            · go_simp
              (go_at_call 6; refine (C1.out _).mono ?_; rintro e W55 ⟨r0, r1, r2, r3, rfl, hbn, hkk⟩)
              go_wp2_with fail
              refine hK.out _ _ ?_ (fun hS55 => ?_)
              · exact hS54.trans (hbn.mono hS54.size)
              clear hK K
              try simp only [Act.put, List.setIfInBounds_toArray, List.set_cons_zero, List.set_cons_succ]
              have HA := Lib.hid hkk
              replace H7 := Lib.hid (H7.out.below hbn H7.out.lt)
              replace H8 := Lib.hid (H8.out.below hbn H8.out.lt)
              clear hbn hkk
              refine wpAnyH_ready (rs := [9]) (by kernel_rfl) (by simp) ?_
              refine AllReadyH.cons (o := { dst := some 48, op := Op.call { callee := Callee.value (Operand.func 7), args := #[Operand.tmp 47], argTypes := #[32] }, type := 34, pos := "law.go:69", after := #[{ on := 8, ground := Ground.data }, { on := 4, ground := Ground.chain }], guard := none }) rfl (fun K hK => ?_) (AllReadyH.nil)
              · go_simp
                (go_at_call 7; refine (C2.out _).mono ?_; rintro e W56 ⟨p0, p1, p2, p3, rfl, hbn, hkk⟩)
                go_wp2_with fail
                refine hK.out _ _ ?_ (fun hS56 => ?_)
                · exact hS55.trans (hbn.mono hS55.size)
                clear hK K
                try simp only [Act.put, List.setIfInBounds_toArray, List.set_cons_zero, List.set_cons_succ]
                have HBB := Lib.hid hkk
                replace H7 := Lib.hid (H7.out.below hbn H7.out.lt)
                replace H8 := Lib.hid (H8.out.below hbn H8.out.lt)
                clear hbn hkk
                refine wpAnyH_ready (rs := [12]) (by kernel_rfl) (by simp) ?_
                refine AllReadyH.cons (o := { dst := none, op := Op.store 34 (Operand.tmp 7) (Operand.tmp 43), type := 0, pos := "law.go:69", after := #[{ on := 10, ground := Ground.data }, { on := 4, ground := Ground.data }, { on := 9, ground := Ground.chain }, { on := 0, ground := Ground.phase }, { on := 1, ground := Ground.phase }, { on := 2, ground := Ground.phase }, { on := 3, ground := Ground.phase }, { on := 4, ground := Ground.phase }, { on := 5, ground := Ground.textOnly Departure.lateStores }, { on := 6, ground := Ground.textOnly Departure.lateStores }, { on := 7, ground := Ground.textOnly Departure.lateStores }, { on := 8, ground := Ground.textOnly Departure.lateStores }, { on := 9, ground := Ground.textOnly Departure.lateStoresUnsure }, { on := 10, ground := Ground.phase }, { on := 11, ground := Ground.phase }], guard := none }) rfl (fun K hK => ?_) (AllReadyH.nil)
                · obtain ⟨c0, c1, c2, c3⟩ := H7.out.cell
                  obtain ⟨f0, f1, f2, f3⟩ := H7.out.frozen
                  go_simp
                  refine hK.out _ _ ?_ (fun hS57 => ?_)
                  · exact below_four hS56 _ hge7 _ _ _ _
                  clear hK K c0 c1 c2 c3 f0 f1 f2 f3
                  try simp only [Act.put, List.setIfInBounds_toArray, List.set_cons_zero, List.set_cons_succ]
                  replace H8 := Lib.hid (H8.out.far (k := g7) (by omega) (.float .f64 r0) (.float .f64 r1) (.float .f64 r2) (.float .f64 r3))
                  replace H7 := Lib.hid (H7.out.set_ r0 r1 r2 r3)
                  generalize (((W56.setCell ⟨g7, 0, none⟩ (.float .f64 r0)).setCell ⟨g7, 1, none⟩ (.float .f64 r1)).setCell ⟨g7, 2, none⟩ (.float .f64 r2)).setCell ⟨g7, 3, none⟩ (.float .f64 r3) = W57 at *
                  refine wpAnyH_ready (rs := [13]) (by kernel_rfl) (by simp) ?_
                  refine AllReadyH.cons (o := { dst := none, op := Op.store 34 (Operand.tmp 8) (Operand.tmp 48), type := 0, pos := "law.go:69", after := #[{ on := 11, ground := Ground.data }, { on := 9, ground := Ground.data }, { on := 12, ground := Ground.chain }, { on := 0, ground := Ground.phase }, { on := 1, ground := Ground.phase }, { on := 2, ground := Ground.phase }, { on := 3, ground := Ground.phase }, { on := 4, ground := Ground.phase }, { on := 5, ground := Ground.phase }, { on := 6, ground := Ground.phase }, { on := 7, ground := Ground.phase }, { on := 8, ground := Ground.phase }, { on := 9, ground := Ground.phase }, { on := 10, ground := Ground.phase }, { on := 11, ground := Ground.phase }, { on := 12, ground := Ground.phase }], guard := none }) rfl (fun K hK => ?_) (AllReadyH.nil)
                  · obtain ⟨c0, c1, c2, c3⟩ := H8.out.cell
                    obtain ⟨f0, f1, f2, f3⟩ := H8.out.frozen
                    go_simp
                    refine hK.out _ _ ?_ (fun hS58 => ?_)
                    · exact below_four hS57 _ hge8 _ _ _ _
                    clear hK K c0 c1 c2 c3 f0 f1 f2 f3
                    try simp only [Act.put, List.setIfInBounds_toArray, List.set_cons_zero, List.set_cons_succ]
                    replace H7 := Lib.hid (H7.out.far (k := g8) (by omega) (.float .f64 p0) (.float .f64 p1) (.float .f64 p2) (.float .f64 p3))
                    replace H8 := Lib.hid (H8.out.set_ p0 p1 p2 p3)
                    generalize (((W57.setCell ⟨g8, 0, none⟩ (.float .f64 p0)).setCell ⟨g8, 1, none⟩ (.float .f64 p1)).setCell ⟨g8, 2, none⟩ (.float .f64 p2)).setCell ⟨g8, 3, none⟩ (.float .f64 p3) = W58 at *
                    refine wpAnyH_done (by kernel_rfl) ?_ _
                    go_wp2_with fail
                    go_meet
                    exact ⟨g7, g8, _, _, _, _, _, _, _, _, rfl, rfl, H7.out, H8.out, hS58, four_same HA.out HBB.out⟩
      case rest =>
        obtain ⟨g7, g8, a0, a1, a2, a3, b0, b1, b2, b3, rfl, rfl, h7, h8, hbc, hfs⟩ := hcut
        have H7 := Lib.hid h7
        have H8 := Lib.hid h8
        have HBC := Lib.hid hbc
        have S0 := Lib.hid (fun W => same_any a0 b0 hfs.1.2.1 hfs.1.2.2 hfs.1.1 W)
        have S1 := Lib.hid (fun W => same_any a1 b1 hfs.2.1.2.1 hfs.2.1.2.2 hfs.2.1.1 W)
        have S2 := Lib.hid (fun W => same_any a2 b2 hfs.2.2.1.2.1 hfs.2.2.1.2.2 hfs.2.2.1.1 W)
        have S3 := Lib.hid (fun W => same_any a3 b3 hfs.2.2.2.2.1 hfs.2.2.2.2.2 hfs.2.2.2.1 W)
        have HROC := Lib.hid (HRO3.out.below hbc (Nat.le_refl _))
        have HBE := Lib.hid (HB3.out.trans (hbc.mono HB3.out.size))
        have HSZC := Lib.hid (Nat.le_trans HSZ3.out hbc.size)
        clear h7 h8 hbc hfs hir
        go_wp2_with fail
        go_loopg [9] 4 (fun g' s9 wx => ∃ z : Int, s9 = .int .i64 z ∧ 0 ≤ z ∧ z + g' = 4 ∧ V4 wx g7 a0 a1 a2 a3 ∧ V4 wx g8 b0 b1 b2 b3 ∧ RO wx w0.heap.size (.slice (some ⟨gb, ob, none⟩) (i + 1) cap) (L.take (i + 1)) ∧ Below w.heap.size w wx ∧ w0.heap.size ≤ wx.heap.size)
        case atStart => exact ⟨0, rfl, by omega, by omega, H7.out, H8.out, HROC.out, HBE.out, HSZC.out⟩
        case round =>
          obtain ⟨z, rfl, hz0, hzg, e7, e8, ero, ebe, esz⟩ := hrel
          obtain ⟨c0, c1, c2, c3⟩ := e7.cell
          obtain ⟨d0, d1, d2, d3⟩ := e8.cell
          have E7 := Lib.hid e7
          have E8 := Lib.hid e8
          have ERO := Lib.hid ero
          have EBE := Lib.hid ebe
          have ESZ := Lib.hid esz
          clear e7 e8 ero ebe esz
          cases gk with
          | zero =>
            obtain rfl : z = 4 := by omega
            go_wp2_with fail
            go_roundg g
            case measure => omega
            case rel => exact ⟨i + 1, by omega, by go_num, ERO.out, EBE.out, ESZ.out⟩
          | succ g' =>
            rcases (show z = 0 ∨ ¬ z = 0 from by omega) with rfl | hz0
            · go_wp2_with fail
              go_quiet ((go_at_call 8; exact Calls.quiet_of_same ((S0.out _).mono fun _ _ h => ⟨h.1, h.2.symm⟩)))
              go_wp2_with fail
              go_roundg g'
              case measure => omega
              case rel => exact ⟨1, rfl, by omega, by omega, E7.out, E8.out, ERO.out, below_drewN EBE.out _, ESZ.out⟩
            rcases (show z = 1 ∨ ¬ z = 1 from by omega) with rfl | hz1
            · go_wp2_with fail
              go_quiet ((go_at_call 8; exact Calls.quiet_of_same ((S1.out _).mono fun _ _ h => ⟨h.1, h.2.symm⟩)))
              go_wp2_with fail
              go_roundg g'
              case measure => omega
              case rel => exact ⟨2, rfl, by omega, by omega, E7.out, E8.out, ERO.out, below_drewN EBE.out _, ESZ.out⟩
            rcases (show z = 2 ∨ ¬ z = 2 from by omega) with rfl | hz2
            · go_wp2_with fail
              go_quiet ((go_at_call 8; exact Calls.quiet_of_same ((S2.out _).mono fun _ _ h => ⟨h.1, h.2.symm⟩)))
              go_wp2_with fail
              go_roundg g'
              case measure => omega
              case rel => exact ⟨3, rfl, by omega, by omega, E7.out, E8.out, ERO.out, below_drewN EBE.out _, ESZ.out⟩
            obtain rfl : z = 3 := by omega
            go_wp2_with fail
            go_quiet ((go_at_call 8; exact Calls.quiet_of_same ((S3.out _).mono fun _ _ h => ⟨h.1, h.2.symm⟩)))
            go_wp2_with fail
            go_roundg g'
            case measure => omega
            case rel => exact ⟨4, rfl, by omega, by omega, E7.out, E8.out, ERO.out, below_drewN EBE.out _, ESZ.out⟩
end Go.Proofs.YtkhoaaoddpjnpaaGreatDoor.RatesLaw
