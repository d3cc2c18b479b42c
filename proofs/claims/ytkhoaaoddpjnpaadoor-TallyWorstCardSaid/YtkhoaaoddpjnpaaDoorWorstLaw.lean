/- The law TallyWorst, walked: it answers true and changes nothing that was there. -/
import Derived.Test.YtkhoaaoddpjnpaaDoorWorst
import Derived.Test.YtkhoaaoddpjnpaaDoorLives19
import Derived.Test.YtkhoaaoddpjnpaaDoorBack
import Derived.Test.YtkhoaaoddpjnpaaDoorRank
import Derived.Test.YtkhoaaoddpjnpaaDoorRowsOwn
namespace Go.Proofs.YtkhoaaoddpjnpaaDoor.WorstLaw
open Go Go.RowKit Go.Proofs.YtkhoaaoddpjnpaaDoor Go.Proofs.YtkhoaaoddpjnpaaDoor.Flt Go.Proofs.YtkhoaaoddpjnpaaDoor.Cmp Go.Proofs.YtkhoaaoddpjnpaaDoor.Mem Go.Proofs.YtkhoaaoddpjnpaaDoor.Add Go.Proofs.YtkhoaaoddpjnpaaDoor.Sums Go.Proofs.YtkhoaaoddpjnpaaDoor.Ratio Go.Proofs.YtkhoaaoddpjnpaaDoor.Asked Go.Proofs.YtkhoaaoddpjnpaaDoor.Of Go.Proofs.YtkhoaaoddpjnpaaDoor.Worst Go.Proofs.YtkhoaaoddpjnpaaDoor.Back Go.Proofs.YtkhoaaoddpjnpaaDoor.RowsOwn

/-- The back of a sum, as the walk spells it. -/
theorem back_m (s : List Int) (hs : s.length = 27) (w : World) : Calls Tryd.prog 33 #[.agg (s.map (Value.int .i64)).toArray] w fun e w' => e = .returned (.agg (s.map (Value.int .i64)).toArray) ∧ Below w.heap.size w w' := back_any s hs w

/-- How often the sums clashed together. -/
def cl (xs : List (List Int)) : Int := xs.foldl (fun a x => wrap64 (a + x.getD 2 0)) 0
theorem cl_snoc (xs : List (List Int)) (x : List Int) : cl (xs ++ [x]) = wrap64 (cl xs + x.getD 2 0) := by unfold cl; rw [List.foldl_append]; rfl
/-- Both sums together, as the walk spells it. -/
theorem add_m (xs ys : List Int) (hx : xs.length = 27) (hy : ys.length = 27) (a b : Int) (ha : xs[2]? = some a) (hb : ys[2]? = some b) (w : World) :
    Calls Tryd.prog 34 #[.agg (xs.map (Value.int .i64)).toArray, .agg (ys.map (Value.int .i64)).toArray] w fun e w' => ∃ zs : List Int, e = .returned (.agg (zs.map (Value.int .i64)).toArray) ∧ zs.length = 27 ∧ zs[2]? = some (wrap64 (a + b)) ∧ Below w.heap.size w w' := add_any xs ys hx hy a b ha hb w
/-- Behind the store of the total. -/
theorem nearly {w w3 w4 : World} {G : Nat} {v : Value} {xs : List (List Int)} {Y Z : List Int} (hb : Below w.heap.size w w3) (hr : RO w3 (G + 1) v xs) (ht : Tot w3 G Z) (hG : w.heap.size ≤ G) (hbn : Below w3.drew.heap.size w3.drew w4) (hY : Y.length = 27) :
    Below w.heap.size w (w4.setCells G 0 (Y.map (Value.int .i64))) ∧ RO (w4.setCells G 0 (Y.map (Value.int .i64))) (G + 1) v xs ∧ Tot (w4.setCells G 0 (Y.map (Value.int .i64))) G Y ∧
      ∀ b q, b < G → (w4.setCells G 0 (Y.map (Value.int .i64))).cell? ⟨b, q, none⟩ = w3.cell? ⟨b, q, none⟩ := by
  have h1 : Below w3.heap.size w3 w4 := (Below.refl w3.heap.size w3).drew.trans hbn
  have h2 : Below G w4 (w4.setCells G 0 (Y.map (Value.int .i64))) := below_setCells G (Nat.le_refl G) _ _ _ (Below.refl _ _)
  have hlt := ht.lt
  refine ⟨(hb.trans (h1.mono hb.size)).trans (h2.mono hG), ?_, (ht.below h1 hlt).store Y hY, fun b q hbG => ?_⟩
  · refine RO.kept (hr.below h1 (Nat.le_refl _)) fun g _ hg => ?_
    exact heap_setCells_far _ _ (by omega) _
  · rw [h2.cell (p := ⟨b, q, none⟩) hbG, h1.cell (p := ⟨b, q, none⟩) (by show b < _; omega)]
theorem ahead_no (a b : Nat) (ha : a < 18446744073709551616) (hb : b < 18446744073709551616) (h : key b ≤ key a) (w : World) :
    Calls Tryd.prog 37 #[.float .f64 a, .float .f64 b] w fun e w' => e = .returned (.bool false) ∧ w = w' := by
  have h' := ahead_any a b ha hb w
  unfold ahd at h'
  rwa [decide_eq_false (by omega)] at h'
theorem ahead_yes (a b : Nat) (ha : a < 18446744073709551616) (hb : b < 18446744073709551616) (h : key a < key b) (w : World) :
    Calls Tryd.prog 37 #[.float .f64 a, .float .f64 b] w fun e w' => e = .returned (.bool true) ∧ w = w' := by
  have h' := ahead_any a b ha hb w
  unfold ahd at h'
  rwa [decide_eq_true (by omega)] at h'
theorem alike_no (a b : Nat) (ha : a < 18446744073709551616) (hb : b < 18446744073709551616) (h : key b < key a) (w : World) :
    Calls Tryd.prog 38 #[.float .f64 a, .float .f64 b] w fun e w' => e = .returned (.bool false) ∧ w = w' := by
  have C1 := Lib.hid (ahead_no a b ha hb (by omega))
  have C2 := Lib.hid (ahead_yes b a hb ha h)
  clear ha hb h
  go_enter Tryd.func38, Tryd.ntmps38
  go_wp2_with fail
  refine (C1.out _).mono ?_; rintro e w' ⟨rfl, rfl⟩
  go_wp2_with fail
  refine (C2.out _).mono ?_; rintro e w' ⟨rfl, rfl⟩
  go_wp2_with fail
  go_ret
  exact ⟨rfl, rfl⟩
theorem info_rsum : (Tryd.prog.info? 61).map (·.size) = some 27 := by kernel_rfl

set_option maxHeartbeats 4000000 in
set_option maxRecDepth 100000 in
theorem law_any (A : Option Addr) (n c : Nat) (l : List (List Int)) (w : World) (hl : l.length = n) (fl : SS w w.heap.size A l) (hn : n ≤ c) (hc : c ≤ 9223372036854775807) :
    Calls Tryd.prog 6 #[.slice A n c] w fun e w' => e = .returned (.bool true) ∧ Below w.heap.size w w' := by
  obtain ⟨m, hm⟩ : ∃ m, min n 40 = m := ⟨_, rfl⟩
  have Hl := Lib.hid (show (l.take 40).length = m by rw [List.length_take]; omega)
  have Fl := Lib.hid (fl.take_ 40)
  have hmn : (m : Int) ≤ (n : Int) := by omega
  have hmc : (m : Int) ≤ (c : Int) := by omega
  have hm40 : m ≤ 40 := by omega
  have Hm := Lib.hid hm
  have hmin : min (n : Int) 40 = (m : Int) := by omega
  generalize l.take 40 = L at *
  clear hl fl hm
  go_enter Tryd.func6, Tryd.ntmps6
  go_wp2_with fail
  refine (Lives19.lives_any _).mono ?_; rintro e w0 ⟨rfl, hb0⟩
  have HB0 := Lib.hid hb0
  clear hb0
  have HTh := Lib.hid (there_new w0 #[.int .i64 0, .int .i64 0, .int .i64 0, .int .i64 0, .int .i64 0, .int .i64 0, .int .i64 0, .int .i64 0, .int .i64 0, .int .i64 0, .int .i64 0, .int .i64 0, .int .i64 0, .int .i64 0, .int .i64 0, .int .i64 0, .int .i64 0, .int .i64 0, .int .i64 0, .int .i64 0, .int .i64 0, .int .i64 0, .int .i64 0, .int .i64 0, .int .i64 0, .int .i64 0, .int .i64 0] 57 27 rfl)
  go_wp2_with (refine wpList_store_mid rfl 57 (.tmp 4) (.tmp 19) rfl w0.heap.size 0 #[.int .i64 0, .int .i64 0, .int .i64 0, .int .i64 0, .int .i64 0, .int .i64 0, .int .i64 0, .int .i64 0, .int .i64 0, .int .i64 0, .int .i64 0, .int .i64 0, .int .i64 0, .int .i64 0, .int .i64 0, .int .i64 0, .int .i64 0, .int .i64 0, .int .i64 0, .int .i64 0, .int .i64 0, .int .i64 0, .int .i64 0, .int .i64 0, .int .i64 0, .int .i64 0, .int .i64 0] ?_ ?_ ?_ ?_ ?_ ?_; (focus rfl); (focus simp [Act.eval]); (focus exact HTh.out); (focus exact info_sum); (focus exact all_oneCell_toArray (by simp [Value.oneCell'])))
  have HT0 := Lib.hid (show Tot ((w0.alloc (.cells #[.int .i64 0, .int .i64 0, .int .i64 0, .int .i64 0, .int .i64 0, .int .i64 0, .int .i64 0, .int .i64 0, .int .i64 0, .int .i64 0, .int .i64 0, .int .i64 0, .int .i64 0, .int .i64 0, .int .i64 0, .int .i64 0, .int .i64 0, .int .i64 0, .int .i64 0, .int .i64 0, .int .i64 0, .int .i64 0, .int .i64 0, .int .i64 0, .int .i64 0, .int .i64 0, .int .i64 0] 57)).setCells w0.heap.size 0 [.int .i64 0, .int .i64 0, .int .i64 0, .int .i64 0, .int .i64 0, .int .i64 0, .int .i64 0, .int .i64 0, .int .i64 0, .int .i64 0, .int .i64 0, .int .i64 0, .int .i64 0, .int .i64 0, .int .i64 0, .int .i64 0, .int .i64 0, .int .i64 0, .int .i64 0, .int .i64 0, .int .i64 0, .int .i64 0, .int .i64 0, .int .i64 0, .int .i64 0, .int .i64 0, .int .i64 0]) w0.heap.size (List.replicate 27 0) from
    ⟨rfl, World.rangeAt_setCells_same (w0.alloc (.cells #[.int .i64 0, .int .i64 0, .int .i64 0, .int .i64 0, .int .i64 0, .int .i64 0, .int .i64 0, .int .i64 0, .int .i64 0, .int .i64 0, .int .i64 0, .int .i64 0, .int .i64 0, .int .i64 0, .int .i64 0, .int .i64 0, .int .i64 0, .int .i64 0, .int .i64 0, .int .i64 0, .int .i64 0, .int .i64 0, .int .i64 0, .int .i64 0, .int .i64 0, .int .i64 0, .int .i64 0] 57)) w0.heap.size 0 [.int .i64 0, .int .i64 0, .int .i64 0, .int .i64 0, .int .i64 0, .int .i64 0, .int .i64 0, .int .i64 0, .int .i64 0, .int .i64 0, .int .i64 0, .int .i64 0, .int .i64 0, .int .i64 0, .int .i64 0, .int .i64 0, .int .i64 0, .int .i64 0, .int .i64 0, .int .i64 0, .int .i64 0, .int .i64 0, .int .i64 0, .int .i64 0, .int .i64 0, .int .i64 0, .int .i64 0] HTh.out, World.there_setCells HTh.out _ _ _⟩)
  have HB1 := Lib.hid (HB0.out.trans ((below_setCells w0.heap.size (Nat.le_refl w0.heap.size) [.int .i64 0, .int .i64 0, .int .i64 0, .int .i64 0, .int .i64 0, .int .i64 0, .int .i64 0, .int .i64 0, .int .i64 0, .int .i64 0, .int .i64 0, .int .i64 0, .int .i64 0, .int .i64 0, .int .i64 0, .int .i64 0, .int .i64 0, .int .i64 0, .int .i64 0, .int .i64 0, .int .i64 0, .int .i64 0, .int .i64 0, .int .i64 0, .int .i64 0, .int .i64 0, .int .i64 0] 0 _ ((Below.refl w0.heap.size w0).alloc (Nat.le_refl _) (.cells #[.int .i64 0, .int .i64 0, .int .i64 0, .int .i64 0, .int .i64 0, .int .i64 0, .int .i64 0, .int .i64 0, .int .i64 0, .int .i64 0, .int .i64 0, .int .i64 0, .int .i64 0, .int .i64 0, .int .i64 0, .int .i64 0, .int .i64 0, .int .i64 0, .int .i64 0, .int .i64 0, .int .i64 0, .int .i64 0, .int .i64 0, .int .i64 0, .int .i64 0, .int .i64 0, .int .i64 0] 57))).mono HB0.out.size))
  clear HTh
  generalize (w0.alloc (.cells #[.int .i64 0, .int .i64 0, .int .i64 0, .int .i64 0, .int .i64 0, .int .i64 0, .int .i64 0, .int .i64 0, .int .i64 0, .int .i64 0, .int .i64 0, .int .i64 0, .int .i64 0, .int .i64 0, .int .i64 0, .int .i64 0, .int .i64 0, .int .i64 0, .int .i64 0, .int .i64 0, .int .i64 0, .int .i64 0, .int .i64 0, .int .i64 0, .int .i64 0, .int .i64 0, .int .i64 0] 57)).setCells w0.heap.size 0 [.int .i64 0, .int .i64 0, .int .i64 0, .int .i64 0, .int .i64 0, .int .i64 0, .int .i64 0, .int .i64 0, .int .i64 0, .int .i64 0, .int .i64 0, .int .i64 0, .int .i64 0, .int .i64 0, .int .i64 0, .int .i64 0, .int .i64 0, .int .i64 0, .int .i64 0, .int .i64 0, .int .i64 0, .int .i64 0, .int .i64 0, .int .i64 0, .int .i64 0, .int .i64 0, .int .i64 0] = W1 at *
  obtain ⟨G, hG⟩ : ∃ G, w0.heap.size = G := ⟨_, rfl⟩
  rw [hG] at HT0 ⊢
  have HGw := Lib.hid (show w.heap.size ≤ G by rw [← hG]; exact HB0.out.size)
  clear hG HB0
  go_loopg [3, 5, 6] m (fun g s3 s5 s6 wx => ∃ i : Nat, i + g = m ∧ s6 = .int .i64 i ∧ s5 = .int .i64 (cl (L.take i)) ∧ RO wx (G + 1) s3 (L.take i) ∧ (∃ Z, Tot wx G Z ∧ Z[2]? = some (cl (L.take i))) ∧ Below w.heap.size w wx)
  case atStart => exact ⟨0, by omega, rfl, rfl, RO.nil_ _ _, ⟨_, HT0.out, rfl⟩, HB1.out⟩
  case round =>
    obtain ⟨i, hig, rfl, rfl, hro, ⟨Z, ht, hz⟩, hb⟩ := hrel
    have HRO := Lib.hid hro
    have HT := Lib.hid ht
    have HZ := Lib.hid hz
    have HB := Lib.hid hb
    clear hro ht hz hb
    cases gk with
    | zero =>
      have hiz : ¬ ((i : Int) < (m : Int)) := by omega
      obtain rfl : i = m := by omega
      rw [show L.take i = L by rw [← Hl.out, List.take_length]] at HRO HZ
      have hcL : cl (L.take i) = cl L := by rw [← Hl.out, List.take_length]
      rw [hcL]
      clear hcL
      obtain ⟨c0, EC⟩ := named (cl L)
      rw [EC.out] at HZ ⊢
      obtain ⟨A', cap, rfl, hcap, hcm, hss⟩ := HRO.out.reads' Hl.out
      have HSS := Lib.hid hss
      have CW := Lib.hid (worst_any A' cap L i wr Hl.out hss (by omega))
      have HCAP := Lib.hid (And.intro hcap hcm)
      clear hss hcap hcm
      go_wp2_with fail
      refine CW.out.mono ?_; rintro e w1 ⟨k, rfl, htop, hb1⟩
      have HTOP := Lib.hid htop
      have HB2 := Lib.hid (HB.out.trans (hb1.mono HB.out.size))
      have HSS2 := Lib.hid ((HSS.out.below hb1).more hb1.size)
      have HT2 := Lib.hid (HT.out.below hb1 HT.out.lt)
      clear htop hb1
      by_cases hm0 : i = 0
      · subst hm0
        obtain rfl : k = 0 := HTOP.out.1 rfl
        go_wp2_with fail
        go_ret
        exact ⟨rfl, HB2.out⟩
      · have hk := HTOP.out.2.1 (by omega)
        have hi0 : (0 : Int) < (i : Int) := by omega
        have hi1 : decide (0 < i) = true := by simp; omega
        have hi2 : ((i : Int) == 0) = false := by simp; omega
        have hk0 : ¬ ((k : Int) < 0) := by omega
        have hk1 : ¬ ((i : Int) ≤ (k : Int)) := by omega
        have hk2 : (k : Int) < (i : Int) := by omega
        have c2 : w1.cell? ⟨G, 2, none⟩ = some (.int .i64 c0) := by
          have h := HT2.out.2.1 2 (.int .i64 c0) (by rw [List.getElem?_map, HZ.out]; rfl)
          rwa [Nat.zero_add] at h
        have hc0 : (c0 != c0) = false := by simp
        obtain ⟨t, ht⟩ : ∃ t, L[k]? = some t := ⟨_, List.getElem?_eq_getElem (by rw [Hl.out]; exact hk)⟩
        obtain ⟨gb, ob, rfl, hgb, hsr⟩ := HSS2.out.2 (by rintro rfl; simp at ht)
        have ht27 := HSS2.out.1 t (List.mem_of_getElem? ht)
        have HR := Lib.hid (hsr k t ht)
        have HS1 := Lib.hid (show (Tryd.prog.info? 57).map (·.size) = some (t.map (Value.int .i64)).length by rw [List.length_map, ht27]; exact info_sum)
        have HGB := Lib.hid hgb
        have HSR := Lib.hid hsr
        have CT := Lib.hid (fun W => rate_m t ht27 W)
        have Ht := Lib.hid ht
        have hix := index4
        clear ht ht27 hgb hsr
        go_wp2_with (first
          | refine wpList_load_mid rfl 57 (.tmp 82) rfl gb (ob + k * 27) rfl (t.map (Value.int .i64)) _ HR.out Tryd.underlying57 rfl HS1.out ?_
          | (go_at_call 36; refine (CT.out _).mono ?_; rintro e w2 ⟨r0, r1, r2, r3, rfl, hb2, hk1', hr1'⟩))
        have HK := Lib.hid hk1'
        have HL1 := Lib.hid hr1'
        have HB3 := Lib.hid (HB2.out.trans (hb2.mono HB2.out.size))
        have HSS3 := Lib.hid ((HSS2.out.below hb2).more hb2.size)
        clear hb2 hk1' hr1'
        go_loopg [10] i (fun g s10 wx => ∃ j : Nat, j + g = i ∧ s10 = .int .i64 j ∧ Below w.heap.size w wx ∧ Below w2.heap.size w2 wx)
        case atStart => exact ⟨0, by omega, rfl, HB3.out, Below.refl _ _⟩
        case round =>
          obtain ⟨j, hjg, rfl, hbj, hbj2⟩ := hrel
          have HBJ := Lib.hid hbj
          have HBJ2 := Lib.hid hbj2
          clear hbj hbj2
          cases gk with
          | zero =>
            have hjz : ¬ ((j : Int) < (i : Int)) := by omega
            go_wp2_with fail
            go_ret
            exact ⟨rfl, HBJ.out⟩
          | succ g =>
            have hjz : (j : Int) < (i : Int) := by omega
            obtain ⟨x, hx⟩ : ∃ x, L[j]? = some x := ⟨_, List.getElem?_eq_getElem (by rw [Hl.out]; omega)⟩
            have hx27 := HSS2.out.1 x (List.mem_of_getElem? hx)
            have HRX := Lib.hid (range_below (HSS3.out.at_ hx) HBJ2.out (HSS3.out.lt_ hx))
            have HSX := Lib.hid (show (Tryd.prog.info? 57).map (·.size) = some (x.map (Value.int .i64)).length by rw [List.length_map, hx27]; exact info_sum)
            have CX := Lib.hid (fun W => rate_m x hx27 W)
            have HCMP := Lib.hid (HTOP.out.2.2 j x t hx Ht.out)
            have hjN : j < i := by omega
            clear hx hx27
            go_upto_region 23 with (first
              | refine wpList_load_mid rfl 57 (.tmp 94) rfl gb (ob + j * 27) rfl (x.map (Value.int .i64)) _ HRX.out Tryd.underlying57 rfl HSX.out ?_
              | (go_at_call 36; refine (CX.out _).mono ?_; rintro e w3 ⟨p0, p1, p2, p3, rfl, hb3, hp1, hq1⟩))
            have HP := Lib.hid hp1
            have HQ := Lib.hid hq1
            have HB4 := Lib.hid (HBJ.out.trans (hb3.mono HBJ.out.size))
            have HB5 := Lib.hid (HBJ2.out.trans (hb3.mono HBJ2.out.size))
            have CA := Lib.hid (ahead_no r1 p1 HL1.out HQ.out (by rw [HK.out, HP.out]; exact HCMP.out.1 hjN))
            clear hb3 hp1 hq1 hix hc0 hi0 hi1 hi2
            by_cases hjk : j < k
            · have hjk1 : (j : Int) < (k : Int) := by omega
              have CL := Lib.hid (alike_no r1 p1 HL1.out HQ.out (by rw [HK.out, HP.out]; exact HCMP.out.2 hjk))
              go_wp2_with (first
                | (go_at_call 37; with_reducible refine (CA.out _).mono ?_; rintro e w' ⟨rfl, rfl⟩)
                | (go_at_call 38; with_reducible refine (CL.out _).mono ?_; rintro e w' ⟨rfl, rfl⟩))
              go_roundg g
              case measure => omega
              case rel => exact ⟨j + 1, by omega, by go_num, HB4.out, HB5.out⟩
            · have hjk1 : ¬ ((j : Int) < (k : Int)) := by omega
              go_wp2_with (first
                | (go_at_call 37; with_reducible refine (CA.out _).mono ?_; rintro e w' ⟨rfl, rfl⟩))
              go_roundg g
              case measure => omega
              case rel => exact ⟨j + 1, by omega, by go_num, HB4.out, HB5.out⟩
    | succ g =>
      have hiz : (i : Int) < (m : Int) := by omega
      obtain ⟨s, hs⟩ : ∃ s, L[i]? = some s := ⟨_, List.getElem?_eq_getElem (by rw [Hl.out]; omega)⟩
      obtain ⟨b, o, rfl, hlt, hr⟩ := Fl.out.2 (by rintro rfl; simp at hs)
      have hs27 := Fl.out.1 s (List.mem_of_getElem? hs)
      have HR := Lib.hid (range_below (hr i s hs) HB.out hlt)
      have HS := Lib.hid (show (Tryd.prog.info? 61).map (·.size) = some (s.map (Value.int .i64)).length by rw [List.length_map, hs27]; exact info_rsum)
      have HTK := Lib.hid (show L.take i ++ [s] = L.take (i + 1) from by
        obtain ⟨hk, rfl⟩ := List.getElem?_eq_some_iff.1 hs
        rw [List.take_succ_eq_append_getElem hk])
      have HLI := Lib.hid (show (L.take i).length = i by rw [List.length_take, Hl.out]; omega)
      have HSC := Lib.hid (show w.cell? ⟨b, o + i * 27 + 2, none⟩ = some (.int .i64 (s.getD 2 0)) from hr i s hs 2 _ (by rw [List.getElem?_map, List.getD_eq_getElem?_getD, List.getElem?_eq_getElem (by omega)]; rfl))
      have Hs := Lib.hid hs
      have Hs27 := Lib.hid hs27
      have Hlt := Lib.hid hlt
      clear hs hs27 hr hlt
      go_wp2_with (first
        | refine wpList_load_mid rfl 61 (.tmp 29) rfl b (o + i * 27) rfl (s.map (Value.int .i64)) _ HR.out Tryd.underlying61 rfl HS.out ?_)
      refine (back_m s Hs27.out _).mono ?_; rintro e w1 ⟨rfl, hb1⟩
      have HB2 := Lib.hid (HB.out.trans (hb1.mono HB.out.size))
      have HRO2 := Lib.hid (HRO.out.below hb1 (Nat.le_refl _))
      have HT2 := Lib.hid (HT.out.below hb1 HT.out.lt)
      clear hb1
      obtain ⟨t, ht⟩ : ∃ t, s = t := ⟨s, rfl⟩
      have Ht := Lib.hid ht
      have Ht27 := Lib.hid (show t.length = 27 by rw [← ht]; exact Hs27.out)
      rw [ht]
      clear ht
      obtain ⟨q0, q1, q2, q3, q4, q5, q6, q7, q8, q9, q10, q11, q12, q13, q14, q15, q16, q17, q18, q19, q20, q21, q22, q23, q24, q25, q26, hq⟩ := list27 t Ht27.out
      have Hq := Lib.hid hq
      rw [hq]
      clear hq
      go_upto_region 11 with (at_builtin; refine wpAppR [q0, q1, q2, q3, q4, q5, q6, q7, q8, q9, q10, q11, q12, q13, q14, q15, q16, q17, q18, q19, q20, q21, q22, q23, q24, q25, q26] rfl rfl _ _ rfl rfl rfl HRO2.out (by rw [HLI.out]; omega) HT2.out.lt (Below.refl _ _) ?_; intro v' w3 hs3 hb3 hB3)
      have HRO3 := Lib.hid (show RO w3 (G + 1) v' (L.take (i + 1)) by rw [← HTK.out, Ht.out, Hq.out]; exact hs3)
      have HB3 := Lib.hid (HB2.out.trans (hb3.mono (by have := HB2.out.size; have := HGw.out; omega)))
      have HT3 := Lib.hid (HT2.out.below hb3 (Nat.lt_succ_self G))
      clear hs3 hb3
      clear Hq Ht Ht27
      obtain ⟨A', cap, rfl, hcap, hcm, hss⟩ := HRO3.out.reads' (show (L.take (i + 1)).length = i + 1 by rw [List.length_take, Hl.out]; omega)
      obtain ⟨gb, ob, rfl, hgb, hsr⟩ := hss.2 (by rw [← HTK.out]; simp)
      have hir : (i : Int) < (i : Int) + 1 := by omega
      have HXR := Lib.hid (hsr i s (by rw [← HTK.out, List.getElem?_append_right (by rw [HLI.out]; exact Nat.le_refl _), HLI.out, Nat.sub_self]; rfl))
      have HGB := Lib.hid hgb
      clear hss hsr hgb hcap hcm
      have hu := Tryd.underlying57
      have hs1 : (Tryd.prog.info? 57).map (·.size) = some (Z.map (Value.int .i64)).length := by rw [List.length_map, HT.out.1]; exact info_sum
      have hs2 : (Tryd.prog.info? 57).map (·.size) = some (s.map (Value.int .i64)).length := by rw [List.length_map, Hs27.out]; exact info_sum
      have CA := Lib.hid (fun W => add_m Z s HT.out.1 Hs27.out (cl (L.take i)) (s.getD 2 0) HZ.out (by rw [List.getD_eq_getElem?_getD, List.getElem?_eq_getElem (by rw [Hs27.out]; omega)]; rfl) W)
      have HGT := Lib.hid HT3.out.lt
      have HN5 := Lib.hid (fun (w4 : World) (Y : List Int) (hbn : Below w3.drew.heap.size w3.drew w4) (hY : Y.length = 27) => nearly (Z := Z) HB3.out HRO3.out HT3.out HGw.out hbn hY)
      have HFC := Lib.hid (fun (w4 : World) (Y : List Int) (hbn : Below w3.drew.heap.size w3.drew w4) => there_below (b := G) (o := 0) (n := 27) (W := w3.drew) HT3.out.2.2 hbn HGT.out)
      have HCE := Lib.hid (show w3.cell? ⟨b, o + i * 27 + 2, none⟩ = some (.int .i64 (s.getD 2 0)) from by
        have h := HB3.out.cell (p := ⟨b, o + i * 27 + 2, none⟩) Hlt.out
        rw [h]
        exact HSC.out)
      refine wp_region_any (by kernel_rfl) ?_
      change wpAny _ _ _ _ _ _ _ w3.drew
      refine wpAny_take (i := 1) (oi := { dst := some 35, op := .move (.tmp 3), type := 70, pos := "law.go:116", after := #[], guard := none }) (v := ?_) rfl (by kernel_rfl) (by kernel_rfl) (by kernel_rfl) (fun _ _ _ h => h) (Or.inl ⟨by rfl, ?_⟩) ?_
      rotate_left
      · (intro w; go_simp; try with_reducible rfl)
      try simp only [Act.put, List.setIfInBounds_toArray, List.set_cons_zero, List.set_cons_succ]
      refine wpAny_take (i := 2) (oi := { dst := some 36, op := .move (.tmp 6), type := 3, pos := "law.go:116", after := #[], guard := none }) (v := ?_) rfl (by kernel_rfl) (by kernel_rfl) (by kernel_rfl) (fun _ _ _ h => h) (Or.inl ⟨by rfl, ?_⟩) ?_
      rotate_left
      · (intro w; go_simp; try with_reducible rfl)
      try simp only [Act.put, List.setIfInBounds_toArray, List.set_cons_zero, List.set_cons_succ]
      refine wpAny_take (i := 3) (oi := { dst := some 37, op := .indexAddr 70 (.tmp 35) (.tmp 36), type := 0, pos := "law.go:116", after := #[{ on := 1, ground := .data }, { on := 2, ground := .data }], guard := none }) (v := ?_) rfl (by kernel_rfl) (by kernel_rfl) (by kernel_rfl) (fun _ _ _ h => h) (Or.inl ⟨by rfl, ?_⟩) ?_
      rotate_left
      · (intro w; go_simp; try with_reducible rfl)
      try simp only [Act.put, List.setIfInBounds_toArray, List.set_cons_zero, List.set_cons_succ]
      refine wpAny_ready (rs := [0, 4]) (by kernel_rfl) (by simp) ?_
      refine AllReady.cons (o := { dst := some 34, op := .load 57 (.tmp 4), type := 57, pos := "law.go:116", after := #[], guard := none }) rfl (fun K hK => ?_) (AllReady.cons (o := { dst := some 38, op := .load 57 (.tmp 37), type := 57, pos := "law.go:116", after := #[{ on := 3, ground := .data }], guard := none }) rfl (fun K hK => ?_) AllReady.nil)
      · rw [if_pos (by rfl)]
        refine wp_load_mid _ _ rfl G 0 rfl (Z.map (Value.int .i64)) _ HT3.out.2.1 hu rfl hs1 ?_
        refine hK _ _ ?_
        clear hK K
        try simp only [Act.put, List.setIfInBounds_toArray, List.set_cons_zero, List.set_cons_succ]
        refine wpAny_ready (rs := [4]) (by kernel_rfl) (by simp) ?_
        refine AllReady.cons (o := { dst := some 38, op := .load 57 (.tmp 37), type := 57, pos := "law.go:116", after := #[{ on := 3, ground := .data }], guard := none }) rfl (fun K hK => ?_) AllReady.nil
        rw [if_pos (by rfl)]
        refine wp_load_mid _ _ rfl gb (ob + i * 27) rfl (s.map (Value.int .i64)) _ HXR.out hu rfl hs2 ?_
        refine hK _ _ ?_
        clear hK K
        try simp only [Act.put, List.setIfInBounds_toArray, List.set_cons_zero, List.set_cons_succ]
        refine wpAny_ready (rs := [5]) (by kernel_rfl) (by simp) ?_
        refine AllReady.cons (o := { dst := some 39, op := .call { callee := .value (.func 34), args := #[.tmp 34, .tmp 38], argTypes := #[57, 57] }, type := 57, pos := "law.go:116", after := #[{ on := 0, ground := .data }, { on := 4, ground := .data }], guard := none }) rfl (fun K hK => ?_) AllReady.nil
        go_simp
        (go_at_call 34; refine (CA.out _).mono ?_; rintro e w4 ⟨Y, rfl, hY, hY2, hbn⟩)
        go_wp2_with fail
        try simp only [Act.put, List.setIfInBounds_toArray, List.set_cons_zero, List.set_cons_succ]
        have hsY : (Tryd.prog.info? 57).map (·.size) = some (Y.map (Value.int .i64)).toArray.size := by rw [List.size_toArray, List.length_map, hY]; exact info_sum
        have hOY := all_oneCell_toArray (cs := Y.map (Value.int .i64)) (fun v hv => by obtain ⟨x, _, rfl⟩ := List.mem_map.1 hv; rfl)
        have hTY : w4.there G 0 (Y.map (Value.int .i64)).toArray.size := by rw [List.size_toArray, List.length_map, hY]; exact HFC.out w4 Y hbn
        refine wpAny_ready (rs := [6]) (by kernel_rfl) (by simp) ?_
        refine AllReady.cons (o := { dst := none, op := .store 57 (.tmp 4) (.tmp 39), type := 0, pos := "law.go:116", after := #[{ on := 5, ground := .data }, { on := 5, ground := .chain }, { on := 0, ground := .phase }, { on := 1, ground := .phase }, { on := 2, ground := .phase }, { on := 3, ground := .phase }, { on := 4, ground := .phase }, { on := 5, ground := .phase }], guard := none }) rfl (fun K hK => ?_) AllReady.nil
        rw [if_pos (by rfl)]
        refine wp_store_mid _ _ _ rfl G 0 (List.toArray (Y.map (Value.int .i64))) rfl rfl hTY hsY hOY ?_
        refine hK _ _ ?_
        clear hK K
        try simp only [Act.put, List.setIfInBounds_toArray, List.set_cons_zero, List.set_cons_succ]
        refine wpAny_done (by kernel_rfl) ?_ _
        have HN := Lib.hid (HN5.out w4 Y hbn hY)
        have HY2 := Lib.hid hY2
        clear hsY hOY hTY hbn hY hY2 hu hs1 hs2 hir
        change Exit.then _ _ _ _ (w4.setCells G 0 (Y.map (Value.int .i64)))
        obtain ⟨k2, EK⟩ := named (s.getD 2 0)
        rw [EK.out] at HCE HY2
        have hce : (w4.setCells G 0 (Y.map (Value.int .i64))).cell? ⟨b, o + i * 27 + 2, none⟩ = some (.int .i64 k2) := (HN.out.2.2.2 _ _ (by have := Hlt.out; have := HGw.out; omega)).trans HCE.out
        generalize w4.setCells G 0 (Y.map (Value.int .i64)) = w5 at *
        obtain ⟨c0, EC⟩ := named (cl (L.take i))
        rw [EC.out]
        have HCL := Lib.hid (show cl (L.take (i + 1)) = wrap64 (c0 + k2) by rw [← HTK.out, cl_snoc, EC.out, EK.out])
        rw [EC.out, ← HCL.out] at HY2
        clear HN5 HFC CA HCE
        go_wp2_with fail
        go_roundg g
        case measure => omega
        case rel => exact ⟨i + 1, by omega, by go_num, by rw [HCL.out], HN.out.2.1, ⟨Y, HN.out.2.2.1, HY2.out⟩, HN.out.1⟩
      · rw [if_pos (by rfl)]
        refine wp_load_mid _ _ rfl gb (ob + i * 27) rfl (s.map (Value.int .i64)) _ HXR.out hu rfl hs2 ?_
        refine hK _ _ ?_
        clear hK K
        try simp only [Act.put, List.setIfInBounds_toArray, List.set_cons_zero, List.set_cons_succ]
        refine wpAny_ready (rs := [0]) (by kernel_rfl) (by simp) ?_
        refine AllReady.cons (o := { dst := some 34, op := .load 57 (.tmp 4), type := 57, pos := "law.go:116", after := #[], guard := none }) rfl (fun K hK => ?_) AllReady.nil
        rw [if_pos (by rfl)]
        refine wp_load_mid _ _ rfl G 0 rfl (Z.map (Value.int .i64)) _ HT3.out.2.1 hu rfl hs1 ?_
        refine hK _ _ ?_
        clear hK K
        try simp only [Act.put, List.setIfInBounds_toArray, List.set_cons_zero, List.set_cons_succ]
        refine wpAny_ready (rs := [5]) (by kernel_rfl) (by simp) ?_
        refine AllReady.cons (o := { dst := some 39, op := .call { callee := .value (.func 34), args := #[.tmp 34, .tmp 38], argTypes := #[57, 57] }, type := 57, pos := "law.go:116", after := #[{ on := 0, ground := .data }, { on := 4, ground := .data }], guard := none }) rfl (fun K hK => ?_) AllReady.nil
        go_simp
        (go_at_call 34; refine (CA.out _).mono ?_; rintro e w4 ⟨Y, rfl, hY, hY2, hbn⟩)
        go_wp2_with fail
        try simp only [Act.put, List.setIfInBounds_toArray, List.set_cons_zero, List.set_cons_succ]
        have hsY : (Tryd.prog.info? 57).map (·.size) = some (Y.map (Value.int .i64)).toArray.size := by rw [List.size_toArray, List.length_map, hY]; exact info_sum
        have hOY := all_oneCell_toArray (cs := Y.map (Value.int .i64)) (fun v hv => by obtain ⟨x, _, rfl⟩ := List.mem_map.1 hv; rfl)
        have hTY : w4.there G 0 (Y.map (Value.int .i64)).toArray.size := by rw [List.size_toArray, List.length_map, hY]; exact HFC.out w4 Y hbn
        refine wpAny_ready (rs := [6]) (by kernel_rfl) (by simp) ?_
        refine AllReady.cons (o := { dst := none, op := .store 57 (.tmp 4) (.tmp 39), type := 0, pos := "law.go:116", after := #[{ on := 5, ground := .data }, { on := 5, ground := .chain }, { on := 0, ground := .phase }, { on := 1, ground := .phase }, { on := 2, ground := .phase }, { on := 3, ground := .phase }, { on := 4, ground := .phase }, { on := 5, ground := .phase }], guard := none }) rfl (fun K hK => ?_) AllReady.nil
        rw [if_pos (by rfl)]
        refine wp_store_mid _ _ _ rfl G 0 (List.toArray (Y.map (Value.int .i64))) rfl rfl hTY hsY hOY ?_
        refine hK _ _ ?_
        clear hK K
        try simp only [Act.put, List.setIfInBounds_toArray, List.set_cons_zero, List.set_cons_succ]
        refine wpAny_done (by kernel_rfl) ?_ _
        have HN := Lib.hid (HN5.out w4 Y hbn hY)
        have HY2 := Lib.hid hY2
        clear hsY hOY hTY hbn hY hY2 hu hs1 hs2 hir
        change Exit.then _ _ _ _ (w4.setCells G 0 (Y.map (Value.int .i64)))
        obtain ⟨k2, EK⟩ := named (s.getD 2 0)
        rw [EK.out] at HCE HY2
        have hce : (w4.setCells G 0 (Y.map (Value.int .i64))).cell? ⟨b, o + i * 27 + 2, none⟩ = some (.int .i64 k2) := (HN.out.2.2.2 _ _ (by have := Hlt.out; have := HGw.out; omega)).trans HCE.out
        generalize w4.setCells G 0 (Y.map (Value.int .i64)) = w5 at *
        obtain ⟨c0, EC⟩ := named (cl (L.take i))
        rw [EC.out]
        have HCL := Lib.hid (show cl (L.take (i + 1)) = wrap64 (c0 + k2) by rw [← HTK.out, cl_snoc, EC.out, EK.out])
        rw [EC.out, ← HCL.out] at HY2
        clear HN5 HFC CA HCE
        go_wp2_with fail
        go_roundg g
        case measure => omega
        case rel => exact ⟨i + 1, by omega, by go_num, by rw [HCL.out], HN.out.2.1, ⟨Y, HN.out.2.2.1, HY2.out⟩, HN.out.1⟩
end Go.Proofs.YtkhoaaoddpjnpaaDoor.WorstLaw
