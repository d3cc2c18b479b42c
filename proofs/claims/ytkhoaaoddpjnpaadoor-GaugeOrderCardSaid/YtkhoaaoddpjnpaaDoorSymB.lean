/- slices.symMergeCmpFunc over floating point numbers, where the other list has one number: walked. -/
import Derived.Test.YtkhoaaoddpjnpaaDoorSort
namespace Go.Proofs.YtkhoaaoddpjnpaaDoor.Sorts
open Go Go.RowKit Go.Proofs.YtkhoaaoddpjnpaaDoor Go.Proofs.YtkhoaaoddpjnpaaDoor.Flt Go.Proofs.YtkhoaaoddpjnpaaDoor.Cmp Go.Proofs.YtkhoaaoddpjnpaaDoor.Mem
attribute [local go_sem] run_store_float

set_option maxHeartbeats 2000000 in
set_option maxRecDepth 100000 in
theorem symB (g N cap a m b : Nat) (v : Nat) (P U S xs out : List Nat) (w : World) (hxs : P ++ U ++ v :: S = xs) (hout : P ++ ssort (U ++ [v]) ++ S = out) (h : FRow w g N xs) (ha : P.length = a) (hm : a + U.length = m) (hb : m + 1 = b) (hU : Srt U) (hU2 : 2 ≤ U.length) (hN : N ≤ 100000) :
    Calls Tryd.prog 83 #[.slice (some ⟨g, 0, none⟩) N cap, .int .i64 a, .int .i64 m, .int .i64 b, .func (.func 41) #[] #[]] w fun e w' => e = .returned (.tuple #[]) ∧ FRow w' g N out ∧ Only g w w' := by
  have hlen := h.1
  rw [← hxs] at hlen
  simp only [List.length_append, List.length_cons] at hlen
  have hn1 : b ≤ 100000 := by omega
  have hn2 : m < b := by omega
  have hn3 : b ≤ N := by omega
  have hn4 : a + 2 ≤ m := by omega
  have ht1 : ((m : Int) - (a : Int) == 1) = false := by simp; omega
  have ht2 : ((b : Int) - (m : Int) == 1) = true := by simp; omega
  have H := Lib.hid h
  have Ha := Lib.hid ha
  have Hm := Lib.hid hm
  have HU := Lib.hid hU
  have HXS := Lib.hid hxs
  have HOUT := Lib.hid hout
  have hv : Hid (xs[m]? = some v) := by
    show _ = _
    rw [← hxs, List.getElem?_append_right (by simp; omega)]
    have e : m - (P ++ U).length = 0 := by simp; omega
    rw [e]; rfl
  have hu : Hid (∀ t u, U[t]? = some u → xs[a + t]? = some u) := by
    intro t u hu
    have hlt := (List.getElem?_eq_some_iff.1 hu).1
    rw [← hxs, ← ha, List.append_assoc, List.getElem?_append_right (by omega)]
    have e : P.length + t - P.length = t := by omega
    rw [e, List.getElem?_append_left hlt]
    exact hu
  clear h ha hm hb hU hxs hout hlen hU2
  go_enter Tryd.func83, Tryd.ntmps83
  go_wp2_with fail
  go_loopg [14, 15] (m - a) (fun k s14 s15 wx => ∃ i j : Nat, s14 = .int .i64 i ∧ s15 = .int .i64 j ∧ a ≤ i ∧ i ≤ j ∧ j ≤ m ∧ j - i ≤ k ∧ Aside ((∀ t u, U[t]? = some u → a + t < i → key u ≤ key v) ∧ (∀ t u, U[t]? = some u → j ≤ a + t → key v < key u) ∧ FRow wx g N xs ∧ Only g w wx))
  case atStart => exact ⟨a, m, rfl, rfl, Nat.le_refl _, by omega, Nat.le_refl _, Nat.le_refl _, fun t v _ h => by omega, fun t v hv h => by have h1 := (List.getElem?_eq_some_iff.1 hv).1; have h2 := Hm.out; omega, H.out, Only.refl_ g w⟩
  case round =>
    obtain ⟨i, j, rfl, rfl, hmi, hij, hjb, hk, HR⟩ := hrel
    by_cases hlt : i < j
    · have hltz : (i : Int) < (j : Int) := by omega
      obtain ⟨q, hq1, hq2, hq3⟩ : ∃ q : Nat, ((i : Int) + (j : Int)) / 2 = (q : Int) ∧ i ≤ q ∧ q < j := ⟨(i + j) / 2, by omega, by omega, by omega⟩
      have HQ := Lib.hid hq1
      obtain ⟨t, ht⟩ : ∃ t, q = a + t := ⟨q - a, by omega⟩
      have HT := Lib.hid ht
      obtain ⟨u, hu1⟩ : ∃ u, U[t]? = some u := ⟨_, List.getElem?_eq_getElem (by have := Hm.out; omega)⟩
      have hx : xs[q]? = some u := by rw [ht]; exact hu.out t u hu1
      have c1 := HR.out.2.2.1.cell hx
      have c2 := HR.out.2.2.1.cell hv.out
      have CC := Lib.hid (compare_any v u (HR.out.2.2.1.bound hv.out) (HR.out.2.2.1.bound hx))
      have HU1 := Lib.hid hu1
      clear hq1 ht hu1 hx
      go_wp2_with fail
      rw [HQ.out]
      by_cases hc : cmpF v u < 0
      · go_quiet ((go_at_call 41; exact Calls.quiet_of_same ((CC.out _).mono fun _ _ h => ⟨h.1, h.2.symm⟩)))
        go_wp2_with fail
        go_roundg (q - i)
        case measure => omega
        case rel =>
          refine ⟨i, q, rfl, rfl, hmi, by omega, by omega, Nat.le_refl _, HR.out.1, ?_, HR.out.2.2.1.drewN _, HR.out.2.2.2.drewN _⟩
          intro t' u' h1 h2
          have h3 := srt_get HU.out (show t ≤ t' by have := HT.out; omega) HU1.out h1
          have h4 := (cmpF_lt v u).1 hc
          omega
      · go_quiet ((go_at_call 41; exact Calls.quiet_of_same ((CC.out _).mono fun _ _ h => ⟨h.1, h.2.symm⟩)))
        go_wp2_with fail
        go_roundg (j - (q + 1))
        case measure => omega
        case rel =>
          refine ⟨q + 1, j, by go_num, rfl, by omega, by omega, hjb, Nat.le_refl _, ?_, HR.out.2.1, HR.out.2.2.1.drewN _, HR.out.2.2.2.drewN _⟩
          intro t' u' h1 h2
          have h3 := srt_get HU.out (show t' ≤ t by have := HT.out; omega) h1 HU1.out
          have h4 : ¬ key v < key u := fun h => by have := (cmpF_lt v u).2 h; omega
          omega
    · have hltz : ¬ (i : Int) < (j : Int) := by omega
      obtain ⟨s, hs⟩ : ∃ s, i = a + s := ⟨i - a, by omega⟩
      have HS := Lib.hid hs
      have hlo : Hid (∀ d ∈ U.take s, key d ≤ key v) := by
        intro d hd
        obtain ⟨t, h1, h2⟩ := mem_take_get hd
        exact HR.out.1 t d h2 (by omega)
      have hhi : Hid (∀ d ∈ U.drop s, key v < key d) := by
        intro d hd
        obtain ⟨t, h1, h2⟩ := mem_drop_get hd
        exact HR.out.2.1 t d h2 (by omega)
      have HF := Lib.hid HR.out.2.2.1
      have HO := Lib.hid HR.out.2.2.2
      clear HR hs
      go_wp2_with fail
      obtain ⟨wo, rfl⟩ : ∃ wo : World, wo = wr := ⟨_, rfl⟩
      go_loopg [17] (m - i) (fun k2 s17 wx => ∃ k : Nat, s17 = .int .i64 k ∧ i ≤ k ∧ k ≤ m ∧ k - i ≤ k2 ∧ Aside (∃ U1 U2 : List Nat, U = U1 ++ U2 ∧ a + U1.length = k ∧ FRow wx g N (P ++ U1 ++ v :: (U2 ++ S)) ∧ Only g w wx))
      case atStart => exact ⟨m, rfl, by omega, Nat.le_refl _, Nat.le_refl _, U, [], by simp, Hm.out, by have := HF.out; rw [← HXS.out] at this; simpa using this, HO.out⟩
      case round =>
        obtain ⟨k, rfl, hik, hkm, hk2, HJ⟩ := hrel
        by_cases hkl : i < k
        · obtain ⟨kp, rfl⟩ : ∃ kp, k = kp + 1 := ⟨k - 1, by omega⟩
          have hklz : (i : Int) < (kp : Int) + 1 := by omega
          have hwp : IntKind.i64.wrap (kp : Int) = (kp : Int) := by rw [IntKind.wrap_i64]; omega
          have HY : Hid (∃ (U1 : List Nat) (d : Nat) (U2 : List Nat), U = (U1 ++ [d]) ++ U2 ∧ a + U1.length = kp ∧ FRow wr g N ((P ++ U1) ++ d :: ([] ++ v :: (U2 ++ S))) ∧ Only g w wr) := by
            obtain ⟨U1, U2, q1, q2, q3, q4⟩ := HJ.out
            have hne : U1 ≠ [] := by rintro rfl; simp at q2; omega
            have e := List.dropLast_concat_getLast hne
            refine ⟨U1.dropLast, U1.getLast hne, U2, by rw [e]; exact q1, by rw [List.length_dropLast]; omega, ?_, q4⟩
            have e2 : P ++ U1 ++ v :: (U2 ++ S) = P ++ (U1.dropLast ++ [U1.getLast hne]) ++ v :: (U2 ++ S) := by rw [e]
            rw [e2] at q3
            simpa using q3
          clear HJ
          obtain ⟨U1, d, U2, q1, q2, q4, q5⟩ := HY.out
          clear HY
          have hi1 : (P ++ U1).length = kp := by rw [List.length_append, Ha.out]; exact q2
          have hx1 : ((P ++ U1) ++ d :: ([] ++ v :: (U2 ++ S)))[kp]? = some d := by rw [← hi1]; simp
          have hx2 : ((P ++ U1) ++ d :: ([] ++ v :: (U2 ++ S)))[kp + 1]? = some v := by
            rw [← hi1, List.getElem?_append_right (by omega)]
            have e : (P ++ U1).length + 1 - (P ++ U1).length = 1 := by omega
            rw [e]; rfl
          have c1 := q4.cell hx1
          have c2 := q4.cell hx2
          have f1 := q4.frozen kp
          have f2 := q4.frozen (kp + 1)
          have HS1 := Lib.hid (q4.drew.swap hx1 hx2)
          have HS2 := Lib.hid (q4.drew.swap' hx1 hx2 (by omega))
          have HE := Lib.hid (swp_mid (P ++ U1) [] (U2 ++ S) d v kp (kp + 1) hi1.symm (by rw [hi1]; rfl))
          have HQ := Lib.hid (And.intro q1 q2)
          have HO := Lib.hid q5
          clear q1 q2 q4 q5 hi1 hx1 hx2
          go_wp2_with fail
          go_region
          all_goals go_wp2
          all_goals
            go_roundg (kp - i)
            case measure => omega
            case rel =>
              refine ⟨kp, by first | rfl | go_num | (congr 1; omega), by omega, by omega, Nat.le_refl _, U1, d :: U2, by rw [HQ.out.1]; simp, HQ.out.2, ?_, ((HO.out.drew).set_ _ _).set_ _ _⟩
              have e : P ++ U1 ++ v :: (d :: U2 ++ S) = P ++ U1 ++ v :: ([] ++ d :: (U2 ++ S)) := by simp
              rw [e, ← HE.out]
              first | exact HS1.out | exact HS2.out
        · have hklz : ¬ (i : Int) < (k : Int) := by omega
          go_wp2_with fail
          refine bodyPost_ret (results_none rfl _ _ _) rfl ?_
          obtain ⟨U1, U2, q1, q2, q3, q4⟩ := HJ.out
          have hl : U1.length = s := by have := HS.out; omega
          have e1 : U.take s = U1 := by rw [q1, ← hl, List.take_left]
          have e2 : U.drop s = U2 := by rw [q1, ← hl, List.drop_left]
          have h1 := hlo.out
          have h2 := hhi.out
          rw [e1] at h1
          rw [e2] at h2
          refine ⟨rfl, ?_, q4⟩
          rw [← HOUT.out, ssort_snoc U U1 U2 v (by rw [ssort_id HU.out]; exact q1) h1 h2]
          simpa using q3
end Go.Proofs.YtkhoaaoddpjnpaaDoor.Sorts
