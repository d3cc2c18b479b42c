/- slices.symMergeCmpFunc over floating point numbers, where the one list has one number: walked. -/
import Derived.Test.YtkhoaaoddpjnpaaDoorSort
namespace Go.Proofs.YtkhoaaoddpjnpaaDoor.Sorts
open Go Go.RowKit Go.Proofs.YtkhoaaoddpjnpaaDoor Go.Proofs.YtkhoaaoddpjnpaaDoor.Flt Go.Proofs.YtkhoaaoddpjnpaaDoor.Cmp Go.Proofs.YtkhoaaoddpjnpaaDoor.Mem
attribute [local go_sem] run_store_float

set_option maxHeartbeats 2000000 in
set_option maxRecDepth 100000 in
theorem symA (g N cap a m b : Nat) (u : Nat) (P V S xs out : List Nat) (w : World) (hxs : P ++ u :: V ++ S = xs) (hout : P ++ ssort (u :: V) ++ S = out) (h : FRow w g N xs) (ha : P.length = a) (hm : a + 1 = m) (hb : m + V.length = b) (hV : Srt V) (hV0 : 0 < V.length) (hN : N ≤ 100000) :
    Calls Tryd.prog 83 #[.slice (some ⟨g, 0, none⟩) N cap, .int .i64 a, .int .i64 m, .int .i64 b, .func (.func 41) #[] #[]] w fun e w' => e = .returned (.tuple #[]) ∧ FRow w' g N out ∧ Only g w w' := by
  have hlen := h.1
  rw [← hxs] at hlen
  simp only [List.length_append, List.length_cons] at hlen
  have hn1 : b ≤ 100000 := by omega
  have hn2 : m < b := by omega
  have hn3 : b ≤ N := by omega
  have hn4 : a < m := by omega
  have ht1 : ((m : Int) - (a : Int) == 1) = true := by simp; omega
  have H := Lib.hid h
  have Ha := Lib.hid ha
  have Hm := Lib.hid hm
  have Hb := Lib.hid hb
  have HV := Lib.hid hV
  have HXS := Lib.hid hxs
  have HOUT := Lib.hid hout
  have hu : Hid (xs[a]? = some u) := by
    show _ = _
    rw [← hxs, ← ha]; simp
  have hv : Hid (∀ t v, V[t]? = some v → xs[m + t]? = some v) := by
    intro t v hv
    rw [← hxs, ← hm, ← ha, List.append_assoc, List.getElem?_append_right (by omega)]
    have e : P.length + 1 + t - P.length = t + 1 := by omega
    rw [e, List.cons_append, List.getElem?_cons_succ, List.getElem?_append_left]
    · exact hv
    · exact (List.getElem?_eq_some_iff.1 hv).1
  clear h ha hm hb hV hxs hout hlen hV0
  go_enter Tryd.func83, Tryd.ntmps83
  go_wp2_with fail
  go_loopg [10, 11] (b - m) (fun k s10 s11 wx => ∃ i j : Nat, s10 = .int .i64 i ∧ s11 = .int .i64 j ∧ m ≤ i ∧ i ≤ j ∧ j ≤ b ∧ j - i ≤ k ∧ Aside ((∀ t v, V[t]? = some v → m + t < i → key v < key u) ∧ (∀ t v, V[t]? = some v → j ≤ m + t → key u ≤ key v) ∧ FRow wx g N xs ∧ Only g w wx))
  case atStart => exact ⟨m, b, rfl, rfl, Nat.le_refl _, by omega, Nat.le_refl _, Nat.le_refl _, fun t v _ h => by omega, fun t v hv h => by have h1 := (List.getElem?_eq_some_iff.1 hv).1; have h2 := Hb.out; omega, H.out, Only.refl_ g w⟩
  case round =>
    obtain ⟨i, j, rfl, rfl, hmi, hij, hjb, hk, HR⟩ := hrel
    by_cases hlt : i < j
    · have hltz : (i : Int) < (j : Int) := by omega
      obtain ⟨q, hq1, hq2, hq3⟩ : ∃ q : Nat, ((i : Int) + (j : Int)) / 2 = (q : Int) ∧ i ≤ q ∧ q < j := ⟨(i + j) / 2, by omega, by omega, by omega⟩
      have HQ := Lib.hid hq1
      obtain ⟨t, ht⟩ : ∃ t, q = m + t := ⟨q - m, by omega⟩
      have HT := Lib.hid ht
      obtain ⟨v, hv1⟩ : ∃ v, V[t]? = some v := ⟨_, List.getElem?_eq_getElem (by have := Hb.out; omega)⟩
      have hx : xs[q]? = some v := by rw [ht]; exact hv.out t v hv1
      have c1 := HR.out.2.2.1.cell hx
      have c2 := HR.out.2.2.1.cell hu.out
      have CC := Lib.hid (compare_any v u (HR.out.2.2.1.bound hx) (HR.out.2.2.1.bound hu.out))
      have HV1 := Lib.hid hv1
      clear hq1 ht hv1 hx
      go_wp2_with fail
      rw [HQ.out]
      by_cases hc : cmpF v u < 0
      · go_quiet ((go_at_call 41; exact Calls.quiet_of_same ((CC.out _).mono fun _ _ h => ⟨h.1, h.2.symm⟩)))
        go_wp2_with fail
        go_roundg (j - (q + 1))
        case measure => omega
        case rel =>
          refine ⟨q + 1, j, by go_num, rfl, by omega, by omega, hjb, Nat.le_refl _, ?_, HR.out.2.1, HR.out.2.2.1.drewN _, HR.out.2.2.2.drewN _⟩
          intro t' v' h1 h2
          have h3 := srt_get HV.out (show t' ≤ t by have := HT.out; omega) h1 HV1.out
          have h4 := (cmpF_lt v u).1 hc
          omega
      · go_quiet ((go_at_call 41; exact Calls.quiet_of_same ((CC.out _).mono fun _ _ h => ⟨h.1, h.2.symm⟩)))
        go_wp2_with fail
        go_roundg (q - i)
        case measure => omega
        case rel =>
          refine ⟨i, q, rfl, rfl, hmi, by omega, by omega, Nat.le_refl _, HR.out.1, ?_, HR.out.2.2.1.drewN _, HR.out.2.2.2.drewN _⟩
          intro t' v' h1 h2
          have h3 := srt_get HV.out (show t ≤ t' by have := HT.out; omega) HV1.out h1
          have h4 : ¬ key v < key u := fun h => by have := (cmpF_lt v u).2 h; omega
          omega
    · have hltz : ¬ (i : Int) < (j : Int) := by omega
      obtain ⟨s, hs⟩ : ∃ s, i = m + s := ⟨i - m, by omega⟩
      have HS := Lib.hid hs
      have hlo : Hid (∀ d ∈ V.take s, key d < key u) := by
        intro d hd
        obtain ⟨t, h1, h2⟩ := mem_take_get hd
        exact HR.out.1 t d h2 (by omega)
      have hhi : Hid (∀ d ∈ V.drop s, key u ≤ key d) := by
        intro d hd
        obtain ⟨t, h1, h2⟩ := mem_drop_get hd
        exact HR.out.2.1 t d h2 (by omega)
      have HF := Lib.hid HR.out.2.2.1
      have HO := Lib.hid HR.out.2.2.2
      clear HR hs
      go_wp2_with fail
      obtain ⟨wo, rfl⟩ : ∃ wo : World, wo = wr := ⟨_, rfl⟩
      go_loopg [13] (i - a) (fun k2 s13 wx => ∃ k : Nat, s13 = .int .i64 k ∧ a ≤ k ∧ k + 1 ≤ i ∧ i - k ≤ k2 ∧ Aside (∃ V1 V2 : List Nat, V = V1 ++ V2 ∧ a + V1.length = k ∧ FRow wx g N (P ++ V1 ++ u :: (V2 ++ S)) ∧ Only g w wx))
      case atStart => exact ⟨a, rfl, Nat.le_refl _, by omega, Nat.le_refl _, [], V, rfl, rfl, by have := HF.out; rw [← HXS.out] at this; simpa using this, HO.out⟩
      case round =>
        obtain ⟨k, rfl, hak, hki, hk2, HJ⟩ := hrel
        by_cases hkl : k + 1 < i
        · have hklz : (k : Int) < (i : Int) - 1 := by omega
          have HY : Hid (∃ (V1 : List Nat) (d : Nat) (V2 : List Nat), V = V1 ++ d :: V2 ∧ a + V1.length = k ∧ FRow wr g N ((P ++ V1) ++ u :: ([] ++ d :: (V2 ++ S))) ∧ Only g w wr) := by
            obtain ⟨V1, V2, q1, q2, q3, q4⟩ := HJ.out
            cases V2 with
            | nil => have h1 := Hb.out; have h2 := Hm.out; have := congrArg List.length q1; simp at this; omega
            | cons d V2 => exact ⟨V1, d, V2, q1, q2, by simpa using q3, q4⟩
          clear HJ
          obtain ⟨V1, d, V2, q1, q2, q4, q5⟩ := HY.out
          clear HY
          have hi1 : (P ++ V1).length = k := by rw [List.length_append, Ha.out]; exact q2
          have hx1 : ((P ++ V1) ++ u :: ([] ++ d :: (V2 ++ S)))[k]? = some u := by rw [← hi1]; simp
          have hx2 : ((P ++ V1) ++ u :: ([] ++ d :: (V2 ++ S)))[k + 1]? = some d := by
            rw [← hi1, List.getElem?_append_right (by omega)]
            have e : (P ++ V1).length + 1 - (P ++ V1).length = 1 := by omega
            rw [e]; rfl
          have c1 := q4.cell hx1
          have c2 := q4.cell hx2
          have f1 := q4.frozen k
          have f2 := q4.frozen (k + 1)
          have HS1 := Lib.hid (q4.drew.swap hx1 hx2)
          have HS2 := Lib.hid (q4.drew.swap' hx1 hx2 (by omega))
          have HE := Lib.hid (swp_mid (P ++ V1) [] (V2 ++ S) u d k (k + 1) hi1.symm (by rw [hi1]; rfl))
          have HQ := Lib.hid (And.intro q1 q2)
          have HO := Lib.hid q5
          clear q1 q2 q4 q5 hi1 hx1 hx2
          go_wp2_with fail
          go_region
          all_goals go_wp2
          all_goals
            go_roundg (i - (k + 1))
            case measure => omega
            case rel =>
              refine ⟨k + 1, by go_num, by omega, by omega, Nat.le_refl _, V1 ++ [d], V2, by rw [HQ.out.1]; simp, by have := HQ.out.2; simp; omega, ?_, ((HO.out.drew).set_ _ _).set_ _ _⟩
              have e : P ++ (V1 ++ [d]) ++ u :: (V2 ++ S) = P ++ V1 ++ d :: ([] ++ u :: (V2 ++ S)) := by simp
              rw [e, ← HE.out]
              first | exact HS1.out | exact HS2.out
        · have hklz : ¬ (k : Int) < (i : Int) - 1 := by omega
          go_wp2_with fail
          refine bodyPost_ret (results_none rfl _ _ _) rfl ?_
          obtain ⟨V1, V2, q1, q2, q3, q4⟩ := HJ.out
          have hl : V1.length = s := by have := HS.out; have := Hm.out; omega
          have e1 : V.take s = V1 := by rw [q1, ← hl, List.take_left]
          have e2 : V.drop s = V2 := by rw [q1, ← hl, List.drop_left]
          have h1 := hlo.out
          have h2 := hhi.out
          rw [e1] at h1
          rw [e2] at h2
          have h3 := HV.out
          rw [q1] at h3
          refine ⟨rfl, ?_, q4⟩
          rw [← HOUT.out, q1, ssort_cons_split u V1 V2 h3 h1 h2]
          simpa using q3
end Go.Proofs.YtkhoaaoddpjnpaaDoor.Sorts
