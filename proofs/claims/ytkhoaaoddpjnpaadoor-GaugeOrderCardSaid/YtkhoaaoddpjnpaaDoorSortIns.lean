/- slices.insertionSortCmpFunc over floating point numbers, walked: it is the stable sort. -/
import Derived.Test.YtkhoaaoddpjnpaaDoorSort
namespace Go.Proofs.YtkhoaaoddpjnpaaDoor.Sorts
open Go Go.RowKit Go.Proofs.YtkhoaaoddpjnpaaDoor Go.Proofs.YtkhoaaoddpjnpaaDoor.Flt Go.Proofs.YtkhoaaoddpjnpaaDoor.Cmp Go.Proofs.YtkhoaaoddpjnpaaDoor.Mem
attribute [local go_sem] run_store_float

set_option maxHeartbeats 1000000 in
set_option maxRecDepth 100000 in
theorem insertion_none (g N cap a b : Nat) (f : Value) (w : World) (h : b ≤ a) (ha : a ≤ 100000) :
    Calls Tryd.prog 82 #[.slice (some ⟨g, 0, none⟩) N cap, .int .i64 a, .int .i64 b, f] w fun e w' => e = .returned (.tuple #[]) ∧ w = w' := by
  go_enter Tryd.func82, Tryd.ntmps82
  go_wp2_with fail
  refine wp_loop_rounds 1 ?_
  rw [rounds_succ]
  go_wp2_with fail
  go_end0
  exact ⟨rfl, rfl⟩

set_option maxHeartbeats 2000000 in
set_option maxRecDepth 100000 in
theorem insertion_any (g N cap a b : Nat) (P M S xs out : List Nat) (w : World) (hxs : P ++ M ++ S = xs) (hout : P ++ ssort M ++ S = out) (h : FRow w g N xs) (ha : P.length = a) (hb : a + M.length = b) (hM : 0 < M.length) (hN : N ≤ 100000) :
    Calls Tryd.prog 82 #[.slice (some ⟨g, 0, none⟩) N cap, .int .i64 a, .int .i64 b, .func (.func 41) #[] #[]] w fun e w' => e = .returned (.tuple #[]) ∧ FRow w' g N out ∧ Only g w w' := by
  have hlen := h.1
  rw [← hxs] at hlen
  simp only [List.length_append] at hlen
  have hn1 : b ≤ 100000 := by omega
  have hn2 : a < b := by omega
  have hn3 : b ≤ N := by omega
  have H0 : Hid (∃ M1 x M2 : _, M = M1 ++ M2 ∧ M1 = [x] ∧ FRow w g N (P ++ ssort M1 ++ M2 ++ S)) := by
    cases M with
    | nil => simp at hM
    | cons x M2 => exact ⟨[x], x, M2, rfl, rfl, by rw [← hxs] at h; simpa [ssort, ins] using h⟩
  have Ha := Lib.hid ha
  have Hb := Lib.hid hb
  have HOUT := Lib.hid hout
  clear ha hb h hlen hxs hout hM
  go_enter Tryd.func82, Tryd.ntmps82
  go_wp2_with fail
  go_loopg [8] (b - a) (fun k s8 wx => ∃ i : Nat, s8 = .int .i64 i ∧ a < i ∧ i ≤ b ∧ b - i < k + 1 ∧ Aside (∃ M1 M2 : List Nat, M = M1 ++ M2 ∧ a + M1.length = i ∧ FRow wx g N (P ++ ssort M1 ++ M2 ++ S) ∧ Only g w wx))
  case atStart =>
    obtain ⟨M1, x, M2, h1, h2, h3⟩ := H0.out
    exact ⟨a + 1, by go_num, by omega, by omega, by omega, M1, M2, h1, by rw [h2]; rfl, h3, Only.refl_ g w⟩
  case round =>
    obtain ⟨i, rfl, hai, hib, hk, HR⟩ := hrel
    clear H0
    by_cases hlt : i < b
    · have hltz : (i : Int) < (b : Int) := by omega
      have HX : Hid (∃ (M1 : List Nat) (x : Nat) (M2 : List Nat), M = M1 ++ x :: M2 ∧ a + M1.length = i ∧ FRow wr g N (P ++ ssort M1 ++ x :: M2 ++ S) ∧ Only g w wr) := by
        obtain ⟨M1, M2, h1, h2, h3, h4⟩ := HR.out
        cases M2 with
        | nil => have h5 := Hb.out; have := congrArg List.length h1; simp at this; omega
        | cons x M2 => exact ⟨M1, x, M2, h1, h2, h3, h4⟩
      clear HR
      obtain ⟨M1, x, M2, h1, h2, h3, h4⟩ := HX.out
      clear HX
      have HM := Lib.hid h1
      have HL := Lib.hid h2
      have H3 := Lib.hid h3
      have H4 := Lib.hid h4
      clear h1 h2 h3 h4
      go_wp2_with fail
      obtain ⟨wo, rfl⟩ : ∃ wo : World, wo = wr := ⟨_, rfl⟩
      go_loopg [9] (i - a) (fun k2 s9 wx => ∃ j : Nat, s9 = .int .i64 j ∧ a ≤ j ∧ j ≤ i ∧ j - a ≤ k2 ∧ Aside (∃ D1 D2 : List Nat, ssort M1 = D1 ++ D2 ∧ a + D1.length = j ∧ (∀ d ∈ D2, key x < key d) ∧ FRow wx g N (P ++ D1 ++ x :: (D2 ++ M2 ++ S)) ∧ Only g w wx))
      case atStart => exact ⟨i, rfl, by omega, Nat.le_refl _, Nat.le_refl _, ssort M1, [], by simp, by rw [ssort_length]; exact HL.out, by simp, by simpa using H3.out, H4.out⟩
      case round =>
        obtain ⟨j, rfl, haj, hji, hk2, HJ⟩ := hrel
        clear H3 H4
        have OUT : Hid (∀ W : World, (∃ D1 D2 : List Nat, ssort M1 = D1 ++ D2 ∧ (∀ d ∈ D1, key d ≤ key x) ∧ (∀ d ∈ D2, key x < key d) ∧ FRow W g N (P ++ D1 ++ x :: (D2 ++ M2 ++ S)) ∧ Only g w W) → ∃ M1 M2 : List Nat, M = M1 ++ M2 ∧ a + M1.length = i + 1 ∧ FRow W g N (P ++ ssort M1 ++ M2 ++ S) ∧ Only g w W) := by
          rintro W ⟨D1, D2, q1, q2, q3, q4, q5⟩
          refine ⟨M1 ++ [x], M2, by rw [HM.out]; simp, by have := HL.out; simp; omega, ?_, q5⟩
          rw [ssort_snoc M1 D1 D2 x q1 q2 q3]
          simpa using q4
        by_cases hja : a < j
        · obtain ⟨jp, rfl⟩ : ∃ jp, j = jp + 1 := ⟨j - 1, by omega⟩
          have HY : Hid (∃ (D1 : List Nat) (d : Nat) (D2 : List Nat), ssort M1 = (D1 ++ [d]) ++ D2 ∧ a + D1.length = jp ∧ (∀ d ∈ D2, key x < key d) ∧ FRow wr g N ((P ++ D1) ++ d :: ([] ++ x :: (D2 ++ M2 ++ S))) ∧ Only g w wr) := by
            obtain ⟨D1, D2, q1, q2, q3, q4, q5⟩ := HJ.out
            have hne : D1 ≠ [] := by rintro rfl; simp at q2; omega
            have e := List.dropLast_concat_getLast hne
            refine ⟨D1.dropLast, D1.getLast hne, D2, by rw [e]; exact q1, by rw [List.length_dropLast]; omega, q3, ?_, q5⟩
            have e2 : P ++ D1 ++ x :: (D2 ++ M2 ++ S) = P ++ (D1.dropLast ++ [D1.getLast hne]) ++ x :: (D2 ++ M2 ++ S) := by rw [e]
            rw [e2] at q4
            simpa using q4
          clear HJ
          obtain ⟨D1, d, D2, q1, q2, q3, q4, q5⟩ := HY.out
          clear HY
          have hi1 : (P ++ D1).length = jp := by rw [List.length_append, Ha.out]; exact q2
          have hd : ((P ++ D1) ++ d :: ([] ++ x :: (D2 ++ M2 ++ S)))[jp]? = some d := by rw [← hi1]; simp
          have hx : ((P ++ D1) ++ d :: ([] ++ x :: (D2 ++ M2 ++ S)))[jp + 1]? = some x := by
            rw [← hi1, List.getElem?_append_right (by omega)]
            have e : (P ++ D1).length + 1 - (P ++ D1).length = 1 := by omega
            rw [e]; rfl
          have c1 := q4.cell hd
          have c2 := q4.cell hx
          have f1 := q4.frozen jp
          have f2 := q4.frozen (jp + 1)
          have CC := Lib.hid (compare_any x d (q4.bound hx) (q4.bound hd))
          have HS1 : Hid (∀ W, FRow W g N ((P ++ D1) ++ d :: ([] ++ x :: (D2 ++ M2 ++ S))) → FRow ((W.setCell ⟨g, jp, none⟩ (.float .f64 x)).setCell ⟨g, jp + 1, none⟩ (.float .f64 d)) g N (swp ((P ++ D1) ++ d :: ([] ++ x :: (D2 ++ M2 ++ S))) jp (jp + 1))) := fun W h => h.swap hd hx
          have HS2 : Hid (∀ W, FRow W g N ((P ++ D1) ++ d :: ([] ++ x :: (D2 ++ M2 ++ S))) → FRow ((W.setCell ⟨g, jp + 1, none⟩ (.float .f64 d)).setCell ⟨g, jp, none⟩ (.float .f64 x)) g N (swp ((P ++ D1) ++ d :: ([] ++ x :: (D2 ++ M2 ++ S))) jp (jp + 1))) := fun W h => h.swap' hd hx (by omega)
          have HE := Lib.hid (swp_mid (P ++ D1) [] (D2 ++ M2 ++ S) d x jp (jp + 1) hi1.symm (by rw [hi1]; rfl))
          have HF := Lib.hid q4
          have HQ := Lib.hid (And.intro q1 (And.intro q2 q3))
          have HO := Lib.hid q5
          clear q1 q2 q3 q4 q5 hi1 hd hx
          have hjaz : (a : Int) < (jp : Int) + 1 := by omega
          have hwp : IntKind.i64.wrap (jp : Int) = (jp : Int) := by rw [IntKind.wrap_i64]; omega
          by_cases hc : cmpF x d < 0
          · go_wp2_with fail
            go_quiet ((go_at_call 41; exact Calls.quiet_of_same ((CC.out _).mono fun _ _ h => ⟨h.1, h.2.symm⟩)))
            go_wp2_with fail
            have HF2 := Lib.hid (HF.out.drewN nq)
            have HO2 := Lib.hid (HO.out.drewN nq)
            have c1' : (wr.drewN nq).cell? ⟨g, jp, none⟩ = some (.float .f64 d) := c1
            have c2' : (wr.drewN nq).cell? ⟨g, jp + 1, none⟩ = some (.float .f64 x) := c2
            have f1' : (wr.drewN nq).frozen? ⟨g, jp, none⟩ = false := f1
            have f2' : (wr.drewN nq).frozen? ⟨g, jp + 1, none⟩ = false := f2
            clear c1 c2 f1 f2 HF HO
            generalize wr.drewN nq = wq at c1' c2' f1' f2' HF2 HO2 ⊢
            go_region
            all_goals go_wp2
            all_goals
              go_roundg (jp - a)
              case measure => omega
              case rel =>
                refine ⟨jp, by first | rfl | go_num | (congr 1; omega), by omega, by omega, Nat.le_refl _, D1, d :: D2, by rw [HQ.out.1]; simp, HQ.out.2.1, ?_, ?_, ((HO2.out.drew).set_ _ _).set_ _ _⟩
                · intro y hy
                  rcases List.mem_cons.1 hy with rfl | hy
                  · exact (cmpF_lt x y).1 hc
                  · exact HQ.out.2.2 y hy
                · have e : P ++ D1 ++ x :: (d :: D2 ++ M2 ++ S) = P ++ D1 ++ x :: ([] ++ d :: (D2 ++ M2 ++ S)) := by simp
                  rw [e, ← HE.out]
                  first | exact HS1.out _ HF2.out.drew | exact HS2.out _ HF2.out.drew
          · go_wp2_with fail
            go_quiet ((go_at_call 41; exact Calls.quiet_of_same ((CC.out _).mono fun _ _ h => ⟨h.1, h.2.symm⟩)))
            go_wp2
            go_roundg (b - (i + 1))
            case measure => omega
            case rel =>
              refine ⟨i + 1, by go_num, by omega, by omega, by omega, OUT.out _ ⟨D1 ++ [d], D2, HQ.out.1, ?_, HQ.out.2.2, ?_, HO.out.drewN _⟩⟩
              · have hs := ssort_srt M1
                rw [HQ.out.1] at hs
                intro y hy
                have h1 := srt_last (List.pairwise_append.1 hs).1 y hy
                have h2 : ¬ key x < key d := fun h => by have := (cmpF_lt x d).2 h; omega
                omega
              · have := HF.out.drewN nq
                simpa using this
        · have hjaz : decide ((j : Int) > (a : Int)) = false := decide_eq_false (by omega)
          have hjaz' : ¬ (a : Int) < (j : Int) := by omega
          go_wp2_with fail
          go_quiet (fail)
          go_wp2
          go_roundg (b - (i + 1))
          case measure => omega
          case rel =>
            refine ⟨i + 1, by go_num, by omega, by omega, by omega, OUT.out _ ?_⟩
            obtain ⟨D1, D2, q1, q2, q3, q4, q5⟩ := HJ.out
            have e : D1 = [] := List.eq_nil_of_length_eq_zero (by omega)
            subst e
            exact ⟨[], D2, q1, by simp, q3, q4.drewN _, q5.drewN _⟩
    · have hltz : ¬ (i : Int) < (b : Int) := by omega
      go_wp2_with fail
      go_end0
      obtain ⟨M1, M2, h1, h2, h3, h4⟩ := HR.out
      have e : M2 = [] := List.eq_nil_of_length_eq_zero (by have h5 := Hb.out; have := congrArg List.length h1; simp at this; omega)
      subst e
      simp only [List.append_nil] at h1 h3
      subst h1
      exact ⟨rfl, by rw [← HOUT.out]; exact h3, h4⟩
end Go.Proofs.YtkhoaaoddpjnpaaDoor.Sorts
