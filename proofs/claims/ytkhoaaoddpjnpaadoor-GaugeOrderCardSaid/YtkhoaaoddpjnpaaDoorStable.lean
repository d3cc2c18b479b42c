/- slices.SortStableFunc over floating point numbers (at most 100 of them), walked: it is the stable sort. -/
import Derived.Test.YtkhoaaoddpjnpaaDoorSymA
import Derived.Test.YtkhoaaoddpjnpaaDoorSymB
import Derived.Test.YtkhoaaoddpjnpaaDoorSymC
import Derived.Test.YtkhoaaoddpjnpaaDoorSortIns
namespace Go.Proofs.YtkhoaaoddpjnpaaDoor.Sorts
open Go Go.RowKit Go.Proofs.YtkhoaaoddpjnpaaDoor Go.Proofs.YtkhoaaoddpjnpaaDoor.Flt Go.Proofs.YtkhoaaoddpjnpaaDoor.Cmp Go.Proofs.YtkhoaaoddpjnpaaDoor.Mem

theorem symOk : ∀ d, SymOk d
  | 0 => fun g N cap a m b P U V S xs out w _ _ _ _ _ _ _ _ h1 _ _ h2 => by omega
  | d + 1 => fun g N cap a m b P U V S xs out w h1 h2 h3 h4 h5 h6 h7 h8 h9 h10 h11 h12 => by
    by_cases c1 : U.length = 1
    · match U, c1 with
      | [u], _ => exact symA g N cap a m b u P V S xs out w (by rw [← h1]; simp) (by rw [← h2]; rfl) h3 h4 h5 h6 h8 h10 h11
    · by_cases c2 : V.length = 1
      · match V, c2 with
        | [v], _ => exact symB g N cap a m b v P U S xs out w (by rw [← h1]; simp) h2 h3 h4 h5 h6 h7 (by omega) h11
      · exact symC d (symOk d) g N cap a m b P U V S xs out w h1 h2 h3 h4 h5 h6 h7 h8 (by omega) (by omega) h11 h12

theorem sb20_step (L : List Nat) (a k : Nat) (ha : a = k * 20) (hn : a + 20 ≤ L.length) : sb 20 (L.take a) ++ ssort ((L.drop a).take 20) = sb 20 (L.take (a + 20)) := by
  have e : L.take (a + 20) = L.take a ++ (L.drop a).take 20 := List.take_add
  rw [e, sb_many 20 (by omega) k (L.take a) ((L.drop a).take 20) (by rw [List.length_take]; omega), sb_small 20 ((L.drop a).take 20) (by rw [List.length_take]; omega)]
theorem sb_end (bs : Nat) (hb : 0 < bs) (L : List Nat) (a k : Nat) (ha : a = k * bs) (ha' : a ≤ L.length) (hn : L.length ≤ a + bs) : sb bs (L.take a) ++ ssort (L.drop a) = sb bs L := by
  have e := sb_many bs hb k (L.take a) (L.drop a) (by rw [List.length_take]; omega)
  rw [List.take_append_drop] at e
  rw [e, sb_small bs (L.drop a) (by rw [List.length_drop]; omega)]

/-- A round of merges, one more. -/
theorem sb_merge (bs : Nat) (hb : 0 < bs) (L : List Nat) (a k : Nat) (ha : a = k * (2 * bs)) (hn : a + 2 * bs ≤ L.length) :
    sb bs (L.drop a) = ssort ((L.drop a).take bs) ++ ssort ((L.drop (a + bs)).take bs) ++ sb bs (L.drop (a + 2 * bs)) ∧
    sb (2 * bs) (L.take a) ++ ssort (ssort ((L.drop a).take bs) ++ ssort ((L.drop (a + bs)).take bs)) = sb (2 * bs) (L.take (a + 2 * bs)) := by
  have e1 : L.drop a = (L.drop a).take bs ++ ((L.drop (a + bs)).take bs ++ L.drop (a + 2 * bs)) := by
    have q1 : L.drop (a + bs) = (L.drop a).drop bs := by rw [List.drop_drop]
    have q2 : L.drop (a + 2 * bs) = (L.drop (a + bs)).drop bs := by rw [List.drop_drop]; congr 1; omega
    rw [q2, List.take_append_drop, q1, List.take_append_drop]
  have l1 : ((L.drop a).take bs).length = bs := by rw [List.length_take, List.length_drop]; omega
  have l2 : ((L.drop (a + bs)).take bs).length = bs := by rw [List.length_take, List.length_drop]; omega
  refine ⟨?_, ?_⟩
  · have e2 : sb bs (L.drop a) = sb bs ((L.drop a).take bs ++ ((L.drop (a + bs)).take bs ++ L.drop (a + 2 * bs))) := congrArg (sb bs) e1
    rw [e2, sb_app bs hb _ _ l1, sb_app bs hb _ _ l2, List.append_assoc]
  · rw [ssort_ssort_app]
    have e3 : L.take (a + 2 * bs) = L.take a ++ ((L.drop a).take bs ++ (L.drop (a + bs)).take bs) := by
      rw [List.take_add]
      congr 1
      have q : 2 * bs = bs + bs := by omega
      rw [q, List.take_add, List.drop_drop]
    rw [e3, sb_many (2 * bs) (by omega) k (L.take a) _ (by rw [List.length_take]; omega), sb_small (2 * bs) ((L.drop a).take bs ++ (L.drop (a + bs)).take bs) (by rw [List.length_append]; omega)]
/-- .. the last. -/
theorem sb_merge_last (bs : Nat) (hb : 0 < bs) (L : List Nat) (a k : Nat) (ha : a = k * (2 * bs)) (hm : a + bs < L.length) (hn : L.length ≤ a + 2 * bs) :
    sb bs (L.drop a) = ssort ((L.drop a).take bs) ++ ssort (L.drop (a + bs)) ∧
    sb (2 * bs) (L.take a) ++ ssort (ssort ((L.drop a).take bs) ++ ssort (L.drop (a + bs))) = sb (2 * bs) L := by
  have e1 : (L.drop a).take bs ++ L.drop (a + bs) = L.drop a := by
    have q1 : L.drop (a + bs) = (L.drop a).drop bs := by rw [List.drop_drop]
    rw [q1, List.take_append_drop]
  have l1 : ((L.drop a).take bs).length = bs := by rw [List.length_take, List.length_drop]; omega
  refine ⟨?_, ?_⟩
  · have e2 : sb bs (L.drop a) = sb bs ((L.drop a).take bs ++ L.drop (a + bs)) := congrArg (sb bs) e1.symm
    rw [e2, sb_app bs hb _ _ l1, sb_small bs (L.drop (a + bs)) (by rw [List.length_drop]; omega)]
  · rw [ssort_ssort_app, e1]
    exact sb_end (2 * bs) (by omega) L a k ha (by omega) hn
theorem sb_none_last (bs : Nat) (hb : 0 < bs) (L : List Nat) (a k : Nat) (ha : a = k * (2 * bs)) (ha' : a ≤ L.length) (hm : L.length ≤ a + bs) : sb (2 * bs) (L.take a) ++ sb bs (L.drop a) = sb (2 * bs) L := by
  rw [sb_small bs (L.drop a) (by rw [List.length_drop]; omega)]
  exact sb_end (2 * bs) (by omega) L a k ha ha' (by omega)

set_option maxHeartbeats 4000000 in
set_option maxRecDepth 100000 in
theorem stable_any (g n cap : Nat) (L : List Nat) (w : World) (h : FRow w g n L) (hn : n ≤ 100) :
    Calls Tryd.prog 75 #[.slice (some ⟨g, 0, none⟩) n cap, .int .i64 n, .func (.func 41) #[] #[]] w fun e w' => e = .returned (.tuple #[]) ∧ FRow w' g n (ssort L) ∧ Only g w w' := by
  have HL := Lib.hid h.1
  have H := Lib.hid h
  clear h
  go_enter Tryd.func75, Tryd.ntmps75
  go_wp2_with fail
  go_loopg [7, 8] n (fun k s7 s8 wx => ∃ i a : Nat, s7 = .int .i64 a ∧ s8 = .int .i64 ((a : Int) + 20) ∧ Aside (a = i * 20) ∧ a + k = n ∧ Aside (FRow wx g n (sb 20 (L.take a) ++ L.drop a) ∧ Only g w wx))
  case atStart => exact ⟨0, 0, rfl, rfl, (show (0 : Nat) = 0 * 20 from rfl), by omega, by have := H.out; rw [List.take_zero, List.drop_zero, sb_small 20 [] (by simp)]; exact this, Only.refl_ g w⟩
  case round =>
    obtain ⟨i, a, rfl, rfl, HI, hk, HR⟩ := hrel
    have hlt1 : (L.take a).length = a := by rw [List.length_take, HL.out]; omega
    have hlt2 : (sb 20 (L.take a)).length = a := by rw [sb_length]; exact hlt1
    by_cases hab : a + 20 ≤ n
    · have habz : (a : Int) + 20 ≤ (n : Int) := by omega
      have C0 := (insertion_any g n cap a (a + 20) (sb 20 (L.take a)) ((L.drop a).take 20) (L.drop (a + 20)) _ _ wr rfl rfl (by
          have e : sb 20 (L.take a) ++ (L.drop a).take 20 ++ L.drop (a + 20) = sb 20 (L.take a) ++ L.drop a := by
            have q1 : L.drop (a + 20) = (L.drop a).drop 20 := by rw [List.drop_drop]
            rw [List.append_assoc, q1, List.take_append_drop]
          rw [e]; exact HR.out.1) hlt2 (by rw [List.length_take, List.length_drop, HL.out]; omega) (by rw [List.length_take, List.length_drop, HL.out]; omega) (by omega))
      rw [show ((a + 20 : Nat) : Int) = (a : Int) + 20 from by omega] at C0
      have C := Lib.hid C0
      clear C0
      have HE := Lib.hid (sb20_step L a i HI.out (by rw [HL.out]; exact hab))
      have HO := Lib.hid HR.out.2
      clear HR hlt1 hlt2
      go_wp2_with fail
      with_reducible refine C.out.mono ?_
      rintro e w' ⟨rfl, h1, h2⟩
      have H1 := Lib.hid h1
      clear h1
      go_wp2_with fail
      go_roundg (n - (a + 20))
      case measure => omega
      case rel => exact ⟨i + 1, a + 20, by go_num, by go_num, (show a + 20 = (i + 1) * 20 by have := HI.out; omega), by omega, by rw [← HE.out]; exact H1.out, HO.out.trans_ h2⟩
    · have habz : ¬ (a : Int) + 20 ≤ (n : Int) := by omega
      have C : Hid (Calls Tryd.prog 82 #[.slice (some ⟨g, 0, none⟩) n cap, .int .i64 a, .int .i64 n, .func (.func 41) #[] #[]] wr fun e w' => e = .returned (.tuple #[]) ∧ FRow w' g n (sb 20 L) ∧ Only g wr w') := by
        have e := sb_end 20 (by omega) L a i HI.out (by rw [HL.out]; omega) (by rw [HL.out]; omega)
        by_cases h0 : a = n
        · refine (insertion_none g n cap a n _ wr (by omega) (by omega)).mono ?_
          rintro e1 w1 ⟨rfl, rfl⟩
          refine ⟨rfl, ?_, Only.refl_ g wr⟩
          have k := HR.out.1
          have z : L.drop a = [] := List.drop_eq_nil_of_le (by rw [HL.out]; omega)
          rw [← e, z]
          rw [z] at k
          exact k
        · exact insertion_any g n cap a n (sb 20 (L.take a)) (L.drop a) [] _ _ wr (by simp) (by rw [← e]; simp) HR.out.1 hlt2 (by rw [List.length_drop, HL.out]; omega) (by rw [List.length_drop, HL.out]; omega) (by omega)
      have HO := Lib.hid HR.out.2
      clear HR hlt1 hlt2
      go_wp2_with fail
      with_reducible refine C.out.mono ?_
      rintro e w1 ⟨rfl, h1, h2⟩
      have H1 := Lib.hid h1
      have HO1 := Lib.hid (HO.out.trans_ h2)
      clear h1 h2 HO C
      go_wp2_with fail
      obtain ⟨w0, rfl⟩ : ∃ w0 : World, w0 = w := ⟨_, rfl⟩
      go_loopg [6] n (fun k s6 wx => ∃ bs : Nat, s6 = .int .i64 bs ∧ 20 ≤ bs ∧ bs ≤ 200 ∧ n ≤ bs + k ∧ Aside (FRow wx g n (sb bs L) ∧ Only g w0 wx))
      case atStart => exact ⟨20, rfl, by omega, by omega, by omega, H1.out, HO1.out⟩
      case round =>
        obtain ⟨bs, rfl, hb1, hb2, hbk, HR⟩ := hrel
        by_cases hbn : bs < n
        · have hbnz : (bs : Int) < (n : Int) := by omega
          go_wp2_with fail
          obtain ⟨wo, rfl⟩ : ∃ wo : World, wo = wr := ⟨_, rfl⟩
          go_loopg [7, 8] n (fun k s7 s8 wx => ∃ j a : Nat, s7 = .int .i64 a ∧ s8 = .int .i64 ((a : Int) + 2 * (bs : Int)) ∧ Aside (a = j * (2 * bs)) ∧ a + k = n ∧ Aside (FRow wx g n (sb (2 * bs) (L.take a) ++ sb bs (L.drop a)) ∧ Only g w0 wx))
          case atStart => exact ⟨0, 0, rfl, by congr 1; omega, (show (0 : Nat) = 0 * (2 * bs) by omega), by omega, by have := HR.out.1; rw [List.take_zero, List.drop_zero, sb_small (2 * bs) [] (by simp)]; exact this, HR.out.2⟩
          case round =>
            obtain ⟨j, a, rfl, rfl, HJ, hk2, HS⟩ := hrel
            have hlt1 : (L.take a).length = a := by rw [List.length_take, HL.out]; omega
            have hlt2 : (sb (2 * bs) (L.take a)).length = a := by rw [sb_length]; exact hlt1
            by_cases hab : a + 2 * bs ≤ n
            · have habz : (a : Int) + 2 * (bs : Int) ≤ (n : Int) := by omega
              have hm := sb_merge bs (by omega) L a j HJ.out (by rw [HL.out]; exact hab)
              have hl1 : (ssort ((L.drop a).take bs)).length = bs := by rw [ssort_length, List.length_take, List.length_drop, HL.out]; omega
              have hl2 : (ssort ((L.drop (a + bs)).take bs)).length = bs := by rw [ssort_length, List.length_take, List.length_drop, HL.out]; omega
              have C0 := symOk (bs + bs) g n cap a (a + bs) (a + 2 * bs) (sb (2 * bs) (L.take a)) (ssort ((L.drop a).take bs)) (ssort ((L.drop (a + bs)).take bs)) (sb bs (L.drop (a + 2 * bs))) _ (sb (2 * bs) (L.take (a + 2 * bs)) ++ sb bs (L.drop (a + 2 * bs))) wr rfl (by rw [hm.2]) (by
                have k := HS.out.1
                rw [hm.1] at k
                simpa using k) hlt2 (by rw [hl1]) (by rw [hl2]; omega) (ssort_srt _) (ssort_srt _) (by omega) (by omega) (by omega) (by omega)
              rw [show ((a + bs : Nat) : Int) = (a : Int) + (bs : Int) from by omega, show ((a + 2 * bs : Nat) : Int) = (a : Int) + 2 * (bs : Int) from by omega] at C0
              have C := Lib.hid C0
              have HO := Lib.hid HS.out.2
              clear C0 hm hl1 hl2 hlt1 hlt2 HS
              go_wp2_with fail
              with_reducible refine C.out.mono ?_
              rintro e w' ⟨rfl, h1, h2⟩
              have H2 := Lib.hid h1
              clear h1
              go_wp2_with fail
              go_roundg (n - (a + 2 * bs))
              case measure => omega
              case rel => exact ⟨j + 1, a + 2 * bs, by first | rfl | (congr 1; omega), by first | rfl | (congr 1; omega), (show a + 2 * bs = (j + 1) * (2 * bs) by rw [Nat.add_mul, Nat.one_mul, ← HJ.out]), by omega, H2.out, HO.out.trans_ h2⟩
            · have habz : ¬ (a : Int) + 2 * (bs : Int) ≤ (n : Int) := by omega
              by_cases hmn : a + bs < n
              · have hmnz : (a : Int) + (bs : Int) < (n : Int) := by omega
                have hm := sb_merge_last bs (by omega) L a j HJ.out (by rw [HL.out]; exact hmn) (by rw [HL.out]; omega)
                have hl1 : (ssort ((L.drop a).take bs)).length = bs := by rw [ssort_length, List.length_take, List.length_drop, HL.out]; omega
                have hl2 : (ssort (L.drop (a + bs))).length = n - (a + bs) := by rw [ssort_length, List.length_drop, HL.out]
                have C0 := symOk (bs + bs) g n cap a (a + bs) n (sb (2 * bs) (L.take a)) (ssort ((L.drop a).take bs)) (ssort (L.drop (a + bs))) [] _ (sb (2 * bs) L) wr rfl (by rw [List.append_nil, hm.2]) (by
                  have k := HS.out.1
                  rw [hm.1] at k
                  simpa using k) hlt2 (by rw [hl1]) (by rw [hl2]; omega) (ssort_srt _) (ssort_srt _) (by omega) (by omega) (by omega) (by omega)
                rw [show ((a + bs : Nat) : Int) = (a : Int) + (bs : Int) from by omega] at C0
                have C := Lib.hid C0
                have HO := Lib.hid HS.out.2
                clear C0 hm hl1 hl2 hlt1 hlt2 HS
                go_wp2_with fail
                with_reducible refine C.out.mono ?_
                rintro e w' ⟨rfl, h1, h2⟩
                have H2 := Lib.hid h1
                clear h1
                go_wp2_with fail
                go_roundg (n - 2 * bs)
                case measure => omega
                case rel => exact ⟨2 * bs, by first | rfl | (congr 1; omega), by omega, by omega, by omega, H2.out, HO.out.trans_ h2⟩
              · have hmnz : ¬ (a : Int) + (bs : Int) < (n : Int) := by omega
                have HE := Lib.hid (sb_none_last bs (by omega) L a j HJ.out (by rw [HL.out]; omega) (by rw [HL.out]; omega))
                clear hlt1 hlt2
                go_wp2_with fail
                go_roundg (n - 2 * bs)
                case measure => omega
                case rel => exact ⟨2 * bs, by first | rfl | (congr 1; omega), by omega, by omega, by omega, by rw [← HE.out]; exact HS.out.1, HS.out.2⟩
        · have hbnz : ¬ (bs : Int) < (n : Int) := by omega
          go_wp2_with fail
          go_end0
          exact ⟨rfl, by have k := HR.out.1; rw [sb_small bs L (by rw [HL.out]; omega)] at k; exact k, HR.out.2⟩
end Go.Proofs.YtkhoaaoddpjnpaaDoor.Sorts
