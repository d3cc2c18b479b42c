/- The law GaugeRanks, walked: it answers true and changes nothing that was there. -/
import Derived.Test.YtkhoaaoddpjnpaaDoorSortFn
import Derived.Test.YtkhoaaoddpjnpaaDoorRank
import Derived.Test.YtkhoaaoddpjnpaaDoorBinsLaw
namespace Go.Proofs.YtkhoaaoddpjnpaaDoor.RanksLaw
open Go Go.RowKit Go.Proofs.YtkhoaaoddpjnpaaDoor Go.Proofs.YtkhoaaoddpjnpaaDoor.Flt Go.Proofs.YtkhoaaoddpjnpaaDoor.Cmp Go.Proofs.YtkhoaaoddpjnpaaDoor.Mem Go.Proofs.YtkhoaaoddpjnpaaDoor.Ext Go.Proofs.YtkhoaaoddpjnpaaDoor.Lives Go.Proofs.YtkhoaaoddpjnpaaDoor.Sorts Go.Proofs.YtkhoaaoddpjnpaaDoor.BinsLaw Go.Proofs.YtkhoaaoddpjnpaaDoor.Rank

set_option maxHeartbeats 4000000 in
set_option maxRecDepth 100000 in
theorem law_any (A : Option Addr) (n c : Nat) (l : List Nat) (x lo hi : Nat) (w : World) (hl : l.length = n) (fl : FS w w.heap.size A l) (hn : n ≤ c) (hc : c ≤ 9223372036854775807)
    (hx : x < 18446744073709551616) (hlo : lo < 18446744073709551616) (hhi : hi < 18446744073709551616) :
    Calls Tryd.prog 9 #[.slice A n c, .agg #[.float .f64 x, .float .f64 lo, .float .f64 hi]] w fun e w' => e = .returned (.bool true) ∧ Below w.heap.size w w' := by
  obtain ⟨m, hm⟩ : ∃ m, min n 100 = m := ⟨_, rfl⟩
  have E1 := Lib.hid (early_any A n c hn hc)
  rw [hm] at E1
  have hml : (l.take 100).length = m := by rw [List.length_take]; omega
  have hm1 : m ≤ 100 := by omega
  have Fl := Lib.hid (fl.take_ 100)
  generalize l.take 100 = ll at *
  have Hml := Lib.hid hml
  have S1 := Lib.hid fun w0 f => sort_any A c ll m w0 hml f hm1
  have Hs := Lib.hid (ssort_srt ll)
  have Hsl := Lib.hid (show (ssort ll).length = m by rw [ssort_length]; exact hml)
  unfold Sorted at S1
  generalize ssort ll = ss at *
  have C0 := Lib.hid (compare_any lo hi hlo hhi)
  have K := Lib.hid (clamp_any x lo hi hx hlo hhi)
  have H64 := Lib.hid (And.intro hx (And.intro hlo hhi))
  clear hl fl hm hn hml hx hlo hhi
  go_enter Tryd.func9, Tryd.ntmps9
  go_wp2_with fail
  refine (lives_any _).mono ?_; rintro e w0 ⟨rfl, hb0⟩
  have bx : ∀ (k : Nat) v, (#[Value.float .f64 x, .float .f64 lo, .float .f64 hi] : Array Value)[k]? = some v → w0.cell? ⟨w.heap.size, k, none⟩ = some v := by
    intro k v hv
    rw [hb0.cell (by simp)]
    rw [cell_of_row _ w.heap.size k _ 30 (0, 0) (heap_alloc_new _ _)]
    exact hv
  have hbw := ((Below.refl w.heap.size w).alloc (Nat.le_refl _) (.cells #[Value.float .f64 x, .float .f64 lo, .float .f64 hi] 30)).trans (hb0.mono (by simp))
  have hlt : w.heap.size < w0.heap.size := by
    have := hb0.size
    simp at this
    omega
  have BX := Lib.hid bx
  clear bx hb0
  go_wp2_with fail
  refine (E1.out _).mono ?_; rintro e w' ⟨rfl, rfl⟩
  go_wp2_with fail
  have Fl0 := (Fl.out.below hbw).more hbw.size
  refine (S1.out w0 Fl0).mono ?_; rintro e w3 ⟨B, d, rfl, hd1, hd2, hs1, hb1⟩
  have HD := Lib.hid (And.intro hd1 hd2)
  have Fs3 := Lib.hid hs1
  have HB := Lib.hid (hbw.trans (hb1.mono hbw.size))
  have HL3 := Lib.hid (show w.heap.size < w3.heap.size from Nat.lt_of_lt_of_le hlt hb1.size)
  have B0 := Lib.hid ((hb1.cell (p := ⟨w.heap.size, 0, none⟩) hlt).trans (BX.out 0 _ rfl))
  have B1 := Lib.hid ((hb1.cell (p := ⟨w.heap.size, 1, none⟩) hlt).trans (BX.out 1 _ rfl))
  have B2 := Lib.hid ((hb1.cell (p := ⟨w.heap.size, 2, none⟩) hlt).trans (BX.out 2 _ rfl))
  clear hd1 hd2 hs1 hbw hb1 Fl0 Fl BX E1 S1 hlt
  go_wp2_with fail
  go_loopg [6] m (fun g s6 wx => ∃ i : Nat, i + g = m ∧ s6 = .int .i64 i ∧ Below w3.heap.size w3 wx)
  case atStart => exact ⟨0, by omega, rfl, Below.refl _ _⟩
  case round =>
    obtain ⟨i, hig, rfl, hb⟩ := hrel
    cases gk with
    | zero =>
      have hiz : ¬ ((i : Int) < (m : Int)) := by omega
      have HW := Lib.hid (HB.out.trans (hb.mono HB.out.size))
      have c0 := (hb.cell HL3.out).trans B0.out
      have c1 := (hb.cell HL3.out).trans B1.out
      have c2 := (hb.cell HL3.out).trans B2.out
      clear hb B0 B1 B2 HL3 HB
      by_cases ho : 0 < cmpF lo hi
      · have hk := (cmpF_gt lo hi).1 ho
        have SM := Lib.hid (same_any (clampF x lo hi) lo (by rw [clampF, if_pos (.inl hk)]; exact H64.out.2.1) H64.out.2.1 (by rw [clampF, if_pos (.inl hk)]))
        clear hk
        generalize clampF x lo hi = cl at *
        go_wp2_with fail
        with_reducible refine (C0.out _).mono ?_; rintro e w' ⟨rfl, rfl⟩
        go_wp2_with fail
        go_quiet (first | (go_at_call 22; exact Calls.quiet_of_same ((K.out _).mono fun _ _ h => ⟨h.1, h.2.symm⟩)) | (go_at_call 15; exact Calls.quiet_of_same ((SM.out _).mono fun _ _ h => ⟨h.1, h.2.symm⟩)))
        go_wp2_with fail
        go_ret
        exact ⟨rfl, below_drewN HW.out _⟩
      · have hk : ¬ key hi < key lo := fun h => ho ((cmpF_gt lo hi).2 h)
        have hc64 : clampF x lo hi < 18446744073709551616 := by unfold clampF; split; exact H64.out.2.1; split; exact H64.out.2.2; exact H64.out.1
        have hg : ¬ cmpF (clampF x lo hi) lo < 0 := by
          rw [cmpF_lt]; unfold clampF; (split; · omega); (split; · omega); omega
        have hl : ¬ 0 < cmpF (clampF x lo hi) hi := by
          rw [cmpF_gt]; unfold clampF; (split; · omega); (split; · omega); omega
        have D1 := Lib.hid (compare_any (clampF x lo hi) lo hc64 H64.out.2.1)
        have D2 := Lib.hid (compare_any (clampF x lo hi) hi hc64 H64.out.2.2)
        clear hk hc64
        generalize clampF x lo hi = cl at *
        obtain ⟨r1, h1⟩ : ∃ r, cmpF cl lo = r := ⟨_, rfl⟩
        obtain ⟨r2, h2⟩ : ∃ r, cmpF cl hi = r := ⟨_, rfl⟩
        rw [h1] at D1 hg
        rw [h2] at D2 hl
        clear h1 h2
        have hg' : (0 : Int) ≤ r1 := by omega
        have hl' : r2 ≤ (0 : Int) := by omega
        clear hg hl
        go_wp2_with fail
        with_reducible refine (C0.out _).mono ?_; rintro e w' ⟨rfl, rfl⟩
        go_wp2_with fail
        with_reducible refine (K.out _).mono ?_; rintro e w' ⟨rfl, rfl⟩
        go_wp2_with fail
        with_reducible refine (D1.out _).mono ?_; rintro e w' ⟨rfl, rfl⟩
        go_wp2_with fail
        with_reducible refine (D2.out _).mono ?_; rintro e w' ⟨rfl, rfl⟩
        go_wp2_with fail
        go_ret
        exact ⟨rfl, HW.out⟩
    | succ g =>
      have hiz : (i : Int) < (m : Int) := by omega
      obtain ⟨bs, os, rfl, hbs, hcs⟩ := Fs3.out.2 (by rintro rfl; have := Hsl.out; simp at this; omega)
      have HCs := Lib.hid hcs
      have Hbs := Lib.hid hbs
      obtain ⟨z, hz⟩ : ∃ z, ss[i]? = some z := ⟨_, List.getElem?_eq_getElem (by rw [Hsl.out]; omega)⟩
      have Hz := Lib.hid hz
      have Hz64 := Lib.hid (Fs3.out.1 z (List.mem_of_getElem? hz))
      have Hczw := Lib.hid (hcs i z hz)
      have HI := Lib.hid hb
      clear hz hcs hbs hb
      go_wp2_with fail
      go_loopg [7] i (fun g' s7 wx => s7 = .int .i64 g' ∧ g' ≤ i ∧ (∀ j y, g' ≤ j → ss[j]? = some y → key z ≤ key y) ∧ Below w3.heap.size w3 wx)
      case atStart => exact ⟨rfl, Nat.le_refl _, fun j y hj hy => srt_get Hs.out hj Hz.out hy, HI.out⟩
      case round =>
        obtain ⟨rfl, hfi, hall, hb⟩ := hrel
        have HA := Lib.hid hall
        clear hall
        cases gk with
        | zero =>
          have HF := Lib.hid (show rk z ss m = 0 from by rw [rk_at z ss 0 (fun j y hj => absurd hj (by omega)) (fun j y hj hy => HA.out j y hj hy) m (by rw [Hsl.out]; exact Nat.le_refl _)]; simp)
          have hdz : decide (0 < 0) = false := rfl
          go_wp2_with fail
          go_quiet (fail)
          have Hq := Lib.hid (below_drewN hb nq)
          generalize wr.drewN nq = wq at *
          clear hb hdz
          have hczq := (Hq.out.cell Hbs.out).trans Hczw.out
          have R := Lib.hid (rank_any (some ⟨bs, os, none⟩) d ss m z wq Hsl.out ((Fs3.out.below Hq.out).more Hq.out.size) Hz64.out (by omega))
          rw [HF.out] at R
          rcases Nat.eq_zero_or_pos i with hi0 | hi0
          · have hd : decide (0 < i) = false := decide_eq_false (by omega)
            clear hi0
            go_wp2_with fail
            refine R.out.mono ?_; rintro e w' ⟨rfl, rfl⟩
            go_wp2_with fail
            go_roundg g
            case measure => omega
            case rel => exact ⟨i + 1, by omega, by go_num, Hq.out⟩
          · have hd : decide (0 < i) = true := decide_eq_true (by omega)
            obtain ⟨ip, hip, hip1⟩ : ∃ ip : Nat, (i : Int) - 1 = (ip : Int) ∧ ip ≤ i := ⟨i - 1, by omega, by omega⟩
            obtain ⟨y, hy⟩ : ∃ y, ss[ip]? = some y := ⟨_, List.getElem?_eq_getElem (by rw [Hsl.out]; omega)⟩
            have hcy := (Hq.out.cell Hbs.out).trans (HCs.out ip y hy)
            have hczq := (Hq.out.cell Hbs.out).trans Hczw.out
            have R2 := Lib.hid (rank_any (some ⟨bs, os, none⟩) d ss m y wq Hsl.out ((Fs3.out.below Hq.out).more Hq.out.size) (Fs3.out.1 y (List.mem_of_getElem? hy)) (by omega))
            have hmn := rk_mono y z ss (srt_get Hs.out hip1 hy Hz.out) m (by rw [Hsl.out]; exact Nat.le_refl _)
            rw [HF.out] at hmn
            obtain ⟨r, hr⟩ : ∃ r, rk y ss m = r := ⟨_, rfl⟩
            rw [hr] at R2 hmn
            have hlt : ¬ ((0 : Int) < r) := by omega
            clear hr hy
            go_wp2_with fail
            refine R.out.mono ?_; rintro e w' ⟨rfl, rfl⟩
            go_wp2_with fail
            refine R2.out.mono ?_; rintro e w' ⟨rfl, rfl⟩
            go_wp2_with fail
            go_roundg g
            case measure => omega
            case rel => exact ⟨i + 1, by omega, by go_num, Hq.out⟩
        | succ f =>
          obtain ⟨u, hu⟩ : ∃ u, ss[f]? = some u := ⟨_, List.getElem?_eq_getElem (by rw [Hsl.out]; omega)⟩
          have hcu := (hb.cell Hbs.out).trans (HCs.out f u hu)
          have hcz := (hb.cell Hbs.out).trans Hczw.out
          have C := Lib.hid (compare_any u z (Fs3.out.1 u (List.mem_of_getElem? hu)) Hz64.out)
          have huz : key u ≤ key z := srt_get Hs.out (by omega) hu Hz.out
          have Hu := Lib.hid hu
          clear hu
          by_cases hk : key u = key z
          · have hcm : cmpF u z = 0 := (cmpF_zero u z).2 hk
            have HK := Lib.hid hk
            clear hk huz
            go_wp2_with fail
            go_quiet ((go_at_call 41; exact Calls.quiet_of_same ((C.out _).mono fun _ _ h => ⟨h.1, h.2.symm⟩)))
            go_wp2_with fail
            go_roundg f
            case measure => omega
            case rel => exact ⟨by go_num, by omega, fun j y hj hy => by
              rcases Nat.lt_or_ge f j with h | h
              · exact HA.out j y h hy
              · obtain rfl : j = f := by omega
                obtain rfl := Option.some.inj (Hu.out.symm.trans hy)
                exact Int.le_of_eq HK.out.symm, below_drewN hb _⟩
          · have hcm : (cmpF u z == 0) = false := by simpa using fun h => hk ((cmpF_zero u z).1 h)
            have HF := Lib.hid (show rk z ss m = ((f + 1 : Nat) : Int) from by
              rw [rk_at z ss (f + 1) (fun j y hj hy => by have := srt_get Hs.out (show j ≤ f by omega) hy Hu.out; omega) (fun j y hj hy => HA.out j y hj hy) m (by rw [Hsl.out]; exact Nat.le_refl _)]
              congr 1; omega)
            clear hk huz
            go_wp2_with fail
            go_quiet ((go_at_call 41; exact Calls.quiet_of_same ((C.out _).mono fun _ _ h => ⟨h.1, h.2.symm⟩)))
            have Hq := Lib.hid (below_drewN hb nq)
            generalize wr.drewN nq = wq at *
            clear hb hcz hcu C
            have hczq := (Hq.out.cell Hbs.out).trans Hczw.out
            have R := Lib.hid (rank_any (some ⟨bs, os, none⟩) d ss m z wq Hsl.out ((Fs3.out.below Hq.out).more Hq.out.size) Hz64.out (by omega))
            rw [HF.out] at R
            rcases Nat.eq_zero_or_pos i with hi0 | hi0
            · have hd : decide (0 < i) = false := decide_eq_false (by omega)
              clear hi0
              go_wp2_with fail
              refine R.out.mono ?_; rintro e w' ⟨rfl, rfl⟩
              go_wp2_with fail
              go_roundg g
              case measure => omega
              case rel => exact ⟨i + 1, by omega, by go_num, Hq.out⟩
            · have hd : decide (0 < i) = true := decide_eq_true (by omega)
              obtain ⟨ip, hip, hip1⟩ : ∃ ip : Nat, (i : Int) - 1 = (ip : Int) ∧ ip ≤ i := ⟨i - 1, by omega, by omega⟩
              obtain ⟨y, hy⟩ : ∃ y, ss[ip]? = some y := ⟨_, List.getElem?_eq_getElem (by rw [Hsl.out]; omega)⟩
              have hcy := (Hq.out.cell Hbs.out).trans (HCs.out ip y hy)
              have hczq := (Hq.out.cell Hbs.out).trans Hczw.out
              have R2 := Lib.hid (rank_any (some ⟨bs, os, none⟩) d ss m y wq Hsl.out ((Fs3.out.below Hq.out).more Hq.out.size) (Fs3.out.1 y (List.mem_of_getElem? hy)) (by omega))
              have hmn := rk_mono y z ss (srt_get Hs.out hip1 hy Hz.out) m (by rw [Hsl.out]; exact Nat.le_refl _)
              rw [HF.out] at hmn
              obtain ⟨r, hr⟩ : ∃ r, rk y ss m = r := ⟨_, rfl⟩
              rw [hr] at R2 hmn
              have hlt : ¬ ((f + 1 : Int) < r) := by omega
              clear hr hy
              go_wp2_with fail
              refine R.out.mono ?_; rintro e w' ⟨rfl, rfl⟩
              go_wp2_with fail
              refine R2.out.mono ?_; rintro e w' ⟨rfl, rfl⟩
              go_wp2_with fail
              go_roundg g
              case measure => omega
              case rel => exact ⟨i + 1, by omega, by go_num, Hq.out⟩
end Go.Proofs.YtkhoaaoddpjnpaaDoor.RanksLaw
