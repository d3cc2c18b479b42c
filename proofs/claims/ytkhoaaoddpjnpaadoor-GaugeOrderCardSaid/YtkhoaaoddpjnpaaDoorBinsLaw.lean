/- The law GaugeBins, walked: it answers true and changes nothing that was there. -/
import Derived.Test.YtkhoaaoddpjnpaaDoorBins
import Derived.Test.YtkhoaaoddpjnpaaDoorLives
namespace Go.Proofs.YtkhoaaoddpjnpaaDoor.BinsLaw
open Go Go.RowKit Go.Proofs.YtkhoaaoddpjnpaaDoor Go.Proofs.YtkhoaaoddpjnpaaDoor.Flt Go.Proofs.YtkhoaaoddpjnpaaDoor.Cmp Go.Proofs.YtkhoaaoddpjnpaaDoor.Mem Go.Proofs.YtkhoaaoddpjnpaaDoor.Bins Go.Proofs.YtkhoaaoddpjnpaaDoor.Lives

theorem early_any (A : Option Addr) (n c : Nat) (hn : n ≤ c) (hc : c ≤ 9223372036854775807) (w : World) : Calls Tryd.prog 11 #[.slice A n c] w fun e w' => e = .returned (.slice A (min n 100) c) ∧ w = w' := by
  by_cases h : n ≤ 100
  · have e : min n 100 = n := by omega
    rw [e]
    go_enter Tryd.func11, Tryd.ntmps11
    go_wp2_with fail
    go_ret
    exact ⟨rfl, rfl⟩
  · have e : min n 100 = 100 := by omega
    rw [e]
    go_enter Tryd.func11, Tryd.ntmps11
    go_wp2_with fail
    go_ret
    exact ⟨rfl, rfl⟩

set_option maxHeartbeats 1000000 in
theorem same_ints (g1 g2 n c1 c2 : Nat) (xs : List Int) (w : World) (hl : xs.length = n) (h1 : IR w g1 3 xs) (h2 : IR w g2 3 xs) (hn : n ≤ 1000) :
    Calls Tryd.prog 14 #[.slice (some ⟨g1, 0, none⟩) n c1, .slice (some ⟨g2, 0, none⟩) n c2] w fun e w' => e = .returned (.bool true) ∧ Below w.heap.size w w' := by
  have Hl := Lib.hid hl
  have H1 := Lib.hid h1
  have H2 := Lib.hid h2
  clear hl h1 h2
  go_enter Tryd.func14, Tryd.ntmps14
  go_wp2_with fail
  go_loopg [5] n (fun g s5 wx => ∃ i : Nat, i + g = n ∧ s5 = .int .i64 i ∧ Below w.heap.size w wx)
  case atStart => exact ⟨0, by omega, rfl, Below.refl _ _⟩
  case round =>
    obtain ⟨i, hig, rfl, hb⟩ := hrel
    cases gk with
    | zero =>
      have hiz : ¬ ((i : Int) < (n : Int)) := by omega
      go_wp2_with fail
      go_ret
      exact ⟨rfl, hb⟩
    | succ g =>
      have hiz : (i : Int) < (n : Int) := by omega
      obtain ⟨x, hx⟩ : ∃ x, xs[i]? = some x := ⟨_, List.getElem?_eq_getElem (by rw [Hl.out]; omega)⟩
      have c1 := (H1.out.below hb H1.out.lt).cell hx
      have c2 := (H2.out.below hb H2.out.lt).cell hx
      clear hx
      go_wp2_with fail
      go_quiet (fail)
      go_wp2_with fail
      go_roundg g
      case measure => omega
      case rel => exact ⟨i + 1, by omega, by go_num, below_drewN hb _⟩

set_option maxHeartbeats 2000000 in
theorem law_any (A A' : Option Addr) (n n' c c' : Nat) (l es : List Nat) (w : World) (hl : l.length = n) (he : es.length = n') (fl : FS w w.heap.size A l) (fe : FS w w.heap.size A' es) (hn : n ≤ c) (hn' : n' ≤ c') (hc : c ≤ 9223372036854775807) (hc' : c' ≤ 9223372036854775807) :
    Calls Tryd.prog 3 #[.slice A n c, .slice A' n' c'] w fun e w' => e = .returned (.bool true) ∧ Below w.heap.size w w' := by
  obtain ⟨m, hm⟩ : ∃ m, min n 100 = m := ⟨_, rfl⟩
  obtain ⟨m', hm'⟩ : ∃ m', min n' 100 = m' := ⟨_, rfl⟩
  have E1 := Lib.hid (early_any A n c hn hc)
  have E2 := Lib.hid (early_any A' n' c' hn' hc')
  rw [hm] at E1
  rw [hm'] at E2
  have hml : (l.take 100).length = m := by rw [List.length_take]; omega
  have hme : (es.take 100).length = m' := by rw [List.length_take]; omega
  have hm1 : m ≤ 100 := by omega
  have hm2 : m' ≤ 100 := by omega
  have Fl := Lib.hid (fl.take_ 100)
  have Fe := Lib.hid (fe.take_ 100)
  generalize l.take 100 = ll at *
  generalize es.take 100 = ee at *
  have Hml := Lib.hid hml
  have Hme := Lib.hid hme
  clear hl he fl fe hm hm' hn hn' hml hme
  go_enter Tryd.func3, Tryd.ntmps3
  go_wp2_with fail
  refine (lives_any _).mono ?_; rintro e w0 ⟨rfl, hb0⟩
  go_wp2_with fail
  refine (E1.out _).mono ?_; rintro e w' ⟨rfl, rfl⟩
  go_wp2_with fail
  refine (E2.out _).mono ?_; rintro e w' ⟨rfl, rfl⟩
  go_wp2_with fail
  have Fl0 := (Fl.out.below hb0).more hb0.size
  have Fe0 := (Fe.out.below hb0).more hb0.size
  refine (gbins A A' c c' ll ee m m' w0 Hml.out Hme.out Fl0 Fe0 hm1 hm2).mono ?_; rintro e w1 ⟨rfl, hr1, hb1⟩
  have HR1 := Lib.hid hr1
  clear hr1
  go_wp2_with fail
  have Fl1 := (Fl0.below hb1).more hb1.size
  have Fe1 := (Fe0.below hb1).more hb1.size
  refine (rbins A A' c c' ll ee m m' w1 Hml.out Hme.out Fl1 Fe1 hm1 hm2).mono ?_; rintro e w2 ⟨rfl, hr2, hb2⟩
  have HR2 := Lib.hid hr2
  have HR1' := Lib.hid (HR1.out.below hb2 HR1.out.lt)
  have HB := Lib.hid ((hb0.trans (hb1.mono hb0.size)).trans (hb2.mono (Nat.le_trans hb0.size hb1.size)))
  clear hr2 HR1 Fl0 Fe0 Fl1 Fe1 hb0 hb1 hb2
  go_wp2_with fail
  go_loopg [7, 8] (m' + 1) (fun g s7 s8 wx => ∃ i : Nat, i + g = m' + 1 ∧ s8 = .int .i64 i ∧ s7 = .int .i64 (upTo (bins ee ll) i) ∧ w2 = wx)
  case atStart => exact ⟨0, by omega, rfl, rfl, rfl⟩
  case round =>
    obtain ⟨i, hig, rfl, rfl, rfl⟩ := hrel
    have hup := upTo_bound (bins ee ll) m (fun j c hc => by have := bins_bound ee ll j c hc; rw [Hml.out] at this; exact this) i (by rw [bins_length, Hme.out]; omega)
    have hup0 : 0 ≤ upTo (bins ee ll) i := hup.1
    have hup1 : upTo (bins ee ll) i ≤ 100000 := by
      have h1 : (m : Int) * (i : Int) ≤ 100 * i := by exact_mod_cast Nat.mul_le_mul_right i hm1
      have := hup.2
      omega
    clear hup
    cases gk with
    | zero =>
      have hiz : ¬ ((i : Int) < (m' : Int) + 1) := by omega
      have hs : upTo (bins ee ll) i = m := by
        have e : i = (bins ee ll).length := by rw [bins_length, Hme.out]; omega
        rw [e, upTo_all, bins_sum, Hml.out]
      rw [hs]
      clear hs hup0 hup1
      go_wp2_with fail
      refine (same_ints _ _ (m' + 1) (m' + 1) (m' + 1) (bins ee ll) w2 (by rw [bins_length, Hme.out]) HR1'.out HR2.out (by omega)).mono ?_; rintro e w3 ⟨rfl, hb3⟩
      go_wp2_with fail
      go_ret
      exact ⟨by simp, HB.out.trans (hb3.mono HB.out.size)⟩
    | succ g =>
      have hiz : (i : Int) < (m' : Int) + 1 := by omega
      obtain ⟨x, hx⟩ : ∃ x, (bins ee ll)[i]? = some x := ⟨_, List.getElem?_eq_getElem (by rw [bins_length, Hme.out]; omega)⟩
      have hxb := bins_bound ee ll i x hx
      have hx0 : 0 ≤ x := hxb.1
      have hx1 : x ≤ 100 := by have := hxb.2; rw [Hml.out] at this; omega
      have hc1 := HR1'.out.cell hx
      have Hx := Lib.hid (upTo_succ (bins ee ll) i x hx)
      clear hx hxb
      go_wp2_with fail
      go_roundg g
      case measure => omega
      case rel => exact ⟨i + 1, by omega, by go_num, by rw [Hx.out], rfl⟩
end Go.Proofs.YtkhoaaoddpjnpaaDoor.BinsLaw
