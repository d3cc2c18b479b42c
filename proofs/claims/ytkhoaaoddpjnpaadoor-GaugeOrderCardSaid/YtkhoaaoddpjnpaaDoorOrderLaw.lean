/- The law GaugeOrder, walked: it answers true and changes nothing that was there. -/
import Derived.Test.YtkhoaaoddpjnpaaDoorRefSort
import Derived.Test.YtkhoaaoddpjnpaaDoorRefExt
namespace Go.Proofs.YtkhoaaoddpjnpaaDoor.OrderLaw
open Go Go.RowKit Go.Proofs.YtkhoaaoddpjnpaaDoor Go.Proofs.YtkhoaaoddpjnpaaDoor.Flt Go.Proofs.YtkhoaaoddpjnpaaDoor.Cmp Go.Proofs.YtkhoaaoddpjnpaaDoor.Mem Go.Proofs.YtkhoaaoddpjnpaaDoor.Ext Go.Proofs.YtkhoaaoddpjnpaaDoor.Lives Go.Proofs.YtkhoaaoddpjnpaaDoor.Sorts Go.Proofs.YtkhoaaoddpjnpaaDoor.BinsLaw Go.Proofs.YtkhoaaoddpjnpaaDoor.Rank Go.Proofs.YtkhoaaoddpjnpaaDoor.RefExt Go.Proofs.YtkhoaaoddpjnpaaDoor.RefSort

set_option maxHeartbeats 4000000 in
set_option maxRecDepth 100000 in
theorem law_any (A : Option Addr) (n c : Nat) (l : List Nat) (a b : Nat) (w : World) (hl : l.length = n) (fl : FS w w.heap.size A l) (hn : n ≤ c) (hc : c ≤ 9223372036854775807)
    (ha : a < 18446744073709551616) (hb : b < 18446744073709551616) :
    Calls Tryd.prog 8 #[.slice A n c, .float .f64 a, .float .f64 b] w fun e w' => e = .returned (.bool true) ∧ Below w.heap.size w w' := by
  obtain ⟨m, hm⟩ : ∃ m, min n 100 = m := ⟨_, rfl⟩
  have E1 := Lib.hid (early_any A n c hn hc)
  rw [hm] at E1
  have hml : (l.take 100).length = m := by rw [List.length_take]; omega
  have hm1 : m ≤ 100 := by omega
  have Fl := Lib.hid (fl.take_ 100)
  generalize l.take 100 = ll at *
  have Hml := Lib.hid hml
  have S1 := Lib.hid fun w0 f => sort_any A c ll m w0 hml f hm1
  have S2 := Lib.hid fun w0 f => rsort_any A c ll m w0 hml f hm1
  have Hsl := Lib.hid (show (ssort ll).length = m by rw [ssort_length]; exact hml)
  unfold Sorted at S1 S2
  have C1 := Lib.hid (compare_any a b ha hb)
  have C2 := Lib.hid (rcompare_any a b ha hb)
  have L1 := Lib.hid fun w0 f => least_any A c ll m w0 hml f (by omega)
  have L2 := Lib.hid fun w0 f => rleast_any A c ll m w0 hml f (by omega)
  have G1 := Lib.hid fun w0 f => greatest_any A c ll m w0 hml f (by omega)
  have G2 := Lib.hid fun w0 f => rgreatest_any A c ll m w0 hml f (by omega)
  have R1 := Lib.hid fun w0 f => rank_any A c ll m a w0 hml f ha (by omega)
  have R2 := Lib.hid fun w0 f => rrank_any A c ll m a w0 hml f ha (by omega)
  unfold outOf at L1 L2 G1 G2
  have B1 := Lib.hid (best_least ll)
  have B2 := Lib.hid (best_greatest ll)
  have Hs64 := Lib.hid Fl.out.1
  generalize ext (-1) ll = x1 at *
  generalize ext 1 ll = x2 at *
  generalize ssort ll = ss at *
  generalize rk a ll m = r at *
  clear hl fl hm hn hml ha hb
  go_enter Tryd.func8, Tryd.ntmps8
  go_wp2_with fail
  refine (lives_any _).mono ?_; rintro e w0 ⟨rfl, hb0⟩
  go_wp2_with fail
  refine (E1.out _).mono ?_; rintro e w' ⟨rfl, rfl⟩
  have Fl0 := Lib.hid ((Fl.out.below hb0).more hb0.size)
  go_wp2_with fail
  refine (L1.out w0 Fl0.out).mono ?_; rintro e w' ⟨rfl, rfl⟩
  go_wp2_with fail
  refine (L2.out w0 Fl0.out).mono ?_; rintro e w' ⟨⟨y1, rfl, hy1⟩, rfl⟩
  have S3 := Lib.hid (same_any _ _ (best_lt B1.out Hs64.out) (best_lt hy1 Hs64.out) (best_same B1.out hy1).2)
  have hi1 := (best_same B1.out hy1).1
  clear hy1
  generalize x1.getD 0 = u1 at *
  generalize y1.getD 0 = v1 at *
  generalize x1.isSome = s1 at *
  rw [← hi1]
  clear hi1
  go_wp2_with fail
  refine (G1.out w0 Fl0.out).mono ?_; rintro e w' ⟨rfl, rfl⟩
  go_wp2_with fail
  refine (G2.out w0 Fl0.out).mono ?_; rintro e w1 ⟨⟨y2, rfl, hy2⟩, hb1⟩
  have S4 := Lib.hid (same_any _ _ (best_lt B2.out Hs64.out) (best_lt hy2 Hs64.out) (best_same B2.out hy2).2)
  have hi2 := (best_same B2.out hy2).1
  clear hy2
  generalize x2.getD 0 = u2 at *
  generalize y2.getD 0 = v2 at *
  generalize x2.isSome = s2 at *
  rw [← hi2]
  clear hi2
  have Fl1 := Lib.hid ((Fl0.out.below hb1).more hb1.size)
  go_wp2_with fail
  with_reducible refine (C1.out _).mono ?_; rintro e w' ⟨rfl, rfl⟩
  go_wp2_with fail
  with_reducible refine (C2.out _).mono ?_; rintro e w' ⟨rfl, rfl⟩
  go_wp2_with fail
  with_reducible refine (S3.out _).mono ?_; rintro e w' ⟨rfl, rfl⟩
  go_wp2_with fail
  with_reducible refine (S4.out _).mono ?_; rintro e w' ⟨rfl, rfl⟩
  go_wp2_with fail
  refine (R1.out w1 Fl1.out).mono ?_; rintro e w' ⟨rfl, rfl⟩
  go_wp2_with fail
  refine (R2.out w1 Fl1.out).mono ?_; rintro e w' ⟨rfl, rfl⟩
  go_wp2_with fail
  refine (S1.out w1 Fl1.out).mono ?_; rintro e w2 ⟨A2, d2, rfl, hd2, hd2', hs2, hb2⟩
  have Fl2 := Lib.hid ((Fl1.out.below hb2).more hb2.size)
  have Hs2 := Lib.hid hs2
  clear hd2 hd2' hs2
  go_wp2_with fail
  refine (S2.out w2 Fl2.out).mono ?_; rintro e w3 ⟨A3, d3, rfl, hd3, hd3', hs3, hb3⟩
  have Hs3 := Lib.hid hs3
  have Hs2' := Lib.hid ((Hs2.out.below hb3).more hb3.size)
  clear hd3 hd3' hs3
  go_wp2_with fail
  refine (same_lists A2 A3 d2 d3 m ss w3 Hsl.out Hs2'.out Hs3.out (by omega)).mono ?_; rintro e w4 ⟨rfl, hb4⟩
  have HB := Lib.hid ((((hb0.trans (hb1.mono hb0.size)).trans (hb2.mono (Nat.le_trans hb0.size hb1.size))).trans (hb3.mono (Nat.le_trans hb0.size (Nat.le_trans hb1.size hb2.size)))).trans (hb4.mono (Nat.le_trans hb0.size (Nat.le_trans hb1.size (Nat.le_trans hb2.size hb3.size)))))
  clear hb0 hb1 hb2 hb3 hb4
  go_wp2_with fail
  go_ret
  exact ⟨rfl, HB.out⟩
end Go.Proofs.YtkhoaaoddpjnpaaDoor.OrderLaw
