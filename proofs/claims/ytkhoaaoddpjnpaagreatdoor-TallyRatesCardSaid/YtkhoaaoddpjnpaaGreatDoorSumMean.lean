/- Sums, means and ratios of both, walked: their results by their keys. -/
import Derived.Test.YtkhoaaoddpjnpaaGreatDoorFloat2
import Derived.Test.YtkhoaaoddpjnpaaGreatDoorCmp
import Derived.Test.YtkhoaaoddpjnpaaGreatDoorInfs
import Derived.Deep.LoopGhost
namespace Go.Proofs.YtkhoaaoddpjnpaaGreatDoor.SumMean
open Go Go.RowKit Go.Proofs.YtkhoaaoddpjnpaaGreatDoor Go.Proofs.YtkhoaaoddpjnpaaGreatDoor.Flt Go.Proofs.YtkhoaaoddpjnpaaGreatDoor.Cmp Go.Proofs.YtkhoaaoddpjnpaaGreatDoor.Mem Go.Proofs.YtkhoaaoddpjnpaaGreatDoor.Ratio Go.Proofs.YtkhoaaoddpjnpaaGreatDoor.Float2 Go.Proofs.YtkhoaaoddpjnpaaGreatDoor.Lives

/-- A number of the key k; the world but for draws. -/
def Num (w : World) (k : Int) (e : Ending) (w' : World) : Prop := ∃ r n, e = .returned (.float .f64 r) ∧ w' = w.drewN n ∧ key r = k ∧ r < 18446744073709551616

theorem key_zero : key 0 = 0 := by decide +kernel
set_option maxHeartbeats 1000000 in
theorem sum_any (A : Option Addr) (c : Nat) (l : List Nat) (m : Nat) (w : World) (hl : l.length = m) (fl : FS w w.heap.size A l) (hm : m ≤ 9223372036854775807) :
    Calls Tryz.prog 36 #[.slice A m c] w (Num w (sumK 0 l)) := by
  have Hl := Lib.hid hl
  have Fl := Lib.hid fl
  clear hl fl
  go_enter Tryz.func36, Tryz.ntmps36
  go_wp2_with fail
  go_loopg [3, 8] m (fun g s3 s8 wx => ∃ i s n : Nat, i + g = m ∧ s8 = .int .i64 i ∧ s3 = .float .f64 s ∧ key s = sumK 0 (l.take i) ∧ s < 18446744073709551616 ∧ wx = w.drewN n)
  case atStart => exact ⟨0, 0, 0, by omega, rfl, rfl, key_zero, by decide, rfl⟩
  case round =>
    obtain ⟨i, s, n, hig, rfl, rfl, hk, hs, rfl⟩ := hrel
    have HK := Lib.hid hk
    have HS := Lib.hid hs
    clear hk hs
    cases gk with
    | zero =>
      have hiz : ¬ ((i : Int) < (m : Int)) := by omega
      have HK' := Lib.hid (show key s = sumK 0 l by rw [HK.out, show i = m by omega, ← Hl.out, List.take_length])
      go_wp2_with fail
      go_ret
      exact ⟨s, n, rfl, rfl, HK'.out, HS.out⟩
    | succ g =>
      have hiz : (i : Int) < (m : Int) := by omega
      obtain ⟨b, o, x, rfl, hb, hx64, hx, hcell⟩ := FS.at_ (k := i) Fl.out (by rw [Hl.out]; omega)
      have hc : (w.drewN n).cell? ⟨b, o + i, none⟩ = some (.float .f64 x) := hcell
      obtain ⟨r, q, hrun, hkr, hr⟩ := run_add 33 s x (w.drewN n)
      have HKR := Lib.hid (show key r = sumK 0 (l.take (i + 1)) by rw [hkr]; exact sumK_next hx hx64 HS.out HK.out)
      have HR := Lib.hid hr
      clear hx hx64 hcell hkr hr hb
      go_wp2_with fail
      go_roundg g
      case measure => omega
      case rel => exact ⟨i + 1, r, n + q, by omega, by go_num, rfl, HKR.out, HR.out, rfl⟩

set_option maxHeartbeats 1000000 in
theorem rsum_any (A : Option Addr) (c : Nat) (l : List Nat) (m : Nat) (w : World) (hl : l.length = m) (fl : FS w w.heap.size A l) (hm : m ≤ 9223372036854775807) :
    Calls Tryz.prog 38 #[.slice A m c] w (Num w (sumK 0 l)) := by
  have Hl := Lib.hid hl
  have Fl := Lib.hid fl
  clear hl fl
  go_enter Tryz.func38, Tryz.ntmps38
  go_wp2_with fail
  go_loopg [3, 4] m (fun g s3 s8 wx => ∃ i s n : Nat, i + g = m ∧ s8 = .int .i64 i ∧ s3 = .float .f64 s ∧ key s = sumK 0 (l.take i) ∧ s < 18446744073709551616 ∧ wx = w.drewN n)
  case atStart => exact ⟨0, 0, 0, by omega, rfl, rfl, key_zero, by decide, rfl⟩
  case round =>
    obtain ⟨i, s, n, hig, rfl, rfl, hk, hs, rfl⟩ := hrel
    have HK := Lib.hid hk
    have HS := Lib.hid hs
    clear hk hs
    cases gk with
    | zero =>
      have hiz : ¬ ((i : Int) < (m : Int)) := by omega
      have HK' := Lib.hid (show key s = sumK 0 l by rw [HK.out, show i = m by omega, ← Hl.out, List.take_length])
      go_wp2_with fail
      go_ret
      exact ⟨s, n, rfl, rfl, HK'.out, HS.out⟩
    | succ g =>
      have hiz : (i : Int) < (m : Int) := by omega
      obtain ⟨b, o, x, rfl, hb, hx64, hx, hcell⟩ := FS.at_ (k := i) Fl.out (by rw [Hl.out]; omega)
      have hc : (w.drewN n).cell? ⟨b, o + i, none⟩ = some (.float .f64 x) := hcell
      obtain ⟨r, q, hrun, hkr, hr⟩ := run_add 33 s x (w.drewN n)
      have HKR := Lib.hid (show key r = sumK 0 (l.take (i + 1)) by rw [hkr]; exact sumK_next hx hx64 HS.out HK.out)
      have HR := Lib.hid hr
      clear hx hx64 hcell hkr hr hb
      go_wp2_with fail
      go_roundg g
      case measure => omega
      case rel => exact ⟨i + 1, r, n + q, by omega, by go_num, rfl, HKR.out, HR.out, rfl⟩

/-- The mean's key. -/
noncomputable def meanK (l : List Nat) : Int := keyOp (Ieee.double.div (pick (sumK 0 l)) (floatOfInt .f64 l.length))
theorem mean_key {l : List Nat} {r : Nat} (hr : r < 18446744073709551616) (hk : key r = sumK 0 l) : keyOp (Ieee.double.div r (floatOfInt .f64 l.length)) = meanK l := by
  unfold meanK
  have hp := pick_spec hr
  rw [hk] at hp
  exact div_key hr hp.1 (hk.trans hp.2.symm)

theorem mean_any (A : Option Addr) (c : Nat) (l : List Nat) (m : Nat) (w : World) (hl : l.length = m) (fl : FS w w.heap.size A l) (hm : m ≤ 9223372036854775807) :
    Calls Tryz.prog 23 #[.slice A m c] w (Num w (meanK l)) := by
  have CS := Lib.hid (sum_any A c l m w hl fl hm)
  have Hl := Lib.hid hl
  unfold Num at CS
  clear hl fl
  go_enter Tryz.func23, Tryz.ntmps23
  go_wp2_with fail
  refine CS.out.mono ?_; rintro e w' ⟨r, n, rfl, rfl, hk, hr⟩
  obtain ⟨q, d, hrun, hkq, hq⟩ := run_quo 33 r (floatOfInt .f64 m) (w.drewN n)
  have HK := Lib.hid (show key q = meanK l by rw [hkq, ← Hl.out]; exact mean_key hr hk)
  have HQ := Lib.hid hq
  clear hk hr hkq hq
  go_wp2_with fail
  go_ret
  exact ⟨q, n + d, rfl, rfl, HK.out, HQ.out⟩
theorem mean_nil : meanK [] = -18446744073709551616 := by
  rw [← mean_key (l := []) (r := 0) (by decide) key_zero]
  decide +kernel
theorem key_nanf : key 9221120237041090561 = -18446744073709551616 := by decide +kernel
theorem rmean_any (A : Option Addr) (c : Nat) (l : List Nat) (m : Nat) (w : World) (hl : l.length = m) (fl : FS w w.heap.size A l) (hm : m ≤ 9223372036854775807) :
    Calls Tryz.prog 26 #[.slice A m c] w (Num w (meanK l)) := by
  have CS := Lib.hid (rsum_any A c l m w hl fl hm)
  have Hl := Lib.hid hl
  unfold Num at CS
  clear hl fl
  cases hm0 : ((m : Int) == 0)
  · go_enter Tryz.func26, Tryz.ntmps26
    go_wp2_with fail
    refine CS.out.mono ?_; rintro e w' ⟨r, n, rfl, rfl, hk, hr⟩
    obtain ⟨q, d, hrun, hkq, hq⟩ := run_quo 33 r (floatOfInt .f64 m) (w.drewN n)
    have HK := Lib.hid (show key q = meanK l by rw [hkq, ← Hl.out]; exact mean_key hr hk)
    have HQ := Lib.hid hq
    clear hk hr hkq hq
    go_wp2_with fail
    go_ret
    exact ⟨q, n + d, rfl, rfl, HK.out, HQ.out⟩
  · have HM := Lib.hid (show meanK l = -18446744073709551616 by
      have h0 : m = 0 := by simpa using hm0
      have : l = [] := List.eq_nil_of_length_eq_zero (by rw [Hl.out, h0])
      rw [this, mean_nil])
    go_enter Tryz.func26, Tryz.ntmps26
    go_wp2_with fail
    refine (mnan _).mono ?_; rintro e w' ⟨rfl, rfl⟩
    go_wp2_with fail
    go_ret
    exact ⟨_, 0, rfl, rfl, by rw [HM.out]; exact key_nanf, by decide⟩

theorem ratio_num (a b : Int) (w : World) : Calls Tryz.prog 15 #[.int .i64 a, .int .i64 b] w (Num w (rkey a b)) := ratio_any a b w
theorem rkey_none : rkey 0 0 = -18446744073709551616 := by decide +kernel
theorem rratio_any (a b : Int) (w : World) : Calls Tryz.prog 16 #[.int .i64 a, .int .i64 b] w (Num w (rkey a b)) := by
  by_cases hb : b = 0
  · subst hb
    by_cases h1 : 0 < a
    · have HK := Lib.hid (rkey_pos a h1)
      go_enter Tryz.func16, Tryz.ntmps16
      go_wp2_with fail
      refine (minf1 _).mono ?_; rintro e w' ⟨rfl, rfl⟩
      go_wp2_with fail
      go_ret
      exact ⟨_, 0, rfl, rfl, HK.out.symm, by decide⟩
    · by_cases h2 : a < 0
      · have HK := Lib.hid (rkey_neg a h2)
        go_enter Tryz.func16, Tryz.ntmps16
        go_wp2_with fail
        refine (minf2 _).mono ?_; rintro e w' ⟨rfl, rfl⟩
        go_wp2_with fail
        go_ret
        exact ⟨_, 0, rfl, rfl, HK.out.symm, by decide⟩
      · obtain rfl : a = 0 := by omega
        go_enter Tryz.func16, Tryz.ntmps16
        go_wp2_with fail
        refine (mnan _).mono ?_; rintro e w' ⟨rfl, rfl⟩
        go_wp2_with fail
        go_ret
        exact ⟨_, 0, rfl, rfl, by rw [rkey_none]; exact key_nanf, by decide⟩
  · have hb0 : (b == 0) = false := by simpa using hb
    have hb1 : (b != 0) = true := by simpa using hb
    obtain ⟨q, d, hrun, hkq, hq⟩ := run_quo 33 (floatOfInt .f64 a) (floatOfInt .f64 b) w
    have HK := Lib.hid hkq
    have HQ := Lib.hid hq
    clear hkq hq hb
    go_enter Tryz.func16, Tryz.ntmps16
    go_wp2_with fail
    go_ret
    exact ⟨q, d, rfl, rfl, HK.out, HQ.out⟩
end Go.Proofs.YtkhoaaoddpjnpaaGreatDoor.SumMean
