/- Ranks, clamps, the reference's order and its sameness, walked. -/
import Derived.Test.YtkhoaaoddpjnpaaDoorExt
import Derived.Test.YtkhoaaoddpjnpaaDoorSortPlain
namespace Go.Proofs.YtkhoaaoddpjnpaaDoor.Rank
open Go Go.RowKit Go.Proofs.YtkhoaaoddpjnpaaDoor Go.Proofs.YtkhoaaoddpjnpaaDoor.Flt Go.Proofs.YtkhoaaoddpjnpaaDoor.Cmp Go.Proofs.YtkhoaaoddpjnpaaDoor.Mem Go.Proofs.YtkhoaaoddpjnpaaDoor.Ext

/-- How many of the first k are ahead of x. -/
def rk (x : Nat) (l : List Nat) (k : Nat) : Int := ((l.take k).filter fun y => decide (key y < key x)).length
theorem rk_zero (x : Nat) (l : List Nat) : rk x l 0 = 0 := rfl
theorem rk_succ (x : Nat) (l : List Nat) (k y : Nat) (h : l[k]? = some y) : rk x l (k + 1) = rk x l k + (if key y < key x then 1 else 0) := by
  obtain ⟨hk, rfl⟩ := List.getElem?_eq_some_iff.1 h
  unfold rk
  rw [List.take_succ_eq_append_getElem hk, List.filter_append, List.length_append]
  by_cases e : key l[k] < key x
  · rw [if_pos e, List.filter_cons_of_pos (by simp [e])]; simp
  · rw [if_neg e, List.filter_cons_of_neg (by simp [e])]; simp
theorem rk_range (x : Nat) (l : List Nat) (k : Nat) : 0 ≤ rk x l k ∧ rk x l k ≤ k := by
  unfold rk
  have h1 := List.length_filter_le (fun y => decide (key y < key x)) (l.take k)
  have h2 := List.length_take_le k l
  omega
theorem rk_mono (x y : Nat) (l : List Nat) (h : key x ≤ key y) : ∀ k, k ≤ l.length → rk x l k ≤ rk y l k
  | 0, _ => Int.le_refl _
  | k + 1, hk => by
    have ih := rk_mono x y l h k (by omega)
    have hx := List.getElem?_eq_getElem (l := l) (i := k) (by omega)
    rw [rk_succ x l k _ hx, rk_succ y l k _ hx]
    split <;> split <;> omega
theorem rk_at (x : Nat) (l : List Nat) (f : Nat) (h1 : ∀ j y, j < f → l[j]? = some y → key y < key x) (h2 : ∀ j y, f ≤ j → l[j]? = some y → key x ≤ key y) :
    ∀ k, k ≤ l.length → rk x l k = (min k f : Nat)
  | 0, _ => by rw [rk_zero, Nat.zero_min]; rfl
  | k + 1, hk => by
    have ih := rk_at x l f h1 h2 k (by omega)
    have hx := List.getElem?_eq_getElem (l := l) (i := k) (by omega)
    rw [rk_succ x l k _ hx, ih]
    by_cases hf : k < f
    · rw [if_pos (h1 k _ hf hx)]; omega
    · have := h2 k _ (by omega) hx
      rw [if_neg (by omega)]; omega

set_option maxHeartbeats 1000000 in
theorem rank_any (A : Option Addr) (c : Nat) (l : List Nat) (m x : Nat) (w : World) (hl : l.length = m) (fl : FS w w.heap.size A l) (hx : x < 18446744073709551616) (hm : m ≤ 100000) :
    Calls Tryd.prog 48 #[.slice A m c, .float .f64 x] w fun e w' => e = .returned (.int .i64 (rk x l m)) ∧ w = w' := by
  have Hl := Lib.hid hl
  have Fl := Lib.hid fl
  have Hx64 := Lib.hid hx
  clear hl fl hx
  go_enter Tryd.func48, Tryd.ntmps48
  go_wp2_with fail
  go_loopg [5, 10] m (fun g s5 s10 wx => ∃ (i : Nat) (v : Int), i + g = m ∧ s10 = .int .i64 i ∧ s5 = .int .i64 v ∧ v = rk x l i ∧ w = wx)
  case atStart => exact ⟨0, 0, by omega, rfl, rfl, (rk_zero _ _).symm, rfl⟩
  case round =>
    obtain ⟨i, v, hig, rfl, rfl, hv, rfl⟩ := hrel
    have hv2 := rk_range x l i
    have hv0 : 0 ≤ v := by omega
    have hv1 : v ≤ 100000 := by omega
    clear hv2
    cases gk with
    | zero =>
      have hiz : ¬ ((i : Int) < (m : Int)) := by omega
      have HV := Lib.hid (hv.trans (by rw [show i = m by omega] : rk x l i = rk x l m))
      clear hv
      go_wp2_with fail
      go_ret
      exact ⟨ret_int HV.out, rfl⟩
    | succ g =>
      have hiz : (i : Int) < (m : Int) := by omega
      obtain ⟨b, o, y, rfl, hb, hy64, hy, hcy⟩ := Fl.out.at_ (k := i) (by rw [Hl.out]; omega)
      have Hs := Lib.hid (rk_succ x l i y hy)
      have HV := Lib.hid hv
      have Cm := Lib.hid (compare_any y x hy64 Hx64.out)
      clear hy hv hy64
      by_cases hc : cmpF y x < 0
      · have HC := Lib.hid ((cmpF_lt y x).1 hc)
        go_wp2_with (go_at_call 41; with_reducible refine (Cm.out _).mono ?_; rintro e w' ⟨rfl, rfl⟩)
        go_roundg g
        case measure => omega
        case rel => exact ⟨i + 1, v + 1, by omega, by go_num, by go_num, by rw [Hs.out, if_pos HC.out, HV.out], rfl⟩
      · have HC := Lib.hid (show ¬ key y < key x from fun h => hc ((cmpF_lt y x).2 h))
        go_wp2_with (go_at_call 41; with_reducible refine (Cm.out _).mono ?_; rintro e w' ⟨rfl, rfl⟩)
        go_roundg g
        case measure => omega
        case rel => exact ⟨i + 1, v, by omega, by go_num, by go_num, by rw [Hs.out, if_neg (by have := HC.out; omega), HV.out]; omega, rfl⟩

set_option maxHeartbeats 1000000 in
theorem rrank_any (A : Option Addr) (c : Nat) (l : List Nat) (m x : Nat) (w : World) (hl : l.length = m) (fl : FS w w.heap.size A l) (hx : x < 18446744073709551616) (hm : m ≤ 100000) :
    Calls Tryd.prog 49 #[.slice A m c, .float .f64 x] w fun e w' => e = .returned (.int .i64 (rk x l m)) ∧ w = w' := by
  have Hl := Lib.hid hl
  have Fl := Lib.hid fl
  have Hx64 := Lib.hid hx
  clear hl fl hx
  go_enter Tryd.func49, Tryd.ntmps49
  go_wp2_with fail
  go_loopg [5, 6] m (fun g s5 s6 wx => ∃ (i : Nat) (v : Int), i + g = m ∧ s6 = .int .i64 i ∧ s5 = .int .i64 v ∧ v = rk x l i ∧ w = wx)
  case atStart => exact ⟨0, 0, by omega, rfl, rfl, (rk_zero _ _).symm, rfl⟩
  case round =>
    obtain ⟨i, v, hig, rfl, rfl, hv, rfl⟩ := hrel
    have hv2 := rk_range x l i
    have hv0 : 0 ≤ v := by omega
    have hv1 : v ≤ 100000 := by omega
    clear hv2
    cases gk with
    | zero =>
      have hiz : ¬ ((i : Int) < (m : Int)) := by omega
      have HV := Lib.hid (hv.trans (by rw [show i = m by omega] : rk x l i = rk x l m))
      clear hv
      go_wp2_with fail
      go_ret
      exact ⟨ret_int HV.out, rfl⟩
    | succ g =>
      have hiz : (i : Int) < (m : Int) := by omega
      obtain ⟨b, o, y, rfl, hb, hy64, hy, hcy⟩ := Fl.out.at_ (k := i) (by rw [Hl.out]; omega)
      have Hs := Lib.hid (rk_succ x l i y hy)
      have HV := Lib.hid hv
      have Cm := Lib.hid (ahead_any y x hy64 Hx64.out)
      clear hy hv hy64
      by_cases hc : key y < key x
      · have HC := Lib.hid hc
        have ha : ahd y x = true := decide_eq_true hc
        go_wp2_with (go_at_call 37; with_reducible refine (Cm.out _).mono ?_; rintro e w' ⟨rfl, rfl⟩)
        go_roundg g
        case measure => omega
        case rel => exact ⟨i + 1, v + 1, by omega, by go_num, by go_num, by rw [Hs.out, if_pos HC.out, HV.out], rfl⟩
      · have HC := Lib.hid hc
        have ha : ahd y x = false := decide_eq_false hc
        go_wp2_with (go_at_call 37; with_reducible refine (Cm.out _).mono ?_; rintro e w' ⟨rfl, rfl⟩)
        go_roundg g
        case measure => omega
        case rel => exact ⟨i + 1, v, by omega, by go_num, by go_num, by rw [Hs.out, if_neg (by have := HC.out; omega), HV.out]; omega, rfl⟩

/-- What is clamped. -/
def clampF (x lo hi : Nat) : Nat := if key hi < key lo ∨ key x < key lo then lo else if key hi < key x then hi else x

theorem clamp_any (x lo hi : Nat) (hx : x < 18446744073709551616) (hlo : lo < 18446744073709551616) (hhi : hi < 18446744073709551616) (w : World) :
    Calls Tryd.prog 22 #[.float .f64 x, .float .f64 lo, .float .f64 hi] w fun e w' => e = .returned (.float .f64 (clampF x lo hi)) ∧ w = w' := by
  have C1 := Lib.hid (compare_any hi lo hhi hlo)
  have C2 := Lib.hid (compare_any x lo hx hlo)
  have C3 := Lib.hid (compare_any x hi hx hhi)
  clear hx hlo hhi
  obtain ⟨r, hr⟩ : ∃ r, clampF x lo hi = r := ⟨_, rfl⟩
  rw [hr]
  unfold clampF at hr
  by_cases h1 : key hi < key lo
  · have d1 := (cmpF_lt hi lo).2 h1
    rw [if_pos (.inl h1)] at hr
    subst hr
    clear h1
    go_enter Tryd.func22, Tryd.ntmps22
    go_wp2_with (go_at_call 41; with_reducible refine (C1.out _).mono ?_; rintro e w' ⟨rfl, rfl⟩)
    go_ret
    exact ⟨rfl, rfl⟩
  · have d1 : ¬ cmpF hi lo < 0 := fun h => h1 ((cmpF_lt hi lo).1 h)
    by_cases h2 : key x < key lo
    · have d2 := (cmpF_lt x lo).2 h2
      rw [if_pos (.inr h2)] at hr
      subst hr
      clear h1 h2
      go_enter Tryd.func22, Tryd.ntmps22
      go_wp2_with (go_at_call 41; first | (with_reducible refine (C1.out _).mono ?_; rintro e w' ⟨rfl, rfl⟩) | (with_reducible refine (C2.out _).mono ?_; rintro e w' ⟨rfl, rfl⟩))
      go_ret
      exact ⟨rfl, rfl⟩
    · have d2 : ¬ cmpF x lo < 0 := fun h => h2 ((cmpF_lt x lo).1 h)
      rw [if_neg (by rintro (h | h) <;> contradiction)] at hr
      by_cases h3 : key hi < key x
      · have d3 := (cmpF_gt x hi).2 h3
        rw [if_pos h3] at hr
        subst hr
        clear h1 h2 h3
        go_enter Tryd.func22, Tryd.ntmps22
        go_wp2_with (go_at_call 41; first | (with_reducible refine (C1.out _).mono ?_; rintro e w' ⟨rfl, rfl⟩) | (with_reducible refine (C2.out _).mono ?_; rintro e w' ⟨rfl, rfl⟩) | (with_reducible refine (C3.out _).mono ?_; rintro e w' ⟨rfl, rfl⟩))
        go_ret
        exact ⟨rfl, rfl⟩
      · have d3 : ¬ 0 < cmpF x hi := fun h => h3 ((cmpF_gt x hi).1 h)
        rw [if_neg h3] at hr
        subst hr
        clear h1 h2 h3
        go_enter Tryd.func22, Tryd.ntmps22
        go_wp2_with (go_at_call 41; first | (with_reducible refine (C1.out _).mono ?_; rintro e w' ⟨rfl, rfl⟩) | (with_reducible refine (C2.out _).mono ?_; rintro e w' ⟨rfl, rfl⟩) | (with_reducible refine (C3.out _).mono ?_; rintro e w' ⟨rfl, rfl⟩))
        go_ret
        exact ⟨rfl, rfl⟩

theorem rcompare_any (a b : Nat) (ha : a < 18446744073709551616) (hb : b < 18446744073709551616) (w : World) :
    Calls Tryd.prog 47 #[.float .f64 a, .float .f64 b] w fun e w' => e = .returned (.int .i64 (cmpF a b)) ∧ w = w' := by
  have C1 := Lib.hid (ahead_any a b ha hb)
  have C2 := Lib.hid (ahead_any b a hb ha)
  clear ha hb
  obtain ⟨r, hr⟩ : ∃ r, cmpF a b = r := ⟨_, rfl⟩
  rw [hr]
  unfold cmpF at hr
  unfold ahd at C1 C2
  by_cases h1 : key a < key b
  · rw [if_pos h1] at hr
    subst hr
    rw [decide_eq_true h1] at C1
    clear h1
    go_enter Tryd.func47, Tryd.ntmps47
    go_wp2_with (go_at_call 37; with_reducible refine (C1.out _).mono ?_; rintro e w' ⟨rfl, rfl⟩)
    go_ret
    exact ⟨rfl, rfl⟩
  · rw [if_neg h1] at hr
    rw [decide_eq_false h1] at C1
    clear h1
    by_cases h2 : key b < key a
    · rw [if_pos h2] at hr
      subst hr
      rw [decide_eq_true h2] at C2
      clear h2
      go_enter Tryd.func47, Tryd.ntmps47
      go_wp2_with fail
      with_reducible refine (C1.out _).mono ?_; rintro e w' ⟨rfl, rfl⟩
      go_wp2_with fail
      with_reducible refine (C2.out _).mono ?_; rintro e w' ⟨rfl, rfl⟩
      go_wp2_with fail
      go_ret
      exact ⟨rfl, rfl⟩
    · rw [if_neg h2] at hr
      subst hr
      rw [decide_eq_false h2] at C2
      clear h2
      go_enter Tryd.func47, Tryd.ntmps47
      go_wp2_with fail
      with_reducible refine (C1.out _).mono ?_; rintro e w' ⟨rfl, rfl⟩
      go_wp2_with fail
      with_reducible refine (C2.out _).mono ?_; rintro e w' ⟨rfl, rfl⟩
      go_wp2_with fail
      go_ret
      exact ⟨rfl, rfl⟩

theorem bits_ne {x z : Nat} (h : ¬ x = z) : (((x : Int) == (z : Int)) : Bool) = false := by
  rw [Bool.eq_false_iff]
  simp only [ne_eq, beq_iff_eq]
  omega

/-- Numbers with one key are the same. -/
theorem same_any (a b : Nat) (ha : a < 18446744073709551616) (hb : b < 18446744073709551616) (hk : key a = key b) (w : World) :
    Calls Tryd.prog 15 #[.float .f64 a, .float .f64 b] w fun e w' => e = .returned (.bool true) ∧ w = w' := by
  by_cases e : a = b
  · subst e
    have f1 := run_f64bits a
    clear ha hb hk
    go_enter Tryd.func15, Tryd.ntmps15
    go_wp2_with fail
    go_ret
    exact ⟨rfl, rfl⟩
  · have e1 := bits_ne e
    obtain ⟨h1, h2⟩ := (key_inj a b ha hb hk).resolve_left e
    have C1 := Lib.hid (none_any a)
    have C2 := Lib.hid (none_any b)
    rw [h1] at C1
    rw [h2] at C2
    have f1 := run_f64bits a
    have f2 := run_f64bits b
    clear ha hb hk h1 h2 e
    go_enter Tryd.func15, Tryd.ntmps15
    go_wp2_with fail
    with_reducible refine (C1.out _).mono ?_; rintro e w' ⟨rfl, rfl⟩
    go_wp2_with fail
    with_reducible refine (C2.out _).mono ?_; rintro e w' ⟨rfl, rfl⟩
    go_wp2_with fail
    go_ret
    exact ⟨rfl, rfl⟩
end Go.Proofs.YtkhoaaoddpjnpaaDoor.Rank
