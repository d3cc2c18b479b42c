/- The reference's rank, walked. -/
import Derived.Test.YtkhoaaoddpjnpaaGreatDoorExt
namespace Go.Proofs.YtkhoaaoddpjnpaaGreatDoor.Rank
open Go Go.RowKit Go.Proofs.YtkhoaaoddpjnpaaGreatDoor Go.Proofs.YtkhoaaoddpjnpaaGreatDoor.Flt Go.Proofs.YtkhoaaoddpjnpaaGreatDoor.Cmp Go.Proofs.YtkhoaaoddpjnpaaGreatDoor.Mem Go.Proofs.YtkhoaaoddpjnpaaGreatDoor.Ext

/-- How many of the first k are ahead of x. -/
def rk (x : Nat) (l : List Nat) (k : Nat) : Int := ((l.take k).filter fun y => decide (key y < key x)).length
theorem rk_zero (x : Nat) (l : List Nat) : rk x l 0 = 0 := rfl
theorem rk_succ (x : Nat) (l : List Nat) (k y : Nat) (h : l[k]? = some y) : rk x l (k + 1) = rk x l k + (if key y < key x then 1 else 0) := by
  obtain ⟨hk, rfl⟩ := List.getElem?_eq_some_iff.1 h
  unfold rk
  rw [List.take_succ_eq_append_getElem hk, List.filter_append, List.length_append]
  by_cases e : key l[k] < key x
  · rw [if_pos e, List.filter_cons_of_pos (by simp [e])]; simp
  · rw [if_neg e, List.filter_cons_of_neg (by simp [e])]; simp
theorem rk_range (x : Nat) (l : List Nat) (k : Nat) : 0 ≤ rk x l k ∧ rk x l k ≤ k := by
  unfold rk
  have h1 := List.length_filter_le (fun y => decide (key y < key x)) (l.take k)
  have h2 := List.length_take_le k l
  omega
theorem rk_mono (x y : Nat) (l : List Nat) (h : key x ≤ key y) : ∀ k, k ≤ l.length → rk x l k ≤ rk y l k
  | 0, _ => Int.le_refl _
  | k + 1, hk => by
    have ih := rk_mono x y l h k (by omega)
    have hx := List.getElem?_eq_getElem (l := l) (i := k) (by omega)
    rw [rk_succ x l k _ hx, rk_succ y l k _ hx]
    split <;> split <;> omega
theorem rk_at (x : Nat) (l : List Nat) (f : Nat) (h1 : ∀ j y, j < f → l[j]? = some y → key y < key x) (h2 : ∀ j y, f ≤ j → l[j]? = some y → key x ≤ key y) :
    ∀ k, k ≤ l.length → rk x l k = (min k f : Nat)
  | 0, _ => by rw [rk_zero, Nat.zero_min]; rfl
  | k + 1, hk => by
    have ih := rk_at x l f h1 h2 k (by omega)
    have hx := List.getElem?_eq_getElem (l := l) (i := k) (by omega)
    rw [rk_succ x l k _ hx, ih]
    by_cases hf : k < f
    · rw [if_pos (h1 k _ hf hx)]; omega
    · have := h2 k _ (by omega) hx
      rw [if_neg (by omega)]; omega

set_option maxHeartbeats 1000000 in
theorem rrank_any (A : Option Addr) (c : Nat) (l : List Nat) (m x : Nat) (w : World) (hl : l.length = m) (fl : FS w w.heap.size A l) (hx : x < 18446744073709551616) (hm : m ≤ 140737488355328) :
    Calls Tryz.prog 37 #[.slice A m c, .float .f64 x] w fun e w' => e = .returned (.int .i64 (rk x l m)) ∧ w = w' := by
  have Hl := Lib.hid hl
  have Fl := Lib.hid fl
  have Hx64 := Lib.hid hx
  clear hl fl hx
  go_enter Tryz.func37, Tryz.ntmps37
  go_wp2_with fail
  go_loopg [5, 6] m (fun g s5 s6 wx => ∃ (i : Nat) (v : Int), i + g = m ∧ s6 = .int .i64 i ∧ s5 = .int .i64 v ∧ v = rk x l i ∧ w = wx)
  case atStart => exact ⟨0, 0, by omega, rfl, rfl, (rk_zero _ _).symm, rfl⟩
  case round =>
    obtain ⟨i, v, hig, rfl, rfl, hv, rfl⟩ := hrel
    have hv2 := rk_range x l i
    have hv0 : 0 ≤ v := by omega
    have hv1 : v ≤ 140737488355328 := by omega
    clear hv2
    cases gk with
    | zero =>
      have hiz : ¬ ((i : Int) < (m : Int)) := by omega
      have HV := Lib.hid (hv.trans (by rw [show i = m by omega] : rk x l i = rk x l m))
      clear hv
      go_wp2_with fail
      go_ret
      exact ⟨ret_int HV.out, rfl⟩
    | succ g =>
      have hiz : (i : Int) < (m : Int) := by omega
      obtain ⟨b, o, y, rfl, hb, hy64, hy, hcy⟩ := Fl.out.at_ (k := i) (by rw [Hl.out]; omega)
      have Hs := Lib.hid (rk_succ x l i y hy)
      have HV := Lib.hid hv
      have Cm := Lib.hid (ahead_any y x hy64 Hx64.out)
      clear hy hv hy64
      by_cases hc : key y < key x
      · have HC := Lib.hid hc
        have ha : ahd y x = true := decide_eq_true hc
        go_wp2_with (go_at_call 20; with_reducible refine (Cm.out _).mono ?_; rintro e w' ⟨rfl, rfl⟩)
        go_roundg g
        case measure => omega
        case rel => exact ⟨i + 1, v + 1, by omega, by go_num, by go_num, by rw [Hs.out, if_pos HC.out, HV.out], rfl⟩
      · have HC := Lib.hid hc
        have ha : ahd y x = false := decide_eq_false hc
        go_wp2_with (go_at_call 20; with_reducible refine (Cm.out _).mono ?_; rintro e w' ⟨rfl, rfl⟩)
        go_roundg g
        case measure => omega
        case rel => exact ⟨i + 1, v, by omega, by go_num, by go_num, by rw [Hs.out, if_neg (by have := HC.out; omega), HV.out]; omega, rfl⟩

end Go.Proofs.YtkhoaaoddpjnpaaGreatDoor.Rank
