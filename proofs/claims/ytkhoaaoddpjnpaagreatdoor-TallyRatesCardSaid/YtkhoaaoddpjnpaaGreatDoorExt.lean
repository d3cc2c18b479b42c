/- gauge.Least, gauge.Greatest, walked: the first number that no other one is beyond. -/
import Derived.Test.YtkhoaaoddpjnpaaGreatDoorCmp
import Derived.Test.YtkhoaaoddpjnpaaGreatDoorMem
import Derived.Deep.LoopGhost
namespace Go.Proofs.YtkhoaaoddpjnpaaGreatDoor.Ext
open Go Go.RowKit Go.Proofs.YtkhoaaoddpjnpaaGreatDoor Go.Proofs.YtkhoaaoddpjnpaaGreatDoor.Flt Go.Proofs.YtkhoaaoddpjnpaaGreatDoor.Cmp Go.Proofs.YtkhoaaoddpjnpaaGreatDoor.Mem

def pick (beyond : Int) (b : Option Nat) (x : Nat) : Option Nat := match b with
  | none => some x
  | some y => if cmpF x y = beyond then some x else some y
/-- The extreme number of a list. -/
def ext (beyond : Int) (l : List Nat) : Option Nat := l.foldl (pick beyond) none

theorem ext_take (beyond : Int) (l : List Nat) (i x : Nat) (h : l[i]? = some x) : ext beyond (l.take (i + 1)) = pick beyond (ext beyond (l.take i)) x := by
  have hi : i < l.length := by
    rcases Nat.lt_or_ge i l.length with hl | hl
    · exact hl
    · rw [List.getElem?_eq_none hl] at h; cases h
  rw [List.getElem?_eq_getElem hi] at h
  cases h
  unfold ext
  rw [List.take_succ_eq_append_getElem hi, List.foldl_append]
  rfl
theorem ext_mem (beyond : Int) (l : List Nat) (y : Nat) (h : ext beyond l = some y) : y ∈ l := by
  have key : ∀ (r : List Nat) (b : Option Nat), r.foldl (pick beyond) b = some y → b = some y ∨ y ∈ r := by
    intro r
    induction r with
    | nil => intro b h; exact .inl h
    | cons x r ih =>
      intro b h
      rcases ih _ h with h1 | h1
      · cases b with
        | none => simp [pick] at h1; exact .inr (by simp [h1])
        | some z =>
          simp only [pick] at h1
          split at h1
          · cases h1; exact .inr (by simp)
          · exact .inl h1
      · exact .inr (by simp [h1])
  rcases key l none h with h1 | h1
  · cases h1
  · exact h1

def outOf (b : Option Nat) : Value := .tuple #[.float .f64 (b.getD 0), .bool b.isSome]

set_option maxHeartbeats 1000000 in
theorem extreme_any (A : Option Addr) (c : Nat) (l : List Nat) (m : Nat) (beyond : Int) (w : World) (hl : l.length = m) (fl : FS w w.heap.size A l) (hm : m ≤ 9223372036854775807) :
    Calls Tryz.prog 35 #[.slice A m c, .int .i64 beyond] w fun e w' => e = .returned (outOf (ext beyond l)) ∧ w = w' := by
  have Hl := Lib.hid hl
  have Fl := Lib.hid fl
  clear hl fl
  go_enter Tryz.func35, Tryz.ntmps35
  go_wp2_with fail
  go_loopg [6, 7, 12] m (fun g s6 s7 s12 wx => ∃ i : Nat, i + g = m ∧ s12 = .int .i64 i ∧ s6 = .float .f64 ((ext beyond (l.take i)).getD 0) ∧ s7 = .bool (ext beyond (l.take i)).isSome ∧ wx = w)
  case atStart => exact ⟨0, by omega, rfl, rfl, rfl, rfl⟩
  case round =>
    obtain ⟨i, hig, rfl, rfl, rfl, rfl⟩ := hrel
    cases gk with
    | zero =>
      have hiz : ¬ ((i : Int) < (m : Int)) := by omega
      obtain ⟨b, hb⟩ : ∃ b, ext beyond (l.take i) = b := ⟨_, rfl⟩
      have HB : Hid (ext beyond l = b) := by
        have h := hb
        rw [List.take_of_length_le (by rw [Hl.out]; omega)] at h
        exact h
      rw [hb]
      clear hb
      go_wp2_with fail
      go_ret2
      exact ⟨by rw [HB.out]; rfl, rfl⟩
    | succ g =>
      have hiz : (i : Int) < (m : Int) := by omega
      obtain ⟨b, o, x, rfl, hb, hx64, hx, hcx⟩ := Fl.out.at_ (k := i) (by rw [Hl.out]; omega)
      have Hx := Lib.hid (ext_take beyond l i x hx)
      clear hx
      cases hy : ext beyond (l.take i) with
      | none =>
        rw [hy] at Hx
        clear hy
        simp only [Option.getD_none, Option.isSome_none]
        go_wp2_with fail
        go_roundg g
        case measure => omega
        case rel => exact ⟨i + 1, by omega, by go_num, by rw [Hx.out]; rfl, by rw [Hx.out]; rfl, rfl⟩
      | some y =>
        have hy64 : y < 18446744073709551616 := Fl.out.1 y (List.mem_of_mem_take (ext_mem beyond _ y hy))
        have Cm := Lib.hid (compare_any x y hx64 hy64)
        rw [hy] at Hx
        clear hy hx64 hy64
        simp only [Option.getD_some, Option.isSome_some]
        by_cases hc : cmpF x y = beyond
        · have hc' : (cmpF x y == beyond) = true := by simp [hc]
          have HC := Lib.hid hc
          clear hc
          go_wp2_with (go_at_call 19; with_reducible refine (Cm.out _).mono ?_; rintro e w' ⟨rfl, rfl⟩)
          go_roundg g
          case measure => omega
          case rel => exact ⟨i + 1, by omega, by go_num, by rw [Hx.out, pick, if_pos HC.out]; rfl, by rw [Hx.out, pick, if_pos HC.out]; rfl, rfl⟩
        · have hc' : (cmpF x y == beyond) = false := by simp [hc]
          have HC := Lib.hid hc
          clear hc
          go_wp2_with (go_at_call 19; with_reducible refine (Cm.out _).mono ?_; rintro e w' ⟨rfl, rfl⟩)
          go_roundg g
          case measure => omega
          case rel => exact ⟨i + 1, by omega, by go_num, by rw [Hx.out, pick, if_neg HC.out]; rfl, by rw [Hx.out, pick, if_neg HC.out]; rfl, rfl⟩

theorem greatest_any (A : Option Addr) (c : Nat) (l : List Nat) (m : Nat) (w : World) (hl : l.length = m) (fl : FS w w.heap.size A l) (hm : m ≤ 9223372036854775807) :
    Calls Tryz.prog 22 #[.slice A m c] w fun e w' => e = .returned (outOf (ext 1 l)) ∧ w = w' := by
  have C := Lib.hid (extreme_any A c l m 1 w hl fl hm)
  clear hl fl
  unfold outOf at *
  go_enter Tryz.func22, Tryz.ntmps22
  go_wp2_with (go_at_call 35; with_reducible refine C.out.mono ?_; rintro e w' ⟨rfl, rfl⟩)
  go_ret2
  exact ⟨rfl, rfl⟩
theorem least_any (A : Option Addr) (c : Nat) (l : List Nat) (m : Nat) (w : World) (hl : l.length = m) (fl : FS w w.heap.size A l) (hm : m ≤ 9223372036854775807) :
    Calls Tryz.prog 21 #[.slice A m c] w fun e w' => e = .returned (outOf (ext (-1) l)) ∧ w = w' := by
  have C := Lib.hid (extreme_any A c l m (-1) w hl fl hm)
  clear hl fl
  unfold outOf at *
  go_enter Tryz.func21, Tryz.ntmps21
  go_wp2_with (go_at_call 35; with_reducible refine C.out.mono ?_; rintro e w' ⟨rfl, rfl⟩)
  go_ret2
  exact ⟨rfl, rfl⟩
end Go.Proofs.YtkhoaaoddpjnpaaGreatDoor.Ext
