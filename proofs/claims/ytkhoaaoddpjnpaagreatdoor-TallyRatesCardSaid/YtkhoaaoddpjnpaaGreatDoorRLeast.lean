/- The reference's least and greatest, walked. -/
import Derived.Test.YtkhoaaoddpjnpaaGreatDoorExtPlain
import Derived.Test.YtkhoaaoddpjnpaaGreatDoorRRank
import Derived.Deep.LoopGhost
import Derived.Deep.QuietTactic
import Derived.BigQuiet
import Derived.BigRegion
namespace Go.Proofs.YtkhoaaoddpjnpaaGreatDoor.RefExt
open Go Go.RowKit Go.Proofs.YtkhoaaoddpjnpaaGreatDoor Go.Proofs.YtkhoaaoddpjnpaaGreatDoor.Flt Go.Proofs.YtkhoaaoddpjnpaaGreatDoor.Cmp Go.Proofs.YtkhoaaoddpjnpaaGreatDoor.Mem Go.Proofs.YtkhoaaoddpjnpaaGreatDoor.Ext Go.Proofs.YtkhoaaoddpjnpaaGreatDoor.Rank Go.Proofs.YtkhoaaoddpjnpaaGreatDoor.SortedLaw

/-- b is a number of l of the least key (s = true) or of the greatest, if there is one. -/
def Best (s : Bool) (l : List Nat) (b : Option Nat) : Prop := b.isSome = decide (l ≠ []) ∧ ∀ y, b = some y → y ∈ l ∧ ∀ x ∈ l, if s then key y ≤ key x else key x ≤ key y

theorem ext_none (b : Int) (l : List Nat) (h : ext b l = none) : l = [] := by
  cases l with
  | nil => rfl
  | cons a r =>
    obtain ⟨y, hy⟩ := ext_some b (a :: r) (by simp)
    rw [hy] at h; cases h
theorem best_least (l : List Nat) : Best true l (ext (-1) l) := by
  cases h : ext (-1) l with
  | none => have := ext_none _ _ h; subst this; exact ⟨rfl, fun y hy => by cases hy⟩
  | some y =>
    have hf := first_take l l.length (Nat.le_refl _)
    rw [List.take_length, h] at hf
    have hm := ext_mem _ _ _ h
    refine ⟨by cases l <;> simp_all, fun z hz => ?_⟩
    cases hz
    exact ⟨hm, fun x hx => by simpa using hf.1 x hx⟩
theorem best_greatest (l : List Nat) : Best false l (ext 1 l) := by
  cases h : ext 1 l with
  | none => have := ext_none _ _ h; subst this; exact ⟨rfl, fun y hy => by cases hy⟩
  | some y =>
    have hm := ext_mem _ _ _ h
    refine ⟨by cases l <;> simp_all, fun z hz => ?_⟩
    cases hz
    exact ⟨hm, fun x hx => by simpa using ext_great_le l y h x hx⟩
theorem best_same {s : Bool} {l : List Nat} {b c : Option Nat} (hb : Best s l b) (hc : Best s l c) : b.isSome = c.isSome ∧ key (b.getD 0) = key (c.getD 0) := by
  have h1 : b.isSome = c.isSome := hb.1.trans hc.1.symm
  refine ⟨h1, ?_⟩
  cases b with
  | none => cases c with
    | none => rfl
    | some c => cases h1
  | some b => cases c with
    | none => cases h1
    | some c =>
      obtain ⟨m1, k1⟩ := hb.2 b rfl
      obtain ⟨m2, k2⟩ := hc.2 c rfl
      have a1 := k1 c m2
      have a2 := k2 b m1
      cases s
      · simp at a1 a2; simp; omega
      · simp at a1 a2; simp; omega
theorem best_lt {s : Bool} {l : List Nat} {b : Option Nat} (h : Best s l b) (hl : ∀ x ∈ l, x < 18446744073709551616) : b.getD 0 < 18446744073709551616 := by
  cases b with
  | none => decide
  | some b => exact hl b (h.2 b rfl).1

theorem some_ne {l : List Nat} {i y : Nat} (h : l[i]? = some y) : (some y).isSome = decide (l ≠ []) := by
  cases l with
  | nil => cases h
  | cons a r => rfl

theorem rk_none (x : Nat) (l : List Nat) : rk x l l.length = 0 ↔ ∀ y ∈ l, key x ≤ key y := by
  unfold rk
  rw [List.take_length]
  constructor
  · intro h y hy
    have h0 : (l.filter fun y => decide (key y < key x)) = [] := List.eq_nil_of_length_eq_zero (by omega)
    rw [List.filter_eq_nil_iff] at h0
    have := h0 y hy
    simp at this
    exact this
  · intro h
    have h0 : (l.filter fun y => decide (key y < key x)) = [] := by
      rw [List.filter_eq_nil_iff]
      intro y hy
      have := h y hy
      simp; omega
    rw [h0]; rfl

set_option maxHeartbeats 1000000 in
theorem rleast_any (A : Option Addr) (c : Nat) (l : List Nat) (m : Nat) (w : World) (hl : l.length = m) (fl : FS w w.heap.size A l) (hm : m ≤ 140737488355328) :
    Calls Tryz.prog 24 #[.slice A m c] w fun e w' => (∃ b, e = .returned (outOf b) ∧ Best true l b) ∧ w = w' := by
  have Hl := Lib.hid hl
  have Fl := Lib.hid fl
  clear hl fl
  unfold outOf
  go_enter Tryz.func24, Tryz.ntmps24
  go_wp2_with fail
  go_loopg [4] m (fun g s4 wx => ∃ i : Nat, i + g = m ∧ s4 = .int .i64 i ∧ (∀ j y, j < i → l[j]? = some y → ¬ ∀ z ∈ l, key y ≤ key z) ∧ w = wx)
  case atStart => exact ⟨0, by omega, rfl, fun j y hj => absurd hj (by omega), rfl⟩
  case round =>
    obtain ⟨i, hig, rfl, hall, rfl⟩ := hrel
    have HA := Lib.hid hall
    clear hall
    cases gk with
    | zero =>
      have hiz : ¬ ((i : Int) < (m : Int)) := by omega
      have HN := Lib.hid (show l = [] from by
        cases he : ext (-1) l with
        | none => exact ext_none _ _ he
        | some y =>
          exfalso
          have hb := best_least l
          rw [he] at hb
          obtain ⟨hmem, hle⟩ := hb.2 y rfl
          obtain ⟨j, hj⟩ := List.mem_iff_getElem?.1 hmem
          have hjl := (List.getElem?_eq_some_iff.1 hj).1
          exact HA.out j y (by have := Hl.out; omega) hj (fun z hz => by simpa using hle z hz))
      go_wp2_with fail
      go_ret2
      exact ⟨⟨none, rfl, by rw [HN.out]; exact ⟨rfl, fun y hy => by cases hy⟩⟩, rfl⟩
    | succ g =>
      have hiz : (i : Int) < (m : Int) := by omega
      have F0 := Lib.hid Fl.out
      obtain ⟨b, o, y, rfl, hb, hy64, hy, hcy⟩ := Fl.out.at_ (k := i) (by rw [Hl.out]; omega)
      have Hy := Lib.hid hy
      have Hy64 := Lib.hid hy64
      have R := Lib.hid (rrank_any (some ⟨b, o, none⟩) c l m y w Hl.out F0.out hy64 hm)
      have hk := rk_none y l
      rw [Hl.out] at hk
      clear hy hy64
      by_cases hc : rk y l m = 0
      · have HC := Lib.hid (hk.1 hc)
        clear hk
        go_wp2_with fail
        with_reducible refine R.out.mono ?_; rintro e w' ⟨rfl, rfl⟩
        go_wp2_with fail
        go_ret2
        exact ⟨⟨some y, rfl, some_ne Hy.out, fun z hz => by cases hz; exact ⟨List.mem_of_getElem? Hy.out, fun x hx => by simpa using HC.out x hx⟩⟩, rfl⟩
      · have HC := Lib.hid (fun h => hc (hk.2 h))
        clear hk
        have hc' : (rk y l m == 0) = false := by simpa using hc
        go_wp2_with fail
        with_reducible refine R.out.mono ?_; rintro e w' ⟨rfl, rfl⟩
        go_wp2_with fail
        go_roundg g
        case measure => omega
        case rel => exact ⟨i + 1, by omega, by go_num, fun j z hj hz => by
          rcases Nat.lt_or_ge j i with h | h
          · exact HA.out j z h hz
          · obtain rfl : j = i := by omega
            obtain rfl := Option.some.inj (Hy.out.symm.trans hz)
            exact HC.out, rfl⟩

/-- Is none of the first k ahead? -/
def mst (z : Nat) (l : List Nat) (k : Nat) : Bool := (l.take k).all fun y => decide (key y ≤ key z)
theorem mst_succ (z : Nat) (l : List Nat) (k y : Nat) (h : l[k]? = some y) : mst z l (k + 1) = (mst z l k && decide (key y ≤ key z)) := by
  obtain ⟨hk, rfl⟩ := List.getElem?_eq_some_iff.1 h
  unfold mst
  rw [List.take_succ_eq_append_getElem hk, List.all_append]
  simp

set_option maxHeartbeats 2000000 in
theorem rgreatest_any (A : Option Addr) (c : Nat) (l : List Nat) (m : Nat) (w : World) (hl : l.length = m) (fl : FS w w.heap.size A l) (hm : m ≤ 140737488355328) :
    Calls Tryz.prog 25 #[.slice A m c] w fun e w' => (∃ b, e = .returned (outOf b) ∧ Best false l b) ∧ Below w.heap.size w w' := by
  have Hl := Lib.hid hl
  have Fl := Lib.hid fl
  clear hl fl
  unfold outOf
  go_enter Tryz.func25, Tryz.ntmps25
  go_wp2_with fail
  go_loopg [4] m (fun g s4 wx => ∃ i : Nat, i + g = m ∧ s4 = .int .i64 i ∧ (∀ j y, j < i → l[j]? = some y → ¬ ∀ z ∈ l, key z ≤ key y) ∧ Below w.heap.size w wx)
  case atStart => exact ⟨0, by omega, rfl, fun j y hj => absurd hj (by omega), Below.refl _ _⟩
  case round =>
    obtain ⟨i, hig, rfl, hall, hb⟩ := hrel
    have HA := Lib.hid hall
    clear hall
    cases gk with
    | zero =>
      have hiz : ¬ ((i : Int) < (m : Int)) := by omega
      have HN := Lib.hid (show l = [] from by
        cases he : ext 1 l with
        | none => exact ext_none _ _ he
        | some y =>
          exfalso
          have hb := best_greatest l
          rw [he] at hb
          obtain ⟨hmem, hle⟩ := hb.2 y rfl
          obtain ⟨j, hj⟩ := List.mem_iff_getElem?.1 hmem
          have hjl := (List.getElem?_eq_some_iff.1 hj).1
          exact HA.out j y (by have := Hl.out; omega) hj (fun z hz => by simpa using hle z hz))
      go_wp2_with fail
      go_ret2
      exact ⟨⟨none, rfl, by rw [HN.out]; exact ⟨rfl, fun y hy => by cases hy⟩⟩, hb⟩
    | succ g =>
      have hiz : (i : Int) < (m : Int) := by omega
      obtain ⟨bl, ol, rfl, hbl, hcl⟩ := Fl.out.2 (by rintro rfl; have := Hl.out; simp at this; omega)
      obtain ⟨z, hz⟩ : ∃ z, l[i]? = some z := ⟨_, List.getElem?_eq_getElem (by rw [Hl.out]; omega)⟩
      have HCl := Lib.hid hcl
      have Hbl := Lib.hid hbl
      have Hz := Lib.hid hz
      have Hz64 := Lib.hid (Fl.out.1 z (List.mem_of_getElem? hz))
      have Hb := Lib.hid hb
      clear hcl hbl hz hb
      go_wp2_with fail
      go_loopg [5, 6] m (fun g' s5 s6 wx => ∃ (k : Nat) (v : Bool), k + g' = m ∧ s6 = .int .i64 k ∧ s5 = .bool v ∧ v = mst z l k ∧ Below w.heap.size w wx)
      case atStart => exact ⟨0, true, by omega, rfl, rfl, rfl, Hb.out⟩
      case round =>
        obtain ⟨k, v, hkg, rfl, rfl, hv, hb⟩ := hrel
        cases gk with
        | zero =>
          have hkz : ¬ ((k : Int) < (m : Int)) := by omega
          have e : k = l.length := by rw [Hl.out]; omega
          have hall : v = true ↔ ∀ y ∈ l, key y ≤ key z := by
            rw [hv, e]; unfold mst; rw [List.take_length]; simp
          have hcz := (hb.cell Hbl.out).trans (HCl.out i z Hz.out)
          clear hv e
          cases v with
          | true =>
            have HC := Lib.hid (hall.1 rfl)
            clear hall
            go_wp2_with fail
            go_ret2
            exact ⟨⟨some z, rfl, some_ne Hz.out, fun y hy => by cases hy; exact ⟨List.mem_of_getElem? Hz.out, fun x hx => by simpa using HC.out x hx⟩⟩, hb⟩
          | false =>
            have HC := Lib.hid (fun h => Bool.false_ne_true (hall.2 h))
            clear hall
            go_wp2_with fail
            go_roundg g
            case measure => omega
            case rel => exact ⟨i + 1, by omega, by go_num, fun j y hj hy => by
              rcases Nat.lt_or_ge j i with h | h
              · exact HA.out j y h hy
              · obtain rfl : j = i := by omega
                obtain rfl := Option.some.inj (Hz.out.symm.trans hy)
                exact HC.out, hb⟩
        | succ g' =>
          have hkz : (k : Int) < (m : Int) := by omega
          obtain ⟨y, hy⟩ : ∃ y, l[k]? = some y := ⟨_, List.getElem?_eq_getElem (by rw [Hl.out]; omega)⟩
          have hcz := (hb.cell Hbl.out).trans (HCl.out i z Hz.out)
          have hcy := (hb.cell Hbl.out).trans (HCl.out k y hy)
          have Ah := Lib.hid (ahead_any z y Hz64.out (Fl.out.1 y (List.mem_of_getElem? hy)))
          have HM := Lib.hid (mst_succ z l k y hy)
          have HV := Lib.hid hv
          obtain ⟨r, hr⟩ : ∃ r, ahd z y = r := ⟨_, rfl⟩
          have HR := Lib.hid (show decide (key y ≤ key z) = !r by rw [← hr]; unfold ahd; rw [← decide_not]; congr 1; simp)
          rw [hr] at Ah
          clear hy hv hr
          cases v with
          | true =>
            go_wp2_with fail
            go_quiet ((go_at_call 20; exact Calls.quiet_of_same ((Ah.out _).mono fun _ _ h => ⟨h.1, h.2.symm⟩)))
            go_wp2_with fail
            go_roundg g'
            case measure => omega
            case rel => exact ⟨k + 1, !r, by omega, by go_num, by simp, by rw [HM.out, ← HV.out, HR.out]; rfl, below_drewN hb _⟩
          | false =>
            go_wp2_with fail
            go_quiet (fail)
            go_wp2_with fail
            go_roundg g'
            case measure => omega
            case rel => exact ⟨k + 1, false, by omega, by go_num, by simp, by rw [HM.out, ← HV.out]; rfl, below_drewN hb _⟩

end Go.Proofs.YtkhoaaoddpjnpaaGreatDoor.RefExt
