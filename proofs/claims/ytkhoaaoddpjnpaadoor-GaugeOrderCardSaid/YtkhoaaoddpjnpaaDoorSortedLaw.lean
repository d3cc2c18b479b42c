/- The law GaugeSorted, walked: it answers true and changes nothing that was there. -/
import Derived.Test.YtkhoaaoddpjnpaaDoorSortFn
import Derived.Test.YtkhoaaoddpjnpaaDoorBinsLaw
namespace Go.Proofs.YtkhoaaoddpjnpaaDoor.SortedLaw
open Go Go.RowKit Go.Proofs.YtkhoaaoddpjnpaaDoor Go.Proofs.YtkhoaaoddpjnpaaDoor.Flt Go.Proofs.YtkhoaaoddpjnpaaDoor.Cmp Go.Proofs.YtkhoaaoddpjnpaaDoor.Mem Go.Proofs.YtkhoaaoddpjnpaaDoor.Ext Go.Proofs.YtkhoaaoddpjnpaaDoor.Lives Go.Proofs.YtkhoaaoddpjnpaaDoor.Sorts Go.Proofs.YtkhoaaoddpjnpaaDoor.BinsLaw

/-- The first of the least. -/
def First (l : List Nat) (b : Option Nat) : Prop := match b with
  | none => l = []
  | some y => (∀ x ∈ l, key y ≤ key x) ∧ (l.filter fun x => decide (key x = key y)).head? = some y
theorem first_take (l : List Nat) : ∀ n, n ≤ l.length → First (l.take n) (ext (-1) (l.take n))
  | 0, _ => rfl
  | n + 1, h => by
    have ih := first_take l n (by omega)
    have hx := List.getElem?_eq_getElem (l := l) (i := n) (by omega)
    rw [ext_take _ l n _ hx, List.take_succ_eq_append_getElem (by omega)]
    generalize l[n] = x at *
    generalize l.take n = r at *
    cases he : ext (-1) r with
    | none =>
      rw [he] at ih
      have ih' : r = [] := ih
      subst ih'
      exact ⟨fun y hy => by simp at hy; subst hy; exact Int.le_refl _, by simp⟩
    | some y =>
      rw [he] at ih
      obtain ⟨h1, h2⟩ : (∀ x ∈ r, key y ≤ key x) ∧ (r.filter fun x => decide (key x = key y)).head? = some y := ih
      show First _ (if cmpF x y = -1 then some x else some y)
      by_cases hc : cmpF x y = -1
      · rw [if_pos hc]
        have hlt : key x < key y := (cmpF_lt x y).1 (by omega)
        refine ⟨fun z hz => ?_, ?_⟩
        · rcases List.mem_append.1 hz with hz | hz
          · have := h1 z hz; omega
          · simp at hz; subst hz; exact Int.le_refl _
        · rw [List.filter_append]
          have e : r.filter (fun z => decide (key z = key x)) = [] := by
            rw [List.filter_eq_nil_iff]
            intro z hz
            have := h1 z hz
            simp; omega
          rw [e]; simp
      · rw [if_neg hc]
        have hge : ¬ key x < key y := fun h => by
          have h3 := (cmpF_lt x y).2 h
          have h4 := cmpF_range x y
          omega
        refine ⟨fun z hz => ?_, ?_⟩
        · rcases List.mem_append.1 hz with hz | hz
          · exact h1 z hz
          · simp at hz; subst hz; omega
        · rw [List.filter_append, List.head?_append, h2]; rfl
theorem ext_least (l : List Nat) : ext (-1) l = (ssort l)[0]? := by
  have h := first_take l l.length (Nat.le_refl _)
  rw [List.take_length] at h
  cases he : ext (-1) l with
  | none =>
    rw [he] at h
    have h' : l = [] := h
    subst h'
    rfl
  | some y =>
    rw [he] at h
    obtain ⟨h1, h2⟩ : (∀ x ∈ l, key y ≤ key x) ∧ (l.filter fun x => decide (key x = key y)).head? = some y := h
    have hy : y ∈ l := ext_mem _ _ _ he
    have hs := ssort_srt l
    have hst := ssort_ste l (key y)
    rw [hst] at h2
    have hmem := (ssort_mem l y).2 hy
    have hall : ∀ x ∈ ssort l, key y ≤ key x := fun x hx => h1 x ((ssort_mem l x).1 hx)
    generalize ssort l = s at *
    cases s with
    | nil => simp at hmem
    | cons z s =>
      have k1 := hs.head y hmem
      have k2 := hall z (by simp)
      rw [List.filter_cons_of_pos (by simp; omega)] at h2
      simpa using h2.symm
theorem great_take (l : List Nat) : ∀ n, n ≤ l.length → ∀ y, ext 1 (l.take n) = some y → ∀ x ∈ l.take n, key x ≤ key y
  | 0, _ => fun y h => by cases h
  | n + 1, h => by
    have ih := great_take l n (by omega)
    have hx := List.getElem?_eq_getElem (l := l) (i := n) (by omega)
    rw [ext_take _ l n _ hx, List.take_succ_eq_append_getElem (by omega)]
    have hn : ext 1 (l.take n) = none → l.take n = [] := by
      intro he
      cases hr : l.take n with
      | nil => rfl
      | cons a r =>
        rw [hr] at he
        have key2 : ∀ (r : List Nat) (b : Nat), (r.foldl (pick 1) (some b)) ≠ none := by
          intro r
          induction r with
          | nil => intro b hb; cases hb
          | cons c r ih2 =>
            intro b hb
            simp only [List.foldl_cons, pick] at hb
            split at hb <;> exact ih2 _ hb
        exact absurd he (key2 r a)
    generalize l[n] = x at *
    generalize l.take n = r at *
    intro y hy z hz
    cases he : ext 1 r with
    | none =>
      have e := hn he
      subst e
      rw [he] at hy
      simp [pick] at hy
      subst hy
      simp at hz
      subst hz
      exact Int.le_refl _
    | some y0 =>
      rw [he] at hy
      simp only [pick] at hy
      split at hy
      · rename_i hc
        obtain rfl := Option.some.inj hy
        have hlt : key y0 < key x := (cmpF_gt x y0).1 (by omega)
        rcases List.mem_append.1 hz with hz | hz
        · have := ih y0 he z hz; omega
        · simp at hz; subst hz; exact Int.le_refl _
      · rename_i hc
        obtain rfl := Option.some.inj hy
        have hge : ¬ key y0 < key x := fun h => by
          have h3 := (cmpF_gt x y0).2 h
          have h4 := cmpF_range x y0
          omega
        rcases List.mem_append.1 hz with hz | hz
        · exact ih y0 he z hz
        · simp at hz; subst hz; omega
theorem ext_great_le (l : List Nat) (y : Nat) (h : ext 1 l = some y) : ∀ x ∈ l, key x ≤ key y := by
  have := great_take l l.length (Nat.le_refl _) y
  rw [List.take_length] at this
  exact this h
theorem ext_some (b : Int) (l : List Nat) (h : 0 < l.length) : ∃ y, ext b l = some y := by
  cases l with
  | nil => simp at h
  | cons a r =>
    have key2 : ∀ (r : List Nat) (c : Nat), ∃ y, r.foldl (pick b) (some c) = some y := by
      intro r
      induction r with
      | nil => intro c; exact ⟨c, rfl⟩
      | cons d r ih =>
        intro c
        simp only [List.foldl_cons, pick]
        split <;> exact ih _
    exact key2 r a

/-- How many of the first k are just x. -/
def cnt (x : Nat) (l : List Nat) (k : Nat) : Int := ((l.take k).filter fun y => decide (y = x)).length
theorem cnt_zero (x : Nat) (l : List Nat) : cnt x l 0 = 0 := rfl
theorem cnt_succ (x : Nat) (l : List Nat) (k y : Nat) (h : l[k]? = some y) : cnt x l (k + 1) = cnt x l k + (if y = x then 1 else 0) := by
  obtain ⟨hk, rfl⟩ := List.getElem?_eq_some_iff.1 h
  unfold cnt
  rw [List.take_succ_eq_append_getElem hk, List.filter_append, List.length_append]
  by_cases e : l[k] = x
  · rw [if_pos e, List.filter_cons_of_pos (by simp [e])]; simp
  · rw [if_neg e, List.filter_cons_of_neg (by simp [e])]; simp
theorem cnt_range (x : Nat) (l : List Nat) (k : Nat) : 0 ≤ cnt x l k ∧ cnt x l k ≤ k := by
  unfold cnt
  have h1 := List.length_filter_le (fun y => decide (y = x)) (l.take k)
  have h2 := List.length_take_le k l
  omega
theorem cnt_same (x : Nat) (l : List Nat) (n : Nat) (hn : l.length = n) : cnt x l n = cnt x (ssort l) n := by
  unfold cnt
  rw [List.take_of_length_le (by omega), List.take_of_length_le (by rw [ssort_length]; omega)]
  have := (ssort_ste l).count (fun y => decide (y = x)) x (fun y hy => by simp at hy; rw [hy])
  rw [this]

theorem f64_same (x y : Nat) : (((x : Int) == (y : Int)) : Bool) = decide (x = y) := by
  rw [Bool.eq_iff_iff]
  simp only [beq_iff_eq, decide_eq_true_eq]
  omega

set_option maxHeartbeats 1000000 in
theorem bits_same (A B : Option Addr) (c1 c2 n : Nat) (xs : List Nat) (w : World) (hl : xs.length = n) (h1 : FS w w.heap.size A xs) (h2 : FS w w.heap.size B xs) (hn : n ≤ 1000) :
    Calls Tryd.prog 40 #[.slice A n c1, .slice B n c2] w fun e w' => e = .returned (.bool true) ∧ Below w.heap.size w w' := by
  have Hl := Lib.hid hl
  have H1 := Lib.hid h1
  have H2 := Lib.hid h2
  clear hl h1 h2
  go_enter Tryd.func40, Tryd.ntmps40
  go_wp2_with fail
  go_loopg [5] n (fun g s5 wx => ∃ i : Nat, i + g = n ∧ s5 = .int .i64 i ∧ Below w.heap.size w wx)
  case atStart => exact ⟨0, by omega, rfl, Below.refl _ _⟩
  case round =>
    obtain ⟨i, hig, rfl, hb⟩ := hrel
    cases gk with
    | zero =>
      have hiz : ¬ ((i : Int) < (n : Int)) := by omega
      go_wp2_with fail
      go_ret
      exact ⟨rfl, hb⟩
    | succ g =>
      have hiz : (i : Int) < (n : Int) := by omega
      obtain ⟨b, o, x, rfl, hb1, _, hx, _⟩ := H1.out.at_ (k := i) (by rw [Hl.out]; omega)
      obtain ⟨b', o', x', rfl, hb2, _, hx', _⟩ := H2.out.at_ (k := i) (by rw [Hl.out]; omega)
      obtain rfl : x = x' := Option.some.inj (hx.symm.trans hx')
      have c1 : wr.cell? ⟨b, o + i, none⟩ = some (.float .f64 x) := by
        obtain ⟨_, _, _, e, _, _, q, hc⟩ := H1.out.at_ (k := i) (by rw [Hl.out]; omega)
        cases e; cases Option.some.inj (hx.symm.trans q)
        exact (hb.cell hb1).trans hc
      have c2 : wr.cell? ⟨b', o' + i, none⟩ = some (.float .f64 x) := by
        obtain ⟨_, _, _, e, _, _, q, hc⟩ := H2.out.at_ (k := i) (by rw [Hl.out]; omega)
        cases e; cases Option.some.inj (hx.symm.trans q)
        exact (hb.cell hb2).trans hc
      have hf := run_f64bits x
      clear hx hx'
      go_wp2_with fail
      go_quiet (fail)
      go_wp2_with fail
      go_roundg g
      case measure => omega
      case rel => exact ⟨i + 1, by omega, by go_num, Mem.below_drewN hb _⟩

theorem bits_ne {x z : Nat} (h : ¬ x = z) : (((x : Int) == (z : Int)) : Bool) = false := by
  rw [f64_same]; exact decide_eq_false h
theorem bits_eq {x z : Nat} (h : x = z) : (((x : Int) == (z : Int)) : Bool) = true := by
  rw [f64_same]; exact decide_eq_true h

set_option maxHeartbeats 4000000 in
set_option maxRecDepth 100000 in
theorem law_any (A : Option Addr) (n c : Nat) (l : List Nat) (w : World) (hl : l.length = n) (fl : FS w w.heap.size A l) (hn : n ≤ c) (hc : c ≤ 9223372036854775807) :
    Calls Tryd.prog 7 #[.slice A n c] w fun e w' => e = .returned (.bool true) ∧ Below w.heap.size w w' := by
  obtain ⟨m, hm⟩ : ∃ m, min n 100 = m := ⟨_, rfl⟩
  have E1 := Lib.hid (early_any A n c hn hc)
  rw [hm] at E1
  have hml : (l.take 100).length = m := by rw [List.length_take]; omega
  have hm1 : m ≤ 100 := by omega
  have Fl := Lib.hid (fl.take_ 100)
  generalize l.take 100 = ll at *
  have Hml := Lib.hid hml
  have S1 := Lib.hid fun w0 f => sort_any A c ll m w0 hml f hm1
  have S2 := Lib.hid fun B d w0 f => sort_any B d (ssort ll) m w0 (by rw [ssort_length]; exact hml) f hm1
  have Hs := Lib.hid (ssort_srt ll)
  have Hmem := Lib.hid (ssort_mem ll)
  have Hcnt := Lib.hid fun z => cnt_same z ll m hml
  have Hsl := Lib.hid (show (ssort ll).length = m by rw [ssort_length]; exact hml)
  have Hle := Lib.hid (ext_least ll)
  unfold Sorted at S1 S2
  rw [ssort_id Hs.out] at S2
  generalize ssort ll = ss at *
  clear hl fl hm hn hml
  go_enter Tryd.func7, Tryd.ntmps7
  go_wp2_with fail
  refine (lives_any _).mono ?_; rintro e w0 ⟨rfl, hb0⟩
  go_wp2_with fail
  refine (E1.out _).mono ?_; rintro e w' ⟨rfl, rfl⟩
  go_wp2_with fail
  have Fl0 := (Fl.out.below hb0).more hb0.size
  refine (S1.out w0 Fl0).mono ?_; rintro e w1 ⟨B, d, rfl, hd1, hd2, hs1, hb1⟩
  have HD := Lib.hid (And.intro hd1 hd2)
  have Hs1 := Lib.hid hs1
  clear hd1 hd2 hs1
  go_wp2_with fail
  refine (S2.out B d w1 Hs1.out).mono ?_; rintro e w2 ⟨B2, d2, rfl, hd1, hd2, hs2, hb2⟩
  have HS2 := Lib.hid hs2
  have Hs1' := Lib.hid ((Hs1.out.below hb2).more hb2.size)
  clear hd1 hd2 hs2
  go_wp2_with fail
  refine (bits_same B2 B d2 d m ss w2 Hsl.out HS2.out Hs1'.out (by omega)).mono ?_; rintro e w3 ⟨rfl, hb3⟩
  have Fs3 := Lib.hid ((Hs1'.out.below hb3).more hb3.size)
  have Fl3 := Lib.hid ((((((Fl0.below hb1).more hb1.size).below hb2).more hb2.size).below hb3).more hb3.size)
  have HB := Lib.hid (((hb0.trans (hb1.mono hb0.size)).trans (hb2.mono (Nat.le_trans hb0.size hb1.size))).trans (hb3.mono (Nat.le_trans hb0.size (Nat.le_trans hb1.size hb2.size))))
  clear Fl0 Fl S1 S2 Hs1 Hs1' HS2 hb0 hb1 hb2 hb3 E1
  go_wp2_with fail
  go_loopg [4] m (fun g s4 wx => ∃ i : Nat, i + g = m ∧ s4 = .int .i64 i ∧ Below w3.heap.size w3 wx)
  case atStart => exact ⟨0, by omega, rfl, Below.refl _ _⟩
  case round =>
    obtain ⟨i, hig, rfl, hb⟩ := hrel
    cases gk with
    | zero =>
      have hiz : ¬ ((i : Int) < (m : Int)) := by omega
      have HW := Lib.hid (HB.out.trans (hb.mono HB.out.size))
      have Fw := Lib.hid ((Fl3.out.below hb).more hb.size)
      have Fs := Lib.hid ((Fs3.out.below hb).more hb.size)
      have L := Lib.hid (least_any A c ll m wr Hml.out Fw.out (by omega))
      have G := Lib.hid (greatest_any A c ll m wr Hml.out Fw.out (by omega))
      clear hb Fl3 Fs3 HB
      rcases Nat.eq_zero_or_pos m with h0 | h0
      · subst h0
        obtain rfl : ll = [] := List.eq_nil_of_length_eq_zero Hml.out
        rw [show ext (-1) [] = none from rfl] at L
        rw [show ext 1 [] = none from rfl] at G
        unfold outOf at L G
        go_wp2_with fail
        refine L.out.mono ?_; rintro e w' ⟨rfl, rfl⟩
        go_wp2_with fail
        refine G.out.mono ?_; rintro e w' ⟨rfl, rfl⟩
        go_wp2_with fail
        go_ret
        exact ⟨rfl, HW.out⟩
      · obtain ⟨a, ha⟩ := ext_some (-1) ll (by rw [Hml.out]; exact h0)
        obtain ⟨y, hy⟩ := ext_some 1 ll (by rw [Hml.out]; exact h0)
        have hgr := ext_great_le ll y hy
        have hss : ss[0]? = some a := by rw [← Hle.out, ha]
        rw [ha] at L
        rw [hy] at G
        unfold outOf at L G
        obtain ⟨mp, rfl⟩ : ∃ mp, m = mp + 1 := ⟨m - 1, by omega⟩
        obtain ⟨z, hz⟩ : ∃ z, ss[mp]? = some z := ⟨_, List.getElem?_eq_getElem (by rw [Hsl.out]; omega)⟩
        obtain ⟨bs, os, rfl, hbs, hcs⟩ := Fs.out.2 (by rintro rfl; simp at hss)
        have hc0 : wr.cell? ⟨bs, os, none⟩ = some (.float .f64 a) := hcs 0 a hss
        have hcz := hcs mp z hz
        have hyl := ext_mem _ _ _ hy
        have hys := (Hmem.out y).2 hyl
        have hcm : cmpF y z = 0 := by
          rw [cmpF_zero]
          have h1 := hgr z ((Hmem.out z).1 (List.mem_of_getElem? hz))
          obtain ⟨k, hk, hky⟩ := List.mem_iff_getElem?.1 hys |>.elim fun k hk => (⟨k, (List.getElem?_eq_some_iff.1 hk).1, hk⟩ : ∃ k, k < ss.length ∧ ss[k]? = some y)
          have h2 := srt_get Hs.out (i := k) (j := mp) (by have := Hsl.out; omega) hky hz
          omega
        have C := Lib.hid (compare_any y z (Fs.out.1 y hys) (Fs.out.1 z (List.mem_of_getElem? hz)))
        rw [hcm] at C
        have hf := run_f64bits a
        have hmz : ((mp : Int) + 1) - 1 = (mp : Int) := by omega
        clear hgr hss hz hcs hyl hys hy ha hcm
        go_wp2_with fail
        refine L.out.mono ?_; rintro e w' ⟨rfl, rfl⟩
        go_wp2_with fail
        refine G.out.mono ?_; rintro e w' ⟨rfl, rfl⟩
        go_wp2_with fail
        go_quiet ((go_at_call 41; exact Calls.quiet_of_same ((C.out _).mono fun _ _ h => ⟨h.1, h.2.symm⟩)))
        go_wp2_with fail
        go_ret
        exact ⟨rfl, below_drewN HW.out _⟩
    | succ g =>
      have hiz : (i : Int) < (m : Int) := by omega
      obtain ⟨bs, os, rfl, hbs, hcs⟩ := Fs3.out.2 (by rintro rfl; have := Hsl.out; simp at this; omega)
      obtain ⟨bl, ol, rfl, hbl, hcl⟩ := Fl3.out.2 (by rintro rfl; have := Hml.out; simp at this; omega)
      have HCs := Lib.hid hcs
      have HCl := Lib.hid hcl
      have Hbs := Lib.hid hbs
      have Hbl := Lib.hid hbl
      obtain ⟨z, hz⟩ : ∃ z, ss[i]? = some z := ⟨_, List.getElem?_eq_getElem (by rw [Hsl.out]; omega)⟩
      have Hz := Lib.hid hz
      have hcz := (hb.cell hbs).trans (hcs i z hz)
      have Hczw := Lib.hid (hcs i z hz)
      clear hz hcs hcl hbs hbl
      rcases Nat.eq_zero_or_pos i with hi0 | hi0
      · have hd : decide (0 < i) = false := decide_eq_false (by omega)
        clear hi0
        go_wp2_with fail
        go_quiet (fail)
        clear hcz
        have hb' := below_drewN hb nq
        generalize wr.drewN nq = wi at *
        clear hb
        go_wp2_with fail
        go_loopg [5, 6] m (fun g' s5 s6 wx => ∃ (k : Nat) (v : Int), k + g' = m ∧ s6 = .int .i64 k ∧ s5 = .int .i64 v ∧ v = cnt z ll k - cnt z ss k ∧ Below w3.heap.size w3 wx)
        case atStart => exact ⟨0, 0, by omega, rfl, rfl, by rw [cnt_zero, cnt_zero]; rfl, hb'⟩
        case round =>
          obtain ⟨k, v, hkg, rfl, rfl, hv, hb⟩ := hrel
          have hvb : -100 ≤ v ∧ v ≤ 100 := by
            have h1 := cnt_range z ll k
            have h2 := cnt_range z ss k
            omega
          obtain ⟨hv0, hv1⟩ := hvb
          cases gk with
          | zero =>
            have hkz : ¬ ((k : Int) < (m : Int)) := by omega
            obtain rfl : v = 0 := by rw [hv, show k = m by omega, Hcnt.out z]; omega
            clear hv hv0 hv1
            go_wp2_with fail
            go_roundg g
            case measure => omega
            case rel => exact ⟨i + 1, by omega, by go_num, hb⟩
          | succ g' =>
            have hkz : (k : Int) < (m : Int) := by omega
            obtain ⟨x, hx⟩ : ∃ x, ll[k]? = some x := ⟨_, List.getElem?_eq_getElem (by rw [Hml.out]; omega)⟩
            obtain ⟨y, hy⟩ : ∃ y, ss[k]? = some y := ⟨_, List.getElem?_eq_getElem (by rw [Hsl.out]; omega)⟩
            have hcx := (hb.cell Hbl.out).trans (HCl.out k x hx)
            have hcy := (hb.cell Hbs.out).trans (HCs.out k y hy)
            have hcz := (hb.cell Hbs.out).trans Hczw.out
            have HX := Lib.hid (cnt_succ z ll k x hx)
            have HY := Lib.hid (cnt_succ z ss k y hy)
            have HV := Lib.hid hv
            have fx := run_f64bits x
            have fy := run_f64bits y
            have fz := run_f64bits z
            have Hb := Lib.hid hb
            clear hx hy hv hb
            by_cases exz : x = z
            · subst exz
              by_cases eyz : y = x
              · subst eyz
                go_wp2_with fail
                go_quiet (fail)
                go_wp2_with fail
                go_quiet (fail)
                go_wp2_with fail
                go_roundg g'
                case measure => omega
                case rel => exact ⟨k + 1, v, by omega, by go_num, by go_num, by rw [HV.out]; have e1 := HX.out; have e2 := HY.out; simp at e1 e2; omega, below_drewN Hb.out _⟩
              · have by1 := bits_ne eyz
                go_wp2_with fail
                go_quiet (fail)
                go_wp2_with fail
                go_quiet (fail)
                go_wp2_with fail
                go_roundg g'
                case measure => omega
                case rel => exact ⟨k + 1, v + 1, by omega, by go_num, by go_num, by rw [HV.out]; have e1 := HX.out; have e2 := HY.out; simp [eyz] at e1 e2; omega, below_drewN Hb.out _⟩
            · have bx1 := bits_ne exz
              by_cases eyz : y = z
              · subst eyz
                go_wp2_with fail
                go_quiet (fail)
                go_wp2_with fail
                go_quiet (fail)
                go_wp2_with fail
                go_roundg g'
                case measure => omega
                case rel => exact ⟨k + 1, v - 1, by omega, by go_num, by go_num, by rw [HV.out]; have e1 := HX.out; have e2 := HY.out; simp [exz] at e1 e2; omega, below_drewN Hb.out _⟩
              · have by1 := bits_ne eyz
                go_wp2_with fail
                go_quiet (fail)
                go_wp2_with fail
                go_quiet (fail)
                go_wp2_with fail
                go_roundg g'
                case measure => omega
                case rel => exact ⟨k + 1, v, by omega, by go_num, by go_num, by rw [HV.out]; have e1 := HX.out; have e2 := HY.out; simp [exz, eyz] at e1 e2; omega, below_drewN Hb.out _⟩
      · have hd : decide ((0 : Int) < (i : Int)) = true := decide_eq_true (by omega)
        obtain ⟨ip, hip, hip1⟩ : ∃ ip : Nat, (i : Int) - 1 = (ip : Int) ∧ ip ≤ i := ⟨i - 1, by omega, by omega⟩
        obtain ⟨y, hy⟩ : ∃ y, ss[ip]? = some y := ⟨_, List.getElem?_eq_getElem (by rw [Hsl.out]; omega)⟩
        have hcy := (hb.cell Hbs.out).trans (HCs.out ip y hy)
        have C := Lib.hid (compare_any y z (Fs3.out.1 y (List.mem_of_getElem? hy)) (Fs3.out.1 z (List.mem_of_getElem? Hz.out)))
        have hcm : ¬ 0 < cmpF y z := fun h => by
          have h1 := (cmpF_gt y z).1 h
          have h2 := srt_get Hs.out hip1 hy Hz.out
          omega
        clear hy
        go_wp2_with fail
        go_quiet ((go_at_call 41; exact Calls.quiet_of_same ((C.out _).mono fun _ _ h => ⟨h.1, h.2.symm⟩)))
        clear hcz
        have hb' := below_drewN hb nq
        generalize wr.drewN nq = wi at *
        clear hb
        go_wp2_with fail
        go_loopg [5, 6] m (fun g' s5 s6 wx => ∃ (k : Nat) (v : Int), k + g' = m ∧ s6 = .int .i64 k ∧ s5 = .int .i64 v ∧ v = cnt z ll k - cnt z ss k ∧ Below w3.heap.size w3 wx)
        case atStart => exact ⟨0, 0, by omega, rfl, rfl, by rw [cnt_zero, cnt_zero]; rfl, hb'⟩
        case round =>
          obtain ⟨k, v, hkg, rfl, rfl, hv, hb⟩ := hrel
          have hvb : -100 ≤ v ∧ v ≤ 100 := by
            have h1 := cnt_range z ll k
            have h2 := cnt_range z ss k
            omega
          obtain ⟨hv0, hv1⟩ := hvb
          cases gk with
          | zero =>
            have hkz : ¬ ((k : Int) < (m : Int)) := by omega
            obtain rfl : v = 0 := by rw [hv, show k = m by omega, Hcnt.out z]; omega
            clear hv hv0 hv1
            go_wp2_with fail
            go_roundg g
            case measure => omega
            case rel => exact ⟨i + 1, by omega, by go_num, hb⟩
          | succ g' =>
            have hkz : (k : Int) < (m : Int) := by omega
            obtain ⟨x, hx⟩ : ∃ x, ll[k]? = some x := ⟨_, List.getElem?_eq_getElem (by rw [Hml.out]; omega)⟩
            obtain ⟨y, hy⟩ : ∃ y, ss[k]? = some y := ⟨_, List.getElem?_eq_getElem (by rw [Hsl.out]; omega)⟩
            have hcx := (hb.cell Hbl.out).trans (HCl.out k x hx)
            have hcy := (hb.cell Hbs.out).trans (HCs.out k y hy)
            have hcz := (hb.cell Hbs.out).trans Hczw.out
            have HX := Lib.hid (cnt_succ z ll k x hx)
            have HY := Lib.hid (cnt_succ z ss k y hy)
            have HV := Lib.hid hv
            have fx := run_f64bits x
            have fy := run_f64bits y
            have fz := run_f64bits z
            have Hb := Lib.hid hb
            clear hx hy hv hb
            by_cases exz : x = z
            · subst exz
              by_cases eyz : y = x
              · subst eyz
                go_wp2_with fail
                go_quiet (fail)
                go_wp2_with fail
                go_quiet (fail)
                go_wp2_with fail
                go_roundg g'
                case measure => omega
                case rel => exact ⟨k + 1, v, by omega, by go_num, by go_num, by rw [HV.out]; have e1 := HX.out; have e2 := HY.out; simp at e1 e2; omega, below_drewN Hb.out _⟩
              · have by1 := bits_ne eyz
                go_wp2_with fail
                go_quiet (fail)
                go_wp2_with fail
                go_quiet (fail)
                go_wp2_with fail
                go_roundg g'
                case measure => omega
                case rel => exact ⟨k + 1, v + 1, by omega, by go_num, by go_num, by rw [HV.out]; have e1 := HX.out; have e2 := HY.out; simp [eyz] at e1 e2; omega, below_drewN Hb.out _⟩
            · have bx1 := bits_ne exz
              by_cases eyz : y = z
              · subst eyz
                go_wp2_with fail
                go_quiet (fail)
                go_wp2_with fail
                go_quiet (fail)
                go_wp2_with fail
                go_roundg g'
                case measure => omega
                case rel => exact ⟨k + 1, v - 1, by omega, by go_num, by go_num, by rw [HV.out]; have e1 := HX.out; have e2 := HY.out; simp [exz] at e1 e2; omega, below_drewN Hb.out _⟩
              · have by1 := bits_ne eyz
                go_wp2_with fail
                go_quiet (fail)
                go_wp2_with fail
                go_quiet (fail)
                go_wp2_with fail
                go_roundg g'
                case measure => omega
                case rel => exact ⟨k + 1, v, by omega, by go_num, by go_num, by rw [HV.out]; have e1 := HX.out; have e2 := HY.out; simp [exz, eyz] at e1 e2; omega, below_drewN Hb.out _⟩
end Go.Proofs.YtkhoaaoddpjnpaaDoor.SortedLaw
