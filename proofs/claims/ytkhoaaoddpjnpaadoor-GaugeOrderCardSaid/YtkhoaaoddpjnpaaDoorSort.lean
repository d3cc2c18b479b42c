/- slices.SortStableFunc over floating point numbers, walked: it is the stable sort. -/
import Derived.Test.YtkhoaaoddpjnpaaDoorCmp
import Derived.Test.YtkhoaaoddpjnpaaDoorMem
import Derived.Test.YtkhoaaoddpjnpaaDoorSortPlain
import Derived.Deep.LoopGhost
import Derived.Deep.QuietTactic
import Derived.BigQuiet
import Derived.BigRegion
namespace Go.Proofs.YtkhoaaoddpjnpaaDoor.Sorts
open Go Go.RowKit Go.Proofs.YtkhoaaoddpjnpaaDoor Go.Proofs.YtkhoaaoddpjnpaaDoor.Flt Go.Proofs.YtkhoaaoddpjnpaaDoor.Cmp Go.Proofs.YtkhoaaoddpjnpaaDoor.Mem

/-- Block g begins with the numbers xs. -/
def FRow (w : World) (g n : Nat) (xs : List Nat) : Prop :=
  xs.length = n ∧ (∀ x ∈ xs, x < 18446744073709551616) ∧ ∃ cur, w.heap[g]? = some (.cells cur 29 (0, 0)) ∧ cur.toList.take n = xs.map (Value.float .f64)

section
variable {w w' : World} {g n : Nat} {xs : List Nat}
theorem FRow.lt (h : FRow w g n xs) : g < w.heap.size := by
  obtain ⟨_, _, cur, h1, _⟩ := h
  rcases Nat.lt_or_ge g w.heap.size with hlt | hge
  · exact hlt
  · rw [Array.getElem?_eq_none hge] at h1; cases h1
theorem FRow.cell (h : FRow w g n xs) {k x : Nat} (hx : xs[k]? = some x) : w.cell? ⟨g, k, none⟩ = some (.float .f64 x) := by
  obtain ⟨hl, _, cur, h1, h2⟩ := h
  have hk : k < n := by
    rcases Nat.lt_or_ge k xs.length with hlt | hge
    · omega
    · rw [List.getElem?_eq_none hge] at hx; cases hx
  rw [cell_of_row w g k cur 29 (0, 0) h1]
  have h3 : (cur.toList.take n)[k]? = some (.float .f64 x) := by rw [h2, List.getElem?_map, hx]; rfl
  rw [List.getElem?_take, if_pos hk] at h3
  simpa using h3
theorem FRow.frozen (h : FRow w g n xs) (k : Nat) : w.frozen? ⟨g, k, none⟩ = false := by
  obtain ⟨_, _, cur, h1, _⟩ := h
  simp [World.frozen?, h1]
theorem FRow.set_ (h : FRow w g n xs) (k x : Nat) (hx : x < 18446744073709551616) : FRow (w.setCell ⟨g, k, none⟩ (.float .f64 x)) g n (xs.set k x) := by
  obtain ⟨hl, hb, cur, h1, h2⟩ := h
  refine ⟨by simp [hl], fun y hy => ?_, cur.setIfInBounds k (.float .f64 x), by simp [World.setCell, Array.getElem?_modify, h1], ?_⟩
  · rcases List.mem_or_eq_of_mem_set hy with h3 | h3
    · exact hb y h3
    · subst h3; exact hx
  · rw [Array.toList_setIfInBounds, List.take_set, h2, List.map_set]
theorem FRow.drew (h : FRow w g n xs) : FRow w.drew g n xs := h
theorem FRow.drewN (h : FRow w g n xs) (k : Nat) : FRow (w.drewN k) g n xs := h
theorem FRow.bound (h : FRow w g n xs) {k x : Nat} (hx : xs[k]? = some x) : x < 18446744073709551616 := h.2.1 x (List.mem_of_getElem? hx)
theorem FRow.swap (h : FRow w g n xs) {i j x y : Nat} (hx : xs[i]? = some x) (hy : xs[j]? = some y) : FRow ((w.setCell ⟨g, i, none⟩ (.float .f64 y)).setCell ⟨g, j, none⟩ (.float .f64 x)) g n (swp xs i j) := by
  have e : swp xs i j = (xs.set i y).set j x := by
    unfold swp
    rw [List.getD_eq_getElem?_getD, List.getD_eq_getElem?_getD, hx, hy]; rfl
  rw [e]
  exact (h.set_ i y (h.bound hy)).set_ j x (h.bound hx)
theorem FRow.swap' (h : FRow w g n xs) {i j x y : Nat} (hx : xs[i]? = some x) (hy : xs[j]? = some y) (hij : i ≠ j) : FRow ((w.setCell ⟨g, j, none⟩ (.float .f64 x)).setCell ⟨g, i, none⟩ (.float .f64 y)) g n (swp xs i j) := by
  have e : swp xs i j = (xs.set j x).set i y := by
    unfold swp
    rw [List.getD_eq_getElem?_getD, List.getD_eq_getElem?_getD, hx, hy]
    exact List.set_comm _ _ hij
  rw [e]
  exact (h.set_ j x (h.bound hx)).set_ i y (h.bound hy)
end

theorem run_store_float (P : Program) (w : World) (a : Addr) (m : Mode) (k : FloatKind) (b : Nat) : (store a (.float k b) m).run P w = stored P w a (.float k b) m := run_store P w a _ m rfl
attribute [local go_sem] run_store_float

/-- Nothing but block g has changed. -/
def Only (g : Nat) (w w' : World) : Prop := w.grownBy w' (some g)
section
variable {w w' w2 : World} {g : Nat}
theorem Only.refl_ (g : Nat) (w : World) : Only g w w := World.grownBy.refl w (some g)
theorem Only.drew (h : Only g w w') : Only g w w'.drew := ⟨h.os, h.tape, h.output, h.size, h.block⟩
theorem Only.drewN (h : Only g w w') (n : Nat) : Only g w (w'.drewN n) := ⟨h.os, h.tape, h.output, h.size, h.block⟩
theorem Only.set_ (h : Only g w w') (k : Nat) (v : Value) : Only g w (w'.setCell ⟨g, k, none⟩ v) :=
  ⟨h.os, h.tape, h.output, by simpa [World.setCell] using h.size, fun i hi hne => (Below.heap_setCell w' ⟨g, k, none⟩ v i (fun e => hne (by rw [e]))).trans (h.block i hi hne)⟩
theorem Only.trans_ (h : Only g w w') (h' : Only g w' w2) : Only g w w2 :=
  ⟨h'.os.trans h.os, h'.tape.trans h.tape, h'.output.trans h.output, Nat.le_trans h.size h'.size, fun i hi hne => (h'.block i (Nat.lt_of_lt_of_le hi h.size) hne).trans (h.block i hi hne)⟩
end

set_option maxHeartbeats 1000000 in
set_option maxRecDepth 100000 in
theorem swapRange_any (g N cap a b n : Nat) (f : Value) (P A M B S xs out : List Nat) (w : World) (hxs : P ++ A ++ M ++ B ++ S = xs) (hout : P ++ B ++ M ++ A ++ S = out) (h : FRow w g N xs) (ha : P.length = a) (hA : A.length = n) (hB : B.length = n) (hb : a + n + M.length = b) (hN : N ≤ 100000) :
    Calls Tryd.prog 127 #[.slice (some ⟨g, 0, none⟩) N cap, .int .i64 a, .int .i64 b, .int .i64 n, f] w fun e w' => e = .returned (.tuple #[]) ∧ FRow w' g N out ∧ Only g w w' := by
  have hlen := h.1
  rw [← hxs] at hlen
  simp only [List.length_append] at hlen
  have hn1 : b + n ≤ 100000 := by omega
  have hn2 : b + n ≤ N := by omega
  have hn3 : a + n ≤ b := by omega
  have Ha := Lib.hid ha
  have HA := Lib.hid hA
  have HB := Lib.hid hB
  have Hb := Lib.hid hb
  have H := Lib.hid h
  have HXS := Lib.hid hxs
  have HOUT := Lib.hid hout
  clear ha hA hB hb h hlen hxs hout
  go_enter Tryd.func127, Tryd.ntmps127
  go_wp2_with fail
  go_loopg [10] n (fun k s10 wx => ∃ i : Nat, i + k = n ∧ s10 = .int .i64 i ∧ Aside (∃ A1 A2 B1 B2 : List Nat, A = A1 ++ A2 ∧ B = B1 ++ B2 ∧ A1.length = i ∧ B1.length = i ∧ FRow wx g N (P ++ (B1 ++ A2) ++ M ++ (A1 ++ B2) ++ S) ∧ Only g w wx))
  case atStart => exact ⟨0, by omega, rfl, [], A, [], B, rfl, rfl, rfl, rfl, by rw [← HXS.out] at H; exact H.out, Only.refl_ g w⟩
  case round =>
    obtain ⟨i, hik, rfl, HR⟩ := hrel
    cases gk with
    | zero =>
      have hiz : ¬ ((i : Int) < (n : Int)) := by omega
      go_wp2_with fail
      go_end0
      obtain ⟨A1, A2, B1, B2, hA, hB, hl1, hl2, hR, hO⟩ := HR.out
      have e1 : A2 = [] := List.eq_nil_of_length_eq_zero (by have h1 := HA.out; have := congrArg List.length hA; simp at this; omega)
      have e2 : B2 = [] := List.eq_nil_of_length_eq_zero (by have h1 := HB.out; have := congrArg List.length hB; simp at this; omega)
      subst e1 e2
      simp only [List.append_nil] at hA hB hR
      subst hA hB
      exact ⟨rfl, by rw [← HOUT.out]; exact hR, hO⟩
    | succ k =>
      have hiz : (i : Int) < (n : Int) := by omega
      have HX : Hid (∃ A1 x A2 B1 y B2 : _, A = A1 ++ x :: A2 ∧ B = B1 ++ y :: B2 ∧ A1.length = i ∧ B1.length = i ∧ FRow wr g N ((P ++ B1) ++ x :: ((A2 ++ M ++ A1) ++ y :: (B2 ++ S))) ∧ Only g w wr) := by
        obtain ⟨A1, A2, B1, B2, hA, hB, hl1, hl2, hR, hO⟩ := HR.out
        cases A2 with
        | nil => have h1 := HA.out; have := congrArg List.length hA; simp at this; omega
        | cons x A2 =>
          cases B2 with
          | nil => have h1 := HB.out; have := congrArg List.length hB; simp at this; omega
          | cons y B2 => exact ⟨A1, x, A2, B1, y, B2, hA, hB, hl1, hl2, by simpa using hR, hO⟩
      clear HR
      obtain ⟨A1, x, A2, B1, y, B2, hA, hB, hl1, hl2, hR, hO⟩ := HX.out
      clear HX
      have hi1 : (P ++ B1).length = a + i := by rw [List.length_append, Ha.out, hl2]
      have hi2 : (P ++ B1).length + 1 + (A2 ++ M ++ A1).length = b + i := by
        have h1 := HA.out
        have h2 := Hb.out
        have h3 := congrArg List.length hA
        simp at h3
        rw [hi1]; simp only [List.length_append]; omega
      have hx : ((P ++ B1) ++ x :: ((A2 ++ M ++ A1) ++ y :: (B2 ++ S)))[a + i]? = some x := by rw [← hi1]; simp
      have hy : ((P ++ B1) ++ x :: ((A2 ++ M ++ A1) ++ y :: (B2 ++ S)))[b + i]? = some y := by
        rw [← hi2, List.getElem?_append_right (by omega)]
        have e : (P ++ B1).length + 1 + (A2 ++ M ++ A1).length - (P ++ B1).length = (A2 ++ M ++ A1).length + 1 := by omega
        rw [e, List.getElem?_cons_succ]
        simp
      have c1 := hR.cell hx
      have c2 := hR.cell hy
      have f1 := hR.frozen (a + i)
      have f2 := hR.frozen (b + i)
      have HS1 := Lib.hid (hR.drew.swap hx hy)
      have HS2 := Lib.hid (hR.drew.swap' hx hy (by omega))
      have HE := Lib.hid (swp_mid (P ++ B1) (A2 ++ M ++ A1) (B2 ++ S) x y (a + i) (b + i) hi1.symm hi2.symm)
      have HO := Lib.hid hO
      have HL := Lib.hid (And.intro hl1 hl2)
      have HAB := Lib.hid (And.intro hA hB)
      clear hA hB hl1 hl2 hR hO hi1 hi2 hx hy
      go_wp2_with fail
      go_region
      all_goals go_wp2
      all_goals
        go_roundg k
        case measure => omega
        case rel =>
          refine ⟨i + 1, by omega, by go_num, A1 ++ [x], A2, B1 ++ [y], B2, by rw [HAB.out.1]; simp, by rw [HAB.out.2]; simp, by simp [HL.out.1], by simp [HL.out.2], ?_, ?_⟩
          · have e : P ++ (B1 ++ [y] ++ A2) ++ M ++ (A1 ++ [x] ++ B2) ++ S = P ++ B1 ++ y :: (A2 ++ M ++ A1 ++ x :: (B2 ++ S)) := by simp
            rw [e, ← HE.out]
            first | exact HS1.out | exact HS2.out
          · exact (((HO.out.drew).set_ _ _).set_ _ _)
theorem swapRange_z (g N cap a b n : Nat) (az bz nz : Int) (f : Value) (P A M B S xs out : List Nat) (w : World) (haz : az = (a : Int)) (hbz : bz = (b : Int)) (hnz : nz = (n : Int)) (hxs : P ++ A ++ M ++ B ++ S = xs) (hout : P ++ B ++ M ++ A ++ S = out) (h : FRow w g N xs) (ha : P.length = a) (hA : A.length = n) (hB : B.length = n) (hb : a + n + M.length = b) (hN : N ≤ 100000) :
    Calls Tryd.prog 127 #[.slice (some ⟨g, 0, none⟩) N cap, .int .i64 az, .int .i64 bz, .int .i64 nz, f] w fun e w' => e = .returned (.tuple #[]) ∧ FRow w' g N out ∧ Only g w w' := by
  subst haz hbz hnz
  exact swapRange_any g N cap a b n f P A M B S xs out w hxs hout h ha hA hB hb hN

set_option maxHeartbeats 1000000 in
set_option maxRecDepth 100000 in
theorem rotate_any (g N cap a m b : Nat) (f : Value) (P U V S xs out : List Nat) (w : World) (hxs : P ++ U ++ V ++ S = xs) (hout : P ++ V ++ U ++ S = out) (h : FRow w g N xs) (ha : P.length = a) (hm : a + U.length = m) (hb : m + V.length = b) (hU : 0 < U.length) (hV : 0 < V.length) (hN : N ≤ 100000) :
    Calls Tryd.prog 104 #[.slice (some ⟨g, 0, none⟩) N cap, .int .i64 a, .int .i64 m, .int .i64 b, f] w fun e w' => e = .returned (.tuple #[]) ∧ FRow w' g N out ∧ Only g w w' := by
  have hlen := h.1
  rw [← hxs] at hlen
  simp only [List.length_append] at hlen
  have hn1 : b ≤ 100000 := by omega
  have hn2 : m ≤ b := by omega
  have hn3 : a ≤ m := by omega
  have H0 : Hid (∃ i j : Nat, m - a = i ∧ b - m = j ∧ 0 < i ∧ 0 < j ∧ U.length = i ∧ V.length = j) := ⟨m - a, b - m, rfl, rfl, by omega, by omega, by omega, by omega⟩
  have Ha := Lib.hid ha
  have Hm := Lib.hid hm
  have H := Lib.hid h
  have HXS := Lib.hid hxs
  have HOUT := Lib.hid hout
  clear ha hm hb h hlen hxs hout hU hV
  go_enter Tryd.func104, Tryd.ntmps104
  go_wp2_with fail
  go_loopg [10, 11] (b + 1) (fun k s10 s11 wx => ∃ i j : Nat, s10 = .int .i64 i ∧ s11 = .int .i64 j ∧ 0 < i ∧ 0 < j ∧ i + j ≤ k ∧ i ≤ m ∧ m + j ≤ b ∧ Aside (∃ P A B S : List Nat, FRow wx g N (P ++ A ++ B ++ S) ∧ A.length = i ∧ B.length = j ∧ P.length + i = m ∧ P ++ B ++ A ++ S = out ∧ Only g w wx))
  case atStart =>
    obtain ⟨i, j, h1, h2, h3, h4, h5, h6⟩ := H0.out
    refine ⟨i, j, ?_, ?_, h3, h4, by omega, by omega, by omega, P, U, V, S, by rw [HXS.out]; exact H.out, h5, h6, by rw [Ha.out]; omega, HOUT.out, Only.refl_ g w⟩
    · congr 1; omega
    · congr 1; omega
  case round =>
    obtain ⟨i, j, rfl, rfl, hi0, hj0, hk, him, hjb, HR⟩ := hrel
    clear H H0 HXS HOUT Ha Hm
    by_cases hij : i = j
    · subst hij
      have hne : ((i : Int) != (i : Int)) = false := by simp
      obtain ⟨P', A, B, S', hR, hA, hB, hP, hO, hW⟩ := HR.out
      have C := Lib.hid (swapRange_z g N cap (m - i) m i ((m : Int) - i) m i f P' A [] B S' (P' ++ A ++ B ++ S') out wr (by omega) rfl rfl (by simp) (by simpa using hO) hR (by omega) hA hB (by simp; omega) hN)
      have HW := Lib.hid hW
      clear HR hR hA hB hP hO hW
      go_wp2_with fail
      refine C.out.mono ?_; rintro e w' ⟨rfl, h1, h2⟩
      have H1 := Lib.hid h1
      clear h1
      go_wp2_with fail
      go_end0
      exact ⟨rfl, H1.out, HW.out.trans_ h2⟩
    · have hne : ((i : Int) != (j : Int)) = true := by simp; omega
      obtain ⟨P', A, B, S', hR, hA, hB, hP, hO, hW⟩ := HR.out
      by_cases hlt : j < i
      · have hltz : (j : Int) < (i : Int) := by omega
        have hA1 : (A.take j).length = j := by rw [List.length_take]; omega
        have hA2 : (A.drop j).length = i - j := by rw [List.length_drop]; omega
        have C := Lib.hid (swapRange_z g N cap (m - i) m j ((m : Int) - i) m j f P' (A.take j) (A.drop j) B S' (P' ++ A ++ B ++ S') (P' ++ B ++ (A.drop j) ++ (A.take j) ++ S') wr (by omega) rfl rfl (by simp) rfl hR (by omega) hA1 hB (by omega) hN)
        have HF : Hid (∀ w', FRow w' g N (P' ++ B ++ (A.drop j) ++ (A.take j) ++ S') → Only g wr w' → ∃ P A B S : List Nat, FRow w' g N (P ++ A ++ B ++ S) ∧ A.length = i - j ∧ B.length = j ∧ P.length + (i - j) = m ∧ P ++ B ++ A ++ S = out ∧ Only g w w') := fun w' h1 h2 =>
          ⟨P' ++ B, A.drop j, A.take j, S', h1, hA2, hA1, by rw [List.length_append]; omega, by rw [← hO]; simp, hW.trans_ h2⟩
        clear HR hR hA hB hP hO hW hA1 hA2
        go_wp2_with fail
        refine C.out.mono ?_; rintro e w' ⟨rfl, h1, h2⟩
        have H1 := Lib.hid (HF.out w' h1 h2)
        clear h1 h2 HF C
        go_wp2_with fail
        go_roundg (i - j + j)
        case measure => omega
        case rel => exact ⟨i - j, j, by congr 1; omega, rfl, by omega, hj0, by omega, by omega, hjb, H1.out⟩
      · have hltz : ¬ (j : Int) < (i : Int) := by omega
        have hB1 : (B.take (j - i)).length = j - i := by rw [List.length_take]; omega
        have hB2 : (B.drop (j - i)).length = i := by rw [List.length_drop]; omega
        have C := Lib.hid (swapRange_z g N cap (m - i) (m + (j - i)) i ((m : Int) - i) ((m : Int) + j - i) i f P' A (B.take (j - i)) (B.drop (j - i)) S' (P' ++ A ++ B ++ S') (P' ++ (B.drop (j - i)) ++ (B.take (j - i)) ++ A ++ S') wr (by omega) (by omega) rfl (by
            have e : B.take (j - i) ++ B.drop (j - i) = B := List.take_append_drop _ _
            calc P' ++ A ++ B.take (j - i) ++ B.drop (j - i) ++ S' = P' ++ A ++ (B.take (j - i) ++ B.drop (j - i)) ++ S' := by simp only [List.append_assoc]
              _ = _ := by rw [e]) rfl hR (by omega) hA hB2 (by omega) hN)
        have HF : Hid (∀ w', FRow w' g N (P' ++ (B.drop (j - i)) ++ (B.take (j - i)) ++ A ++ S') → Only g wr w' → ∃ P A B S : List Nat, FRow w' g N (P ++ A ++ B ++ S) ∧ A.length = i ∧ B.length = j - i ∧ P.length + i = m ∧ P ++ B ++ A ++ S = out ∧ Only g w w') := fun w' h1 h2 =>
          ⟨P', B.drop (j - i), B.take (j - i), A ++ S', by simpa using h1, hB2, hB1, hP, by
            rw [← hO]
            have e : B.take (j - i) ++ B.drop (j - i) = B := List.take_append_drop _ _
            calc P' ++ B.take (j - i) ++ B.drop (j - i) ++ (A ++ S') = P' ++ (B.take (j - i) ++ B.drop (j - i)) ++ A ++ S' := by simp only [List.append_assoc]
              _ = _ := by rw [e], hW.trans_ h2⟩
        clear HR hR hA hB hP hO hW hB1 hB2
        go_wp2_with fail
        refine C.out.mono ?_; rintro e w' ⟨rfl, h1, h2⟩
        have H1 := Lib.hid (HF.out w' h1 h2)
        clear h1 h2 HF C
        go_wp2_with fail
        go_roundg (i + (j - i))
        case measure => omega
        case rel => exact ⟨i, j - i, rfl, by congr 1; omega, hi0, by omega, by omega, him, by omega, H1.out⟩
end Go.Proofs.YtkhoaaoddpjnpaaDoor.Sorts
