/- tally.Sum's asked, walked: one Ask counted. -/
import Derived.Test.YtkhoaaoddpjnpaaGreatDoorSums
import Derived.StillTailTactics
namespace Go.Proofs.YtkhoaaoddpjnpaaGreatDoor.Asked
open Go Go.RowKit Go.Proofs.YtkhoaaoddpjnpaaGreatDoor Go.Proofs.YtkhoaaoddpjnpaaGreatDoor.Mem Go.Proofs.YtkhoaaoddpjnpaaGreatDoor.Add Go.Proofs.YtkhoaaoddpjnpaaGreatDoor.Sums

/-- Only block g has turned. -/
def Only (g : Nat) (w w' : World) : Prop := w'.os = w.os ∧ w'.tape = w.tape ∧ w'.output = w.output ∧ w'.heap.size = w.heap.size ∧ ∀ k, k ≠ g → w'.heap[k]? = w.heap[k]?
section
variable {g B : Nat} {a w w' w'' : World}
theorem Only.refl (g : Nat) (w : World) : Only g w w := ⟨rfl, rfl, rfl, rfl, fun _ _ => rfl⟩
theorem Only.trans (h : Only g w w') (h' : Only g w' w'') : Only g w w'' :=
  ⟨h'.1.trans h.1, h'.2.1.trans h.2.1, h'.2.2.1.trans h.2.2.1, h'.2.2.2.1.trans h.2.2.2.1, fun k hk => (h'.2.2.2.2 k hk).trans (h.2.2.2.2 k hk)⟩
theorem Only.set_ (h : Only g w w') (k : Nat) (v : Value) : Only g w (w'.setCell ⟨g, k, none⟩ v) :=
  h.trans ⟨rfl, rfl, rfl, by simp [World.setCell], fun b hb => Below.heap_setCell _ _ _ _ hb⟩
theorem Only.drewN (h : Only g w w') (n : Nat) : Only g w (w'.drewN n) := h
theorem Only.drew (h : Only g w w') : Only g w w'.drew := h
theorem Only.ir {b : Nat} {t : TypeId} {xs : List Int} (h : Only g w w') (hb : b ≠ g) (i : IR w b t xs) : IR w' b t xs := (h.2.2.2.2 b hb).trans i
theorem Only.cell (h : Only g w w') {p : Addr} (hp : p.block ≠ g) : w'.cell? p = w.cell? p := World.cell?_of_block (h.2.2.2.2 _ hp)
theorem below_only (h : Below B a w) (hg : B ≤ g) (o : Only g w w') : Below B a w' :=
  h.trans ⟨o.1, o.2.1, o.2.2.1, Nat.le_of_eq o.2.2.2.1.symm, fun k hk => o.2.2.2.2 k (by omega)⟩
end

/-- Place k one more. -/
def inc (xs : List Int) (k : Nat) : List Int := xs.set k (wrap64 (xs.getD k 0 + 1))
theorem inc_length (xs : List Int) (k : Nat) : (inc xs k).length = xs.length := by unfold inc; simp
theorem ir_inc {w : World} {g : Nat} {t : TypeId} {xs : List Int} (h : IR w g t xs) (k : Nat) : IR (w.setCell ⟨g, k, none⟩ (.int .i64 (wrap64 (xs.getD k 0 + 1)))) g t (inc xs k) := h.set_ _ _
theorem ir_get {w : World} {g : Nat} {t : TypeId} {xs : List Int} (h : IR w g t xs) (k : Nat) (hk : k < xs.length) : w.cell? ⟨g, k, none⟩ = some (.int .i64 (xs.getD k 0)) :=
  h.cell (by rw [List.getElem?_eq_getElem hk, List.getD_eq_getElem?_getD, List.getElem?_eq_getElem hk]; rfl)

def ask2 (s : List Int) (e : Int) : List Int := if e = 0 then inc s 1 else if e = 12 then inc s 2 else if e = 9 then inc s 3 else if e = 13 then inc s 3 else s
def ask3 (s : List Int) (kd : Int) : List Int := if 0 ≤ kd ∧ kd < 21 then inc s (6 + kd.toNat) else s
/-- One Ask counted. -/
def askL (s : List Int) (kd e : Int) : List Int := ask3 (ask2 (inc s 0) e) kd
theorem ask2_length (s : List Int) (e : Int) : (ask2 s e).length = s.length := by unfold ask2; (repeat' split) <;> simp [inc_length]
theorem ask3_length (s : List Int) (e : Int) : (ask3 s e).length = s.length := by unfold ask3; split <;> simp [inc_length]
theorem askL_length (s : List Int) (kd e : Int) : (askL s kd e).length = s.length := by unfold askL; rw [ask3_length, ask2_length, inc_length]

section
variable (s : List Int) (e : Int)
theorem ask2_0 (h : (e == 0) = true) : ask2 s e = inc s 1 := by unfold ask2; rw [if_pos (by simpa using h)]
theorem ask2_12 (h0 : (e == 0) = false) (h : (e == 12) = true) : ask2 s e = inc s 2 := by
  unfold ask2; rw [if_neg (by simpa using h0), if_pos (by simpa using h)]
theorem ask2_9 (h0 : (e == 0) = false) (h1 : (e == 12) = false) (h : (e == 9) = true) : ask2 s e = inc s 3 := by
  unfold ask2; rw [if_neg (by simpa using h0), if_neg (by simpa using h1), if_pos (by simpa using h)]
theorem ask2_13 (h0 : (e == 0) = false) (h1 : (e == 12) = false) (h2 : (e == 9) = false) (h : (e == 13) = true) : ask2 s e = inc s 3 := by
  unfold ask2; rw [if_neg (by simpa using h0), if_neg (by simpa using h1), if_neg (by simpa using h2), if_pos (by simpa using h)]
theorem ask2_no (h0 : (e == 0) = false) (h1 : (e == 12) = false) (h2 : (e == 9) = false) (h : (e == 13) = false) : ask2 s e = s := by
  unfold ask2; rw [if_neg (by simpa using h0), if_neg (by simpa using h1), if_neg (by simpa using h2), if_neg (by simpa using h)]
end
theorem ir_inc' {w : World} {g : Nat} {t : TypeId} {xs : List Int} {k : Nat} {x : Int} (h : IR w g t xs) (hx : Hid (xs.getD k 0 = x)) : IR (w.setCell ⟨g, k, none⟩ (.int .i64 (wrap64 (x + 1)))) g t (inc xs k) := by
  have h' := hx.out; subst h'; exact ir_inc h k
theorem ir_get' {w : World} {g : Nat} {t : TypeId} {xs : List Int} {k : Nat} {x : Int} (h : IR w g t xs) (hk : k < xs.length) (hx : Hid (xs.getD k 0 = x)) : w.cell? ⟨g, k, none⟩ = some (.int .i64 x) := by
  have h' := hx.out; subst h'; exact ir_get h k hk
theorem named (x : Int) : ∃ y, Hid (x = y) := ⟨x, Lib.hid rfl⟩

def Asked (xs : List Int) (kd e : Int) (g : Nat) (w : World) (w' : World) : Prop := IR w' g 28 (askL xs kd e) ∧ Only g w w'
theorem fin_out {w W : World} {g : Nat} {xs X1 X2 : List Int} {kd e : Int} (h : IR W g 28 X2) (ho : Only g w W) (e1 : inc xs 0 = X1) (e2 : ask2 X1 e = X2) (hk : ¬ (0 ≤ kd ∧ kd < 21)) :
    (Ending.returned (.tuple #[]) = Ending.returned (.tuple #[])) ∧ Asked xs kd e g w W := by
  subst e1; subst e2
  refine ⟨rfl, ?_, ho⟩
  unfold askL ask3; rw [if_neg hk]; exact h
theorem fin_in {w W : World} {g k : Nat} {xs X1 X2 : List Int} {e z : Int} (h : IR W g 28 X2) (ho : Only g w W) (e1 : inc xs 0 = X1) (e2 : ask2 X1 e = X2) (hk : k < 21) (hz : Hid (X2.getD (6 + k) 0 = z)) (n : Nat) :
    (Ending.returned (.tuple #[]) = Ending.returned (.tuple #[])) ∧ Asked xs k e g w ((W.drewN n).setCell ⟨g, 6 + k, none⟩ (.int .i64 (wrap64 (z + 1)))) := by
  subst e1; subst e2
  refine ⟨rfl, ?_, (ho.drewN n).set_ _ _⟩
  unfold askL ask3; rw [if_pos (by omega)]
  exact ir_inc' (h.drewN n) hz

set_option maxRecDepth 100000 in
set_option maxHeartbeats 4000000 in
theorem asked_any (g : Nat) (xs : List Int) (kd e : Int) (w : World) (hi : IR w g 28 xs) (hx : xs.length = 27) :
    Calls Tryz.prog 30 #[.pointer (some ⟨g, 0, none⟩), .int .i64 kd, .int .i64 e] w fun r w' => r = .returned (.tuple #[]) ∧ Asked xs kd e g w w' := by
  obtain ⟨x0, E0⟩ := named (xs.getD 0 0)
  have c0 := ir_get' hi (by omega) E0
  have f0 := hi.frozen 0
  have HI := Lib.hid hi
  have HX := Lib.hid hx
  clear hi hx
  go_enter Tryz.func30, Tryz.ntmps30
  go_upto_region 2 with fail
  have HI1 := Lib.hid (ir_inc' HI.out E0)
  have HX1 := Lib.hid (show (inc xs 0).length = 27 by rw [inc_length]; exact HX.out)
  have HO1 := Lib.hid ((Only.refl g w).set_ 0 (.int .i64 (wrap64 (x0 + 1))))
  clear c0 f0
  generalize w.setCell ⟨g, 0, none⟩ (.int .i64 (wrap64 (x0 + 1))) = W1 at *
  obtain ⟨X1, hX1⟩ : ∃ X, inc xs 0 = X := ⟨_, rfl⟩
  rw [hX1] at HI1 HX1
  have EX1 := Lib.hid hX1
  clear hX1
  obtain ⟨y1, E1⟩ := named (X1.getD 1 0)
  obtain ⟨y2, E2⟩ := named (X1.getD 2 0)
  obtain ⟨y3, E3⟩ := named (X1.getD 3 0)
  have c1 := ir_get' HI1.out (by rw [HX1.out]; omega) E1
  have c2 := ir_get' HI1.out (by rw [HX1.out]; omega) E2
  have c3 := ir_get' HI1.out (by rw [HX1.out]; omega) E3
  have f1 := HI1.out.frozen 1
  have f2 := HI1.out.frozen 2
  have f3 := HI1.out.frozen 3
  go_upto_region 9 with fail
  · have HI2 := Lib.hid (show IR (W1.setCell ⟨g, 1, none⟩ (.int .i64 (wrap64 (y1 + 1)))) g 28 (ask2 X1 e) from by rw [ask2_0 _ _ (by assumption)]; exact ir_inc' HI1.out E1)
    have HO2 := Lib.hid (HO1.out.set_ 1 (.int .i64 (wrap64 (y1 + 1))))
    generalize W1.setCell ⟨g, 1, none⟩ (.int .i64 (wrap64 (y1 + 1))) = W2 at *
    have HX2 := Lib.hid (show (ask2 X1 e).length = 27 by rw [ask2_length]; exact HX1.out)
    obtain ⟨X2, hX2⟩ : ∃ X, ask2 X1 e = X := ⟨_, rfl⟩
    rw [hX2] at HI2 HX2
    have EX2 := Lib.hid hX2
    clear hX2 c1 c2 c3 f1 f2 f3
    by_cases hk0 : 0 ≤ kd
    · by_cases hk1 : kd < 21
      · obtain ⟨k, rfl⟩ : ∃ k : Nat, kd = k := ⟨kd.toNat, by omega⟩
        obtain ⟨z, EZ⟩ := named (X2.getD (6 + k) 0)
        have cz := ir_get' HI2.out (by rw [HX2.out]; omega) EZ
        have fz := HI2.out.frozen (6 + k)
        go_wp2_with fail
        go_region
        all_goals (go_end0; exact fin_in HI2.out HO2.out EX1.out EX2.out (by omega) EZ 1)
      · go_wp2_with fail
        go_end0
        exact fin_out HI2.out HO2.out EX1.out EX2.out (by omega)
    · go_wp2_with fail
      go_end0
      exact fin_out HI2.out HO2.out EX1.out EX2.out (by omega)
  · have HI2 := Lib.hid (show IR (W1.setCell ⟨g, 2, none⟩ (.int .i64 (wrap64 (y2 + 1)))) g 28 (ask2 X1 e) from by rw [ask2_12 _ _ (by assumption) (by assumption)]; exact ir_inc' HI1.out E2)
    have HO2 := Lib.hid (HO1.out.set_ 2 (.int .i64 (wrap64 (y2 + 1))))
    generalize W1.setCell ⟨g, 2, none⟩ (.int .i64 (wrap64 (y2 + 1))) = W2 at *
    have HX2 := Lib.hid (show (ask2 X1 e).length = 27 by rw [ask2_length]; exact HX1.out)
    obtain ⟨X2, hX2⟩ : ∃ X, ask2 X1 e = X := ⟨_, rfl⟩
    rw [hX2] at HI2 HX2
    have EX2 := Lib.hid hX2
    clear hX2 c1 c2 c3 f1 f2 f3
    by_cases hk0 : 0 ≤ kd
    · by_cases hk1 : kd < 21
      · obtain ⟨k, rfl⟩ : ∃ k : Nat, kd = k := ⟨kd.toNat, by omega⟩
        obtain ⟨z, EZ⟩ := named (X2.getD (6 + k) 0)
        have cz := ir_get' HI2.out (by rw [HX2.out]; omega) EZ
        have fz := HI2.out.frozen (6 + k)
        go_wp2_with fail
        go_region
        all_goals (go_end0; exact fin_in HI2.out HO2.out EX1.out EX2.out (by omega) EZ 1)
      · go_wp2_with fail
        go_end0
        exact fin_out HI2.out HO2.out EX1.out EX2.out (by omega)
    · go_wp2_with fail
      go_end0
      exact fin_out HI2.out HO2.out EX1.out EX2.out (by omega)
  · have HI2 := Lib.hid (show IR (W1.setCell ⟨g, 3, none⟩ (.int .i64 (wrap64 (y3 + 1)))) g 28 (ask2 X1 e) from by rw [ask2_9 _ _ (by assumption) (by assumption) (by assumption) ]; exact ir_inc' HI1.out E3)
    have HO2 := Lib.hid (HO1.out.set_ 3 (.int .i64 (wrap64 (y3 + 1))))
    generalize W1.setCell ⟨g, 3, none⟩ (.int .i64 (wrap64 (y3 + 1))) = W2 at *
    have HX2 := Lib.hid (show (ask2 X1 e).length = 27 by rw [ask2_length]; exact HX1.out)
    obtain ⟨X2, hX2⟩ : ∃ X, ask2 X1 e = X := ⟨_, rfl⟩
    rw [hX2] at HI2 HX2
    have EX2 := Lib.hid hX2
    clear hX2 c1 c2 c3 f1 f2 f3
    by_cases hk0 : 0 ≤ kd
    · by_cases hk1 : kd < 21
      · obtain ⟨k, rfl⟩ : ∃ k : Nat, kd = k := ⟨kd.toNat, by omega⟩
        obtain ⟨z, EZ⟩ := named (X2.getD (6 + k) 0)
        have cz := ir_get' HI2.out (by rw [HX2.out]; omega) EZ
        have fz := HI2.out.frozen (6 + k)
        go_wp2_with fail
        go_region
        all_goals (go_end0; exact fin_in HI2.out HO2.out EX1.out EX2.out (by omega) EZ 1)
      · go_wp2_with fail
        go_end0
        exact fin_out HI2.out HO2.out EX1.out EX2.out (by omega)
    · go_wp2_with fail
      go_end0
      exact fin_out HI2.out HO2.out EX1.out EX2.out (by omega)
  · have HI2 := Lib.hid (show IR (W1.setCell ⟨g, 3, none⟩ (.int .i64 (wrap64 (y3 + 1)))) g 28 (ask2 X1 e) from by rw [ask2_13 _ _ (by assumption) (by assumption) (by assumption) (by assumption) ]; exact ir_inc' HI1.out E3)
    have HO2 := Lib.hid (HO1.out.set_ 3 (.int .i64 (wrap64 (y3 + 1))))
    generalize W1.setCell ⟨g, 3, none⟩ (.int .i64 (wrap64 (y3 + 1))) = W2 at *
    have HX2 := Lib.hid (show (ask2 X1 e).length = 27 by rw [ask2_length]; exact HX1.out)
    obtain ⟨X2, hX2⟩ : ∃ X, ask2 X1 e = X := ⟨_, rfl⟩
    rw [hX2] at HI2 HX2
    have EX2 := Lib.hid hX2
    clear hX2 c1 c2 c3 f1 f2 f3
    by_cases hk0 : 0 ≤ kd
    · by_cases hk1 : kd < 21
      · obtain ⟨k, rfl⟩ : ∃ k : Nat, kd = k := ⟨kd.toNat, by omega⟩
        obtain ⟨z, EZ⟩ := named (X2.getD (6 + k) 0)
        have cz := ir_get' HI2.out (by rw [HX2.out]; omega) EZ
        have fz := HI2.out.frozen (6 + k)
        go_wp2_with fail
        go_region
        all_goals (go_end0; exact fin_in HI2.out HO2.out EX1.out EX2.out (by omega) EZ 1)
      · go_wp2_with fail
        go_end0
        exact fin_out HI2.out HO2.out EX1.out EX2.out (by omega)
    · go_wp2_with fail
      go_end0
      exact fin_out HI2.out HO2.out EX1.out EX2.out (by omega)
  · have HI2 := Lib.hid (show IR W1 g 28 (ask2 X1 e) from by rw [ask2_no _ _ (by assumption) (by assumption) (by assumption) (by assumption) ]; exact HI1.out)
    have HO2 := Lib.hid HO1.out
    obtain ⟨W2, rfl⟩ : ∃ W, W = W1 := ⟨_, rfl⟩
    have HX2 := Lib.hid (show (ask2 X1 e).length = 27 by rw [ask2_length]; exact HX1.out)
    obtain ⟨X2, hX2⟩ : ∃ X, ask2 X1 e = X := ⟨_, rfl⟩
    rw [hX2] at HI2 HX2
    have EX2 := Lib.hid hX2
    clear hX2 c1 c2 c3 f1 f2 f3
    by_cases hk0 : 0 ≤ kd
    · by_cases hk1 : kd < 21
      · obtain ⟨k, rfl⟩ : ∃ k : Nat, kd = k := ⟨kd.toNat, by omega⟩
        obtain ⟨z, EZ⟩ := named (X2.getD (6 + k) 0)
        have cz := ir_get' HI2.out (by rw [HX2.out]; omega) EZ
        have fz := HI2.out.frozen (6 + k)
        go_wp2_with fail
        go_region
        all_goals (go_end0; exact fin_in HI2.out HO2.out EX1.out EX2.out (by omega) EZ 1)
      · go_wp2_with fail
        go_end0
        exact fin_out HI2.out HO2.out EX1.out EX2.out (by omega)
    · go_wp2_with fail
      go_end0
      exact fin_out HI2.out HO2.out EX1.out EX2.out (by omega)
end Go.Proofs.YtkhoaaoddpjnpaaGreatDoor.Asked
