/- Slices of sums (27 cells each) in memory. -/
import Derived.Test.YtkhoaaoddpjnpaaGreatDoorSumV
import Derived.Test.YtkhoaaoddpjnpaaGreatDoorRatio
namespace Go.Proofs.YtkhoaaoddpjnpaaGreatDoor.Sums
open Go Go.RowKit Go.Proofs.YtkhoaaoddpjnpaaGreatDoor Go.Proofs.YtkhoaaoddpjnpaaGreatDoor.Mem Go.Proofs.YtkhoaaoddpjnpaaGreatDoor.Add Go.Proofs.YtkhoaaoddpjnpaaGreatDoor.Flt Go.Proofs.YtkhoaaoddpjnpaaGreatDoor.Ratio

/-- The slice at A reads as the sums xs; it lies below block B. -/
def SS (w : World) (B : Nat) (A : Option Addr) (xs : List (List Int)) : Prop :=
  (∀ x ∈ xs, x.length = 27) ∧ (xs ≠ [] → ∃ b o, A = some ⟨b, o, none⟩ ∧ b < B ∧ ∀ (j : Nat) x, xs[j]? = some x → w.rangeAt b (o + j * 27) (x.map (Value.int .i64)))

section
variable {w w' : World} {B B' : Nat} {A : Option Addr} {xs : List (List Int)}
theorem SS.nil_ : SS w B A [] := ⟨by simp, fun h => absurd rfl h⟩
theorem SS.below (h : SS w B A xs) (hb : Below B w w') : SS w' B A xs :=
  ⟨h.1, fun hn => by
    obtain ⟨b, o, e, hlt, hc⟩ := h.2 hn
    exact ⟨b, o, e, hlt, fun j x hx k v hv => (hb.cell (p := ⟨b, o + j * 27 + k, none⟩) hlt).trans (hc j x hx k v hv)⟩⟩
theorem SS.more (h : SS w B A xs) (hB : B ≤ B') : SS w B' A xs :=
  ⟨h.1, fun hn => by
    obtain ⟨b, o, e, hb, hc⟩ := h.2 hn
    exact ⟨b, o, e, by omega, hc⟩⟩
theorem SS.at_ {b o j : Nat} {x : List Int} (h : SS w B (some ⟨b, o, none⟩) xs) (hx : xs[j]? = some x) : w.rangeAt b (o + j * 27) (x.map (Value.int .i64)) := by
  obtain ⟨b', o', e, _, hc⟩ := h.2 (by rintro rfl; simp at hx)
  cases e
  exact hc j x hx
theorem SS.lt_ {b o j : Nat} {x : List Int} (h : SS w B (some ⟨b, o, none⟩) xs) (hx : xs[j]? = some x) : b < B := by
  obtain ⟨b', o', e, hlt, _⟩ := h.2 (by rintro rfl; simp at hx)
  cases e
  exact hlt
theorem SS.take_ (h : SS w B A xs) (n : Nat) : SS w B A (xs.take n) := by
  refine ⟨fun x hx => h.1 x (List.mem_of_mem_take hx), fun hn => ?_⟩
  obtain ⟨b, o, e, hb, hc⟩ := h.2 (by rintro rfl; simp at hn)
  refine ⟨b, o, e, hb, fun j x hx => hc j x ?_⟩
  rw [List.getElem?_take] at hx
  split at hx
  · exact hx
  · cases hx
end

/-- The rate of clashes, as a key. -/
def ck (s : List Int) : Int := rkey (s.getD 2 0) (s.getD 0 0)
theorem rate_l (s : List Int) (hs : s.length = 27) (w : World) : Calls Tryz.prog 6 #[sumV s] w fun e w' =>
    ∃ r0 r1 r2 r3, e = .returned (.agg #[.float .f64 r0, .float .f64 r1, .float .f64 r2, .float .f64 r3]) ∧ Below w.heap.size w w' ∧ key r1 = ck s ∧ r1 < 18446744073709551616 := by
  match s, hs with
  | [s0, s1, s2, s3, s4, s5, s6, s7, s8, s9, s10, s11, s12, s13, s14, s15, s16, s17, s18, s19, s20, s21, s22, s23, s24, s25, s26], _ =>
    refine (rate_any s0 s1 s2 s3 s4 s5 s6 s7 s8 s9 s10 s11 s12 s13 s14 s15 s16 s17 s18 s19 s20 s21 s22 s23 s24 s25 s26 w).mono ?_
    rintro e w' ⟨r0, r1, r2, r3, rfl, hb, _, h1, _, _⟩
    exact ⟨r0, r1, r2, r3, rfl, hb, h1.1, h1.2⟩
theorem size_setCells (b : Nat) : ∀ (vs : List Value) (o : Nat) (w : World), (w.setCells b o vs).heap.size = w.heap.size
  | [], _, _ => rfl
  | v :: r, o, w => by rw [World.setCells, size_setCells b r]; simp
/-- The same, as the walk spells it. -/
theorem rate_m (s : List Int) (hs : s.length = 27) (w : World) : Calls Tryz.prog 6 #[.agg (s.map (Value.int .i64)).toArray] w fun e w' =>
    ∃ r0 r1 r2 r3, e = .returned (.agg #[.float .f64 r0, .float .f64 r1, .float .f64 r2, .float .f64 r3]) ∧ Below w.heap.size w w' ∧ key r1 = ck s ∧ r1 < 18446744073709551616 := rate_l s hs w
theorem rate_t (s : List Int) (hs : s.length = 27) (w : World) : Calls Tryz.prog 6 #[.agg (s.map (Value.int .i64)).toArray] w fun e w' =>
    ∃ r0 r1 r2 r3, e = .returned (.agg #[.float .f64 r0, .float .f64 r1, .float .f64 r2, .float .f64 r3]) ∧ Below w.heap.size w w' ∧
      (key r0 = rkey (s.getD 1 0) (s.getD 0 0) ∧ r0 < 18446744073709551616) ∧ (key r1 = rkey (s.getD 2 0) (s.getD 0 0) ∧ r1 < 18446744073709551616) ∧ (key r2 = rkey (s.getD 3 0) (s.getD 0 0) ∧ r2 < 18446744073709551616) ∧ (key r3 = rkey (s.getD 4 0) (s.getD 8 0) ∧ r3 < 18446744073709551616) := by
  match s, hs with
  | [s0, s1, s2, s3, s4, s5, s6, s7, s8, s9, s10, s11, s12, s13, s14, s15, s16, s17, s18, s19, s20, s21, s22, s23, s24, s25, s26], _ =>
    exact rate_any s0 s1 s2 s3 s4 s5 s6 s7 s8 s9 s10 s11 s12 s13 s14 s15 s16 s17 s18 s19 s20 s21 s22 s23 s24 s25 s26 w
theorem index4 (a b c d : Nat) (w : World) : (Instr.index 34 (.agg #[.float .f64 a, .float .f64 b, .float .f64 c, .float .f64 d]) (.int .i64 1)).run Tryz.prog w = .ok (.float .f64 b) w := by kernel_rfl
theorem index_at0 (a b c d : Nat) (w : World) : (Instr.index 34 (.agg #[.float .f64 a, .float .f64 b, .float .f64 c, .float .f64 d]) (.int .i64 0)).run Tryz.prog w = .ok (.float .f64 a) w := by kernel_rfl
theorem index_at2 (a b c d : Nat) (w : World) : (Instr.index 34 (.agg #[.float .f64 a, .float .f64 b, .float .f64 c, .float .f64 d]) (.int .i64 2)).run Tryz.prog w = .ok (.float .f64 c) w := by kernel_rfl
theorem index_at3 (a b c d : Nat) (w : World) : (Instr.index 34 (.agg #[.float .f64 a, .float .f64 b, .float .f64 c, .float .f64 d]) (.int .i64 3)).run Tryz.prog w = .ok (.float .f64 d) w := by kernel_rfl
theorem range_below {B b o : Nat} {w w' : World} {cs : List Value} (h : w.rangeAt b o cs) (hb : Below B w w') (hlt : b < B) : w'.rangeAt b o cs :=
  fun j v hv => (hb.cell (p := ⟨b, o + j, none⟩) hlt).trans (h j v hv)
theorem cmpF_pos (a b : Nat) : 0 < cmpF a b ↔ key b < key a := by
  unfold cmpF; split
  · omega
  · split <;> omega
end Go.Proofs.YtkhoaaoddpjnpaaGreatDoor.Sums
