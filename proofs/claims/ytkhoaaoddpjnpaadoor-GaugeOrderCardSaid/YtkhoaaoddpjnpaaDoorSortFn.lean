/- gauge.Sort, walked: new memory that holds the stable sort. -/
import Derived.Test.YtkhoaaoddpjnpaaDoorStable
import Derived.OwnWalk
import Derived.Laws.AppendOwn
import Derived.Lib.SliceRun
namespace Go.Proofs.YtkhoaaoddpjnpaaDoor.Sorts
open Go Go.RowKit Go.Proofs.YtkhoaaoddpjnpaaDoor Go.Proofs.YtkhoaaoddpjnpaaDoor.Flt Go.Proofs.YtkhoaaoddpjnpaaDoor.Cmp Go.Proofs.YtkhoaaoddpjnpaaDoor.Mem

theorem info_float : (Tryd.prog.info? 29).map (fun i => (i.zero, i.size, i.bytes)) = some (some (.float .f64 0), 1, 8) := by kernel_rfl

/-- A slice of the call's own, of just these numbers. -/
def FOwn (w : World) (B : Nat) (v : Value) (xs : List Nat) : Prop := w.ownsRow B 29 1 v xs.length (xs.map (Value.float .f64)) ∧ ∀ x ∈ xs, x < 18446744073709551616

theorem FOwn.row {w : World} {B : Nat} {v : Value} {xs : List Nat} (h : FOwn w B v xs) (hne : 0 < xs.length) : ∃ g c, v = .slice (some ⟨g, 0, none⟩) xs.length c ∧ B ≤ g ∧ xs.length ≤ c ∧ c ≤ maxLen ∧ FRow w g xs.length xs := by
  rcases h.1.2 with ⟨_, h0⟩ | ⟨g, cap, cur, rfl, hb, hh, hn, hc, hsz, ht⟩
  · omega
  · exact ⟨g, cap, rfl, hb, hn, hc, rfl, h.2, cur, hh, by simpa using ht⟩

theorem FRow.fs {w : World} {g n : Nat} {xs : List Nat} (h : FRow w g n xs) : FS w w.heap.size (some ⟨g, 0, none⟩) xs :=
  ⟨h.2.1, fun _ => ⟨g, 0, rfl, h.lt, fun j x hx => by rw [Nat.zero_add]; exact h.cell hx⟩⟩

set_option maxHeartbeats 1000000 in
theorem clone_some (ad : Addr) (c : Nat) (xs : List Nat) (n : Nat) (w : World) (hl : xs.length = n) (fl : FS w w.heap.size (some ad) xs) (hn : n ≤ 100000) :
    Calls Tryd.prog 64 #[.slice (some ad) n c] w fun e w' => ∃ v, e = .returned v ∧ FOwn w' w.heap.size v xs ∧ Below w.heap.size w w' := by
  obtain ⟨i, hi, hx⟩ := Option.map_eq_some_iff.1 info_float
  simp only [Prod.mk.injEq] at hx
  obtain ⟨h0, h1, h2⟩ := hx
  have hnil := fun W => Lib.run_eql_slice_nil (P := Tryd.prog) W 22 29 (some ad) n c 0 0 Tryd.underlying22
  have hown : (w.alloc (.cells #[] 29)).ownsRow w.heap.size 29 1 (.slice (some ⟨w.heap.size, 0, none⟩) 0 0) 0 [] :=
    ⟨rfl, .inr ⟨w.heap.size, 0, #[], rfl, Nat.le_refl _, heap_alloc_new w _, Nat.le_refl _, Nat.zero_le _, rfl, rfl⟩⟩
  have hnews : ∀ j u, (xs.map (Value.float .f64))[j]? = some u → (w.alloc (.cells #[] 29)).cell? (ad.add j) = some u := by
    intro j u hu
    rw [List.getElem?_map] at hu
    obtain ⟨x, hxj, rfl⟩ := Option.map_eq_some_iff.1 hu
    obtain ⟨b, o, e, hb, hc⟩ := fl.2 (by rintro rfl; simp at hxj)
    cases e
    have ea : (⟨b, o, none⟩ : Addr).add j = ⟨b, o + j, none⟩ := by unfold Addr.add; split <;> simp_all
    rw [ea, World.cell?_alloc_lt w _ _ (by exact hb)]
    exact hc j x hxj
  have Hown := Lib.hid hown
  have Hnews := Lib.hid hnews
  have Hl := Lib.hid hl
  have Fl := Lib.hid fl
  have Hi := Lib.hid (And.intro hi (And.intro h0 (And.intro h1 h2)))
  clear hown hnews hl fl hi h0 h1 h2
  go_enter Tryd.func64, Tryd.ntmps64
  go_wp2_with (at_builtin; refine wpList_append_own _ rfl _ _ 22 rfl w.heap.size 29 i (.float .f64 0) 1 8 Tryd.underlying22 Hi.out.1 Hi.out.2.1 Hi.out.2.2.1 Hi.out.2.2.2 rfl (by decide) _ 0 [] rfl Hown.out ad n c (xs.map (Value.float .f64)) rfl (by rw [List.length_map, Hl.out, Nat.mul_one]) Hnews.out (fun u hu => by obtain ⟨x, _, rfl⟩ := List.mem_map.1 hu; rfl) (by unfold maxLen; omega) (by omega) (by simp) ?_; intro v1 w1 ho1 hg1 _)
  go_ret
  refine ⟨_, rfl, ⟨?_, Fl.out.1⟩, ?_⟩
  · have k := ho1
    rw [Hl.out]
    simpa using k
  · exact ((Below.refl _ _).alloc (Nat.le_refl _) _).grown hg1 (by simp) (fun k hk => by cases hk; exact Nat.le_refl _)

theorem clone_none (n c : Nat) (w : World) : Calls Tryd.prog 64 #[.slice none n c] w fun e w' => e = .returned (.slice none 0 0) ∧ w = w' := by
  have hnil := fun W => Lib.run_eql_slice_nil (P := Tryd.prog) W 22 29 none n c 0 0 Tryd.underlying22
  go_enter Tryd.func64, Tryd.ntmps64
  go_wp2_with fail
  go_ret
  exact ⟨rfl, rfl⟩

/-- Nothing is sorted where there is nothing. -/
theorem stable_none (A : Option Addr) (cap : Nat) (f : Value) (w : World) : Calls Tryd.prog 75 #[.slice A 0 cap, .int .i64 0, f] w fun e w' => e = .returned (.tuple #[]) ∧ w = w' := by
  have C : ∀ W, Calls Tryd.prog 82 #[.slice A 0 cap, .int .i64 0, .int .i64 0, f] W fun e w' => e = .returned (.tuple #[]) ∧ W = w' := by
    intro W
    go_enter Tryd.func82, Tryd.ntmps82
    go_wp2_with fail
    refine wp_loop_rounds 1 ?_
    rw [rounds_succ]
    go_wp2_with fail
    go_end0
    exact ⟨rfl, rfl⟩
  have HC := Lib.hid C
  clear C
  go_enter Tryd.func75, Tryd.ntmps75
  go_wp2_with fail
  refine wp_loop_rounds 1 ?_
  rw [rounds_succ]
  go_wp2_with fail
  refine (HC.out _).mono ?_; rintro e w' ⟨rfl, rfl⟩
  go_wp2_with fail
  refine wp_loop_rounds 1 ?_
  rw [rounds_succ]
  go_wp2_with fail
  go_end0
  exact ⟨rfl, rfl⟩

/-- What Sort leaves. -/
def Sorted (w : World) (n : Nat) (xs : List Nat) (e : Ending) (w' : World) : Prop :=
  ∃ A c, e = .returned (.slice A n c) ∧ n ≤ c ∧ c ≤ maxLen ∧ FS w' w'.heap.size A (ssort xs) ∧ Below w.heap.size w w'

theorem only_below {B g : Nat} {w0 w w' : World} (h : Below B w0 w) (ho : Only g w w') (hg : B ≤ g) (hB : B ≤ w.heap.size) : Below B w0 w' := h.grown ho hB (fun k hk => by cases hk; exact hg)

set_option maxHeartbeats 1000000 in
set_option maxRecDepth 100000 in
theorem sort_any (A : Option Addr) (c : Nat) (xs : List Nat) (n : Nat) (w : World) (hl : xs.length = n) (fl : FS w w.heap.size A xs) (hn : n ≤ 100) :
    Calls Tryd.prog 39 #[.slice A n c] w (Sorted w n xs) := by
  by_cases h0 : n = 0
  · subst h0
    obtain rfl : xs = [] := List.eq_nil_of_length_eq_zero hl
    cases A with
    | none =>
      clear fl hl
      go_enter Tryd.func39, Tryd.ntmps39
      go_wp2_with fail
      refine (clone_none _ _ _).mono ?_; rintro e w' ⟨rfl, rfl⟩
      go_wp2_with (go_at_call 65; go_in)
      refine (stable_none _ _ _ _).mono ?_; rintro e w' ⟨rfl, rfl⟩
      go_wp2_with fail
      go_end0
      go_wp2_with fail
      go_ret
      exact ⟨none, 0, rfl, Nat.le_refl _, Nat.zero_le _, FS.nil_, Below.refl _ _⟩
    | some ad =>
      have C := Lib.hid (clone_some ad c [] 0 w rfl fl (by omega))
      clear fl hl
      go_enter Tryd.func39, Tryd.ntmps39
      go_wp2_with fail
      refine C.out.mono ?_; rintro e w1 ⟨v, rfl, ho, hb⟩
      have HB := Lib.hid hb
      obtain ⟨B, d, hv⟩ : ∃ B d, v = .slice B 0 d ∧ d ≤ maxLen := by
        rcases ho.1.2 with ⟨rfl, _⟩ | ⟨g, cap, cur, rfl, _, _, _, hc, _⟩
        · exact ⟨none, 0, rfl, Nat.zero_le _⟩
        · exact ⟨_, cap, rfl, hc⟩
      obtain ⟨rfl, hd⟩ := hv
      have HD := Lib.hid hd
      clear ho hb hd
      go_wp2_with (go_at_call 65; go_in)
      refine (stable_none _ _ _ _).mono ?_; rintro e w' ⟨rfl, rfl⟩
      go_wp2_with fail
      go_end0
      go_wp2_with fail
      go_ret
      exact ⟨_, d, rfl, Nat.zero_le _, HD.out, FS.nil_, HB.out⟩
  · obtain ⟨b, o, e, hb, hc⟩ := fl.2 (by rintro rfl; simp at hl; omega)
    subst e
    have C := Lib.hid (clone_some ⟨b, o, none⟩ c xs n w hl fl (by omega))
    have Hl := Lib.hid hl
    clear fl hl hb hc
    go_enter Tryd.func39, Tryd.ntmps39
    go_wp2_with fail
    refine C.out.mono ?_; rintro e w1 ⟨v, rfl, ho, hb⟩
    obtain ⟨g, d, hv, hg, hd1, hd2, hr⟩ := ho.row (by have := Hl.out; omega)
    rw [Hl.out] at hv hd1 hr
    subst hv
    have HB := Lib.hid hb
    have HD := Lib.hid (And.intro hd1 (And.intro hd2 hg))
    have S := Lib.hid (stable_any g n d xs w1 hr hn)
    clear ho hb hg hd1 hd2 hr C
    go_wp2_with (go_at_call 65; go_in)
    refine S.out.mono ?_; rintro e w2 ⟨rfl, hr2, ho2⟩
    have HR := Lib.hid hr2
    clear hr2
    go_wp2_with fail
    go_end0
    go_wp2_with fail
    go_ret
    exact ⟨_, d, rfl, HD.out.1, HD.out.2.1, HR.out.fs, only_below HB.out ho2 HD.out.2.2 HB.out.size⟩
end Go.Proofs.YtkhoaaoddpjnpaaDoor.Sorts
