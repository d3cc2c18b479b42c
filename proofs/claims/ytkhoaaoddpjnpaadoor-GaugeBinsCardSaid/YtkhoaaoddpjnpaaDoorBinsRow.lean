/- The law GaugeBins: how many numbers fall between edges is what the reference tells, and together they are all: for every two lists, it answers true and leaves its arguments as they were. No condition of ours. -/
import Derived.Test.YtkhoaaoddpjnpaaDoorRow
import Derived.Test.YtkhoaaoddpjnpaaDoorBinsLaw
import Derived.Deep.Slices
namespace Go.Proofs.YtkhoaaoddpjnpaaDoor.BinsRow
open Go Go.ChangeShapes Go.WideShapes Go.ChangeAt Go.RowKit Go.Deep Go.Proofs.YtkhoaaoddpjnpaaDoor Go.Proofs.YtkhoaaoddpjnpaaDoor.Mem Go.Proofs.YtkhoaaoddpjnpaaDoor.Row

theorem cells_float : Tryd.prog.cellsOf 29 = 1 := by kernel_rfl

set_option maxRecDepth 100000 in
/-- A slice of floating point numbers, opened. -/
theorem open_floats {H : Type} {enc : TypeId × Value → H} {W : World} {base : Nat} {v : Value} {d : DataW H} {ps : List MemPlace} (hval : Value.okWide Tryd.prog W .any base 22 v)
    (h : DataW.Trod enc Tryd.prog W 0 (fun _ => true) true 22 v d ps) :
    ∃ (A : Option Addr) (n c : Nat) (xs : List Nat), v = .slice A n c ∧ xs.length = n ∧ n ≤ c ∧ c ≤ maxLen ∧ FS W W.heap.size A xs := by
  obtain ⟨a0, len, cap, rfl⟩ := okWide_slice Tryd.underlying22 hval
  obtain ⟨fuel, hf⟩ := h
  rcases open_slice1 Tryd.underlying22 cells_float hf with ⟨hcs, _⟩ | ⟨a, len', cap', m, n, V, D, Pl, hcs, _, hl, hm, hmm, hx, hcell⟩
  · have e : Value.slice a0 len cap = .slice none 0 0 := by simpa [Value.cells] using hcs
    cases e
    exact ⟨none, 0, 0, [], rfl, rfl, Nat.le_refl _, Nat.zero_le _, FS.nil_⟩
  · have e : Value.slice a0 len cap = .slice (some a) len' cap' := by simpa [Value.cells] using hcs
    cases e
    have hmc : m = cap := by simpa using hmm
    subst hmc
    have hfl : ∀ i, i < m → ∃ b, V i = .float .f64 b ∧ b < 18446744073709551616 := by
      intro i hi
      have h2 := (hcell i hi).2
      cases n with
      | zero => simp [DataW.trod] at h2
      | succ n =>
        simp only [DataW.trod, Tryd.underlying29] at h2
        generalize V i = u at h2
        cases u with
        | float k b =>
          simp only at h2
          split at h2
          · rename_i hk
            obtain ⟨rfl, hw⟩ := hk
            exact ⟨b, rfl, by simpa [Lit.wf] using hw⟩
          · cases h2
        | _ => simp at h2
    obtain ⟨B, hB⟩ := choose_lt (α := Nat) (p := fun i b => V i = .float .f64 b ∧ b < 18446744073709551616) hfl
    refine ⟨some a, len, m, (List.range len).map B, rfl, by simp, hl, hm, ?_, fun hn => ?_⟩
    · intro x hx'
      obtain ⟨i, hi, rfl⟩ := List.mem_map.1 hx'
      exact (hB i (by have := List.mem_range.1 hi; omega)).2
    · have hlen : 0 < len := by
        rcases Nat.eq_zero_or_pos len with h0 | h0
        · subst h0; simp at hn
        · exact h0
      have h0 := (hcell 0 (by omega)).1
      have ea : a.add 0 = a := by simp [Addr.add]
      rw [ea] at h0
      have hb := World.block_lt_of_cell? W a h0
      have hsp : a = ⟨a.block, a.off, none⟩ := by
        obtain ⟨b, o, sp⟩ := a
        cases sp with
        | none => rfl
        | some k => simp [World.cell?] at h0; split at h0 <;> simp at h0
      refine ⟨a.block, a.off, congrArg some hsp, hb, fun j x hj => ?_⟩
      rw [List.getElem?_map] at hj
      obtain ⟨i, hi, rfl⟩ := Option.map_eq_some_iff.1 hj
      have hjl : j < len := by
        rcases Nat.lt_or_ge j len with h1 | h1
        · exact h1
        · rw [List.getElem?_eq_none (by simpa using h1)] at hi; cases hi
      rw [List.getElem?_range hjl] at hi
      cases hi
      have hc := (hcell j (by omega)).1
      rw [(hB j (by omega)).1] at hc
      have ej : a.add j = ⟨a.block, a.off + j, none⟩ := by
        unfold Addr.add
        split
        · rename_i h1; subst h1; exact hsp
        · rfl
      rw [ej] at hc
      exact hc

theorem maxLen_le {c : Nat} (h : c ≤ maxLen) : c ≤ 9223372036854775807 := by
  unfold maxLen at h
  omega

theorem lawful : Lawful Rows.gaugeBinsSpec 2 where
  vars := rfl
  fn := fun H ds h => by
    match ds, h with
    | [a, b], _ => exact ⟨rfl, rfl, rfl⟩

set_option maxRecDepth 100000 in
theorem gives : Gives 3 Tryd.f3 := by
  intro H enc W base args ds ps hval hA _ _ _
  rw [Tryd.params3] at hA hval
  obtain ⟨v0, vs0, d0, ds0, p0, q0, hargs, rfl, rfl, h0, r0⟩ := trodAll_cons hA
  obtain ⟨v1, vs1, d1, ds1, p1, q1, rfl, rfl, rfl, h1, r1⟩ := trodAll_cons r0
  obtain ⟨rfl, rfl, rfl⟩ := trodAll_nil r1
  obtain rfl : args = #[v0, v1] := by cases args; simp_all
  obtain ⟨A, n, c, xs, rfl, hl, hn, hc, hf⟩ := open_floats (hval 0 22 v0 rfl rfl) h0
  obtain ⟨A', n', c', ys, rfl, hl', hn', hc', hf'⟩ := open_floats (hval 1 22 v1 rfl rfl) h1
  exact BinsLaw.law_any A A' n n' c c' xs ys W hl hl' hf hf' hn hn' (maxLen_le hc) (maxLen_le hc')

set_option maxRecDepth 100000 in
theorem said : Rows.GaugeBinsSaid :=
  OpenClaim.holds_of_cond 3 Tryd.f3 rfl rfl rfl rfl rfl rfl rfl ⟨rfl, rfl, rfl, rfl, rfl⟩ rfl rfl rfl rfl rfl (by kernel_rfl) Tryd.func3 (by kernel_rfl)
    (of_decide_eq_true (by kernel_rfl)) (by unfold Func.isWrapper; first | (rw [if_pos (by decide +kernel)]; kernel_rfl) | (rw [if_neg (by decide +kernel)]; exact ⟨rfl, rfl⟩))
    (fun os started H enc _ F => by
      rw [OpenClaim.pre_eq_preRow]
      exact lifted os started H enc F _ _ Rows.gaugeBinsSpec #[.slice none 0 0, .slice none 0 0] ([.nil, .nil], [], []) 8 (by kernel_rfl) Tryd.func3 lawful rfl (by kernel_rfl) (by kernel_rfl) (by kernel_rfl) (by kernel_rfl) gives)
theorem plain (f : FuncId) (fn : Func) (hf : Tryd.pinned.checked.prog.funcNamed "escritoire/escritoirelaw03.GaugeBins" = some f) (hfn : Tryd.pinned.checked.prog.funcs[f]? = some fn) :
    false = Tryd.pinned.checked.prog.looks [] ∧ ∀ (j : Nat) t, fn.params[j]? = some t → Tryd.pinned.checked.prog.wantsStandIn t = false := by
  obtain rfl : f = 3 := Option.some.inj ((show Tryd.prog.funcNamed "escritoire/escritoirelaw03.GaugeBins" = some 3 by kernel_rfl).symm.trans hf) |>.symm
  obtain rfl : fn = Tryd.f3 := (Option.some.inj (Tryd.func3.symm.trans hfn)).symm
  refine ⟨by kernel_rfl, fun j t ht => ?_⟩
  rw [Tryd.params3] at ht
  have hall : (#[22, 22] : Array TypeId).toList.all (fun t => !Tryd.prog.wantsStandIn t) = true := by kernel_rfl
  have h2 : Tryd.prog.wantsStandIn t = false := by simpa using List.all_eq_true.1 hall t (by simpa using Array.mem_of_getElem? ht)
  exact h2

theorem card : Rows.GaugeBinsCardSaid :=
  Claim7.holds_tied_plain_at .later [] _ _ _ _ said (fun _ h => by cases h) (by kernel_rfl) (fun _ h => by cases h) gaugeBins_row_tie rfl ⟨rfl, rfl⟩ (by kernel_rfl) rfl plain (by kernel_rfl)
#print axioms card
end Go.Proofs.YtkhoaaoddpjnpaaDoor.BinsRow
