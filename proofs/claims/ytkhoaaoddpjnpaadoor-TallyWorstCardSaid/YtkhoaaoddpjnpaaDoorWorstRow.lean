/- The law TallyWorst: of the sum that clashed most no other one's rate is behind, and of those ahead of it none is alike; sums together clashed as often as both: for every list of sums, it answers true and leaves its argument as it was. No condition of ours. -/
import Derived.Test.YtkhoaaoddpjnpaaDoorOpenRows
import Derived.Laws.Cover2
import Derived.Test.YtkhoaaoddpjnpaaDoorWorstLaw
namespace Go.Proofs.YtkhoaaoddpjnpaaDoor.WorstRow
open Go Go.ChangeShapes Go.WideShapes Go.ChangeAt Go.RowKit Go.Deep Go.Proofs.YtkhoaaoddpjnpaaDoor Go.Proofs.YtkhoaaoddpjnpaaDoor.Mem Go.Proofs.YtkhoaaoddpjnpaaDoor.Row Go.Proofs.YtkhoaaoddpjnpaaDoor.Opened Go.Proofs.YtkhoaaoddpjnpaaDoor.OpenRows Go.Proofs.YtkhoaaoddpjnpaaDoor.Sums

theorem lawful : Lawful Rows.tallyWorstSpec 1 where
  vars := rfl
  fn := fun H ds h => by
    match ds, h with
    | [a], _ => exact ⟨rfl, rfl, rfl⟩

set_option maxRecDepth 100000 in
/-- A slice of the document's sums, opened. -/
theorem open_sums {H : Type} {enc : TypeId × Value → H} {W : World} {base : Nat} {v : Value} {d : DataW H} {ps : List MemPlace} (hval : Value.okWide Tryd.prog W .any base 69 v)
    (h : DataW.Trod enc Tryd.prog W 0 (fun _ => true) true 69 v d ps) :
    ∃ (A : Option Addr) (n c : Nat) (xs : List (List Int)), v = .slice A n c ∧ xs.length = n ∧ n ≤ c ∧ c ≤ maxLen ∧ (∀ x ∈ xs, InRange x) ∧ SS W W.heap.size A xs := by
  obtain ⟨A, n, c, xs, rfl, hl, hn, hc, hq, hr⟩ := open_rows (Q := fun cs => ∃ zs : List Int, zs.length = 27 ∧ cs = zs.map (Value.int .i64) ∧ InRange zs) Tryd.underlying69 cells_ref (by decide) (fun fuel cs x hx hl => sum_of hx hl) hval h
  obtain ⟨r, hrl, hrp⟩ := choose_list (p := fun cs (zs : List Int) => zs.length = 27 ∧ cs = zs.map (Value.int .i64) ∧ InRange zs) xs fun x hx => (hq x hx).2
  have back : ∀ (j : Nat) z, r[j]? = some z → ∃ x, xs[j]? = some x ∧ z.length = 27 ∧ x = z.map (Value.int .i64) ∧ InRange z := fun j z hz => by
    have hj : j < xs.length := by rw [← hrl]; exact (List.getElem?_eq_some_iff.1 hz).1
    obtain ⟨y, hy, hp⟩ := hrp j xs[j] (List.getElem?_eq_getElem hj)
    rw [hz] at hy; cases hy
    exact ⟨xs[j], List.getElem?_eq_getElem hj, hp⟩
  refine ⟨A, n, c, r, rfl, hrl.trans hl, hn, hc, fun z hz => ?_, fun z hz => ?_, fun hne => ?_⟩
  · obtain ⟨j, hj⟩ := List.getElem?_of_mem hz
    obtain ⟨x, _, _, _, h⟩ := back j z hj
    exact h
  · obtain ⟨j, hj⟩ := List.getElem?_of_mem hz
    obtain ⟨x, _, h, _⟩ := back j z hj
    exact h
  · obtain ⟨b, o, rfl, hb, hc⟩ := hr (by rintro rfl; exact hne (List.eq_nil_of_length_eq_zero hrl))
    refine ⟨b, o, rfl, hb, fun j z hz => ?_⟩
    obtain ⟨x, hx, _, rfl, _⟩ := back j z hz
    exact hc j _ hx

set_option maxRecDepth 100000 in
theorem gives : Gives 6 Tryd.f6 := by
  intro H enc W base args ds ps hval hA _ _ _
  rw [Tryd.params6] at hA hval
  obtain ⟨v0, vs0, d0, ds0, p0, q0, hargs, rfl, rfl, h0, r0⟩ := trodAll_cons hA
  obtain ⟨rfl, rfl, rfl⟩ := trodAll_nil r0
  obtain rfl : args = #[v0] := by cases args; simp_all
  obtain ⟨A, n, c, xs, rfl, hl, hn, hc, _, hf⟩ := open_sums (hval 0 69 v0 rfl rfl) h0
  exact WorstLaw.law_any A n c xs W hl hf hn (maxLen_le hc)

set_option maxRecDepth 100000 in
theorem said : Rows.TallyWorstSaid :=
  OpenClaim.holds_of_cond 6 Tryd.f6 rfl rfl rfl rfl rfl rfl rfl ⟨rfl, rfl, rfl, rfl, rfl⟩ rfl rfl rfl rfl rfl (by kernel_rfl) Tryd.func6 (by kernel_rfl)
    (of_decide_eq_true (by kernel_rfl)) (by unfold Func.isWrapper; first | (rw [if_pos (by decide +kernel)]; kernel_rfl) | (rw [if_neg (by decide +kernel)]; exact ⟨rfl, rfl⟩))
    (fun os started H enc _ F => by
      rw [OpenClaim.pre_eq_preRow]
      exact lifted os started H enc F _ _ Rows.tallyWorstSpec #[.slice none 0 0] ([.nil], [], []) 8 (by kernel_rfl) Tryd.func6 lawful rfl (by kernel_rfl) (by kernel_rfl) (by kernel_rfl) (by kernel_rfl) gives)
theorem plain (f : FuncId) (fn : Func) (hf : Tryd.pinned.checked.prog.funcNamed "escritoire/escritoirelaw19.TallyWorst" = some f) (hfn : Tryd.pinned.checked.prog.funcs[f]? = some fn) :
    false = Tryd.pinned.checked.prog.looks [] ∧ ∀ (j : Nat) t, fn.params[j]? = some t → Tryd.pinned.checked.prog.wantsStandIn t = false := by
  obtain rfl : f = 6 := Option.some.inj ((show Tryd.prog.funcNamed "escritoire/escritoirelaw19.TallyWorst" = some 6 by kernel_rfl).symm.trans hf) |>.symm
  obtain rfl : fn = Tryd.f6 := (Option.some.inj (Tryd.func6.symm.trans hfn)).symm
  refine ⟨by kernel_rfl, fun j t ht => ?_⟩
  rw [Tryd.params6] at ht
  have hall : (#[69] : Array TypeId).toList.all (fun t => !Tryd.prog.wantsStandIn t) = true := by kernel_rfl
  have h2 : Tryd.prog.wantsStandIn t = false := by simpa using List.all_eq_true.1 hall t (by simpa using Array.mem_of_getElem? ht)
  exact h2

theorem card : Rows.TallyWorstCardSaid :=
  Claim7.holds_tied_plain_at .later [] _ _ _ _ said (fun _ h => by cases h) (by kernel_rfl) (fun _ h => by cases h) tallyWorst_row_tie rfl ⟨rfl, rfl⟩ (by kernel_rfl) rfl plain (by kernel_rfl)
#print axioms card
end Go.Proofs.YtkhoaaoddpjnpaaDoor.WorstRow
