/- The law GaugeOrder: which number is ahead, the least, the greatest, ranks, what is sorted: for every list and every two numbers, it answers true and leaves its arguments as they were. No condition of ours. -/
import Derived.Test.YtkhoaaoddpjnpaaDoorOpened
import Derived.Laws.Cover2
import Derived.Test.YtkhoaaoddpjnpaaDoorOrderLaw
namespace Go.Proofs.YtkhoaaoddpjnpaaDoor.OrderRow
open Go Go.ChangeShapes Go.WideShapes Go.ChangeAt Go.RowKit Go.Deep Go.Proofs.YtkhoaaoddpjnpaaDoor Go.Proofs.YtkhoaaoddpjnpaaDoor.Mem Go.Proofs.YtkhoaaoddpjnpaaDoor.Row Go.Proofs.YtkhoaaoddpjnpaaDoor.Opened

theorem lawful : Lawful Rows.gaugeOrderSpec 3 where
  vars := rfl
  fn := fun H ds h => by
    match ds, h with
    | [a, b, c], _ => exact ⟨rfl, rfl, rfl⟩

set_option maxRecDepth 100000 in
theorem gives : Gives 8 Tryd.f8 := by
  intro H enc W base args ds ps hval hA _ _ _
  rw [Tryd.params8] at hA hval
  obtain ⟨v0, vs0, d0, ds0, p0, q0, hargs, rfl, rfl, h0, r0⟩ := trodAll_cons hA
  obtain ⟨v1, vs1, d1, ds1, p1, q1, rfl, rfl, rfl, h1, r1⟩ := trodAll_cons r0
  obtain ⟨v2, vs2, d2, ds2, p2, q2, rfl, rfl, rfl, h2, r2⟩ := trodAll_cons r1
  obtain ⟨rfl, rfl, rfl⟩ := trodAll_nil r2
  obtain rfl : args = #[v0, v1, v2] := by cases args; simp_all
  obtain ⟨A, n, c, xs, rfl, hl, hn, hc, hf⟩ := open_floats (hval 0 22 v0 rfl rfl) h0
  obtain ⟨a, rfl, _, _, ha⟩ := open_float Tryd.underlying29 (hval 1 29 v1 rfl rfl) h1
  obtain ⟨b, rfl, _, _, hb⟩ := open_float Tryd.underlying29 (hval 2 29 v2 rfl rfl) h2
  exact OrderLaw.law_any A n c xs a b W hl hf hn (maxLen_le hc) (by simpa [Lit.wf] using ha) (by simpa [Lit.wf] using hb)

set_option maxRecDepth 100000 in
theorem said : Rows.GaugeOrderSaid :=
  OpenClaim.holds_of_cond 8 Tryd.f8 rfl rfl rfl rfl rfl rfl rfl ⟨rfl, rfl, rfl, rfl, rfl⟩ rfl rfl rfl rfl rfl (by kernel_rfl) Tryd.func8 (by kernel_rfl)
    (of_decide_eq_true (by kernel_rfl)) (by unfold Func.isWrapper; first | (rw [if_pos (by decide +kernel)]; kernel_rfl) | (rw [if_neg (by decide +kernel)]; exact ⟨rfl, rfl⟩))
    (fun os started H enc _ F => by
      rw [OpenClaim.pre_eq_preRow]
      exact lifted os started H enc F _ _ Rows.gaugeOrderSpec #[.slice none 0 0, .float .f64 0, .float .f64 0] ([.nil, .lit (.float .f64 0), .lit (.float .f64 0)], [], []) 8 (by kernel_rfl) Tryd.func8 lawful rfl (by kernel_rfl) (by kernel_rfl) (by kernel_rfl) (by kernel_rfl) gives)
theorem plain (f : FuncId) (fn : Func) (hf : Tryd.pinned.checked.prog.funcNamed "escritoire/escritoirelaw03.GaugeOrder" = some f) (hfn : Tryd.pinned.checked.prog.funcs[f]? = some fn) :
    false = Tryd.pinned.checked.prog.looks [] ∧ ∀ (j : Nat) t, fn.params[j]? = some t → Tryd.pinned.checked.prog.wantsStandIn t = false := by
  obtain rfl : f = 8 := Option.some.inj ((show Tryd.prog.funcNamed "escritoire/escritoirelaw03.GaugeOrder" = some 8 by kernel_rfl).symm.trans hf) |>.symm
  obtain rfl : fn = Tryd.f8 := (Option.some.inj (Tryd.func8.symm.trans hfn)).symm
  refine ⟨by kernel_rfl, fun j t ht => ?_⟩
  rw [Tryd.params8] at ht
  have hall : (#[22, 29, 29] : Array TypeId).toList.all (fun t => !Tryd.prog.wantsStandIn t) = true := by kernel_rfl
  have h2 : Tryd.prog.wantsStandIn t = false := by simpa using List.all_eq_true.1 hall t (by simpa using Array.mem_of_getElem? ht)
  exact h2

theorem card : Rows.GaugeOrderCardSaid :=
  Claim7.holds_tied_plain_at .later [] _ _ _ _ said (fun _ h => by cases h) (by kernel_rfl) (fun _ h => by cases h) gaugeOrder_row_tie rfl ⟨rfl, rfl⟩ (by kernel_rfl) rfl plain (by kernel_rfl)
#print axioms card
end Go.Proofs.YtkhoaaoddpjnpaaDoor.OrderRow
