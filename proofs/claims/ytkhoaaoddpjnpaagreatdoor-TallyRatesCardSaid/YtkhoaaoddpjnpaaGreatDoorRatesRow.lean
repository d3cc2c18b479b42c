/- The law TallyRates: the rates of a sum, the sum that clashed most, and files' sizes are what the document says: for every list of sums and every list of files, it answers true and leaves its arguments as they were. No condition of ours. -/
import Derived.Test.YtkhoaaoddpjnpaaGreatDoorOpenSums
import Derived.Laws.Cover2
import Derived.Test.YtkhoaaoddpjnpaaGreatDoorRatesLaw
namespace Go.Proofs.YtkhoaaoddpjnpaaGreatDoor.RatesRow
open Go Go.ChangeShapes Go.WideShapes Go.ChangeAt Go.RowKit Go.Deep Go.Proofs.YtkhoaaoddpjnpaaGreatDoor Go.Proofs.YtkhoaaoddpjnpaaGreatDoor.Mem Go.Proofs.YtkhoaaoddpjnpaaGreatDoor.Row Go.Proofs.YtkhoaaoddpjnpaaGreatDoor.Opened Go.Proofs.YtkhoaaoddpjnpaaGreatDoor.OpenRows Go.Proofs.YtkhoaaoddpjnpaaGreatDoor.OpenSums Go.Proofs.YtkhoaaoddpjnpaaGreatDoor.Sums

theorem lawful : Lawful Rows.tallyRatesSpec 2 where
  vars := rfl
  fn := fun H ds h => by
    match ds, h with
    | [a, b], _ => exact ⟨rfl, rfl, rfl⟩

theorem piece {cs : List Value} {k : Nat} {v : Value} (h : (cs.drop k).take 1 = [v]) : cs[k]? = some v := by
  have := congrArg (·[0]?) h
  simpa [List.getElem?_take, List.getElem?_drop] using this
theorem cells_node : Tryz.prog.cellsOf 69 = 5 := by kernel_rfl
set_option maxRecDepth 100000 in
/-- A file's cells, opened. -/
theorem node_of {H : Type} {enc : TypeId × Value → H} {W : World} {fuel : Nat} {cs : List Value} {x : DataW H × List MemPlace} (h : DataW.trod enc Tryz.prog W 0 (fun _ => true) true fuel 69 cs = some x) (hl : cs.length = 5) : Sizes.Node cs := by
  obtain ⟨xs, n, _, _, _, hxs, hf⟩ := DataW.trod_struct Tryz.underlying69 h
  have h0 := hf 0 _ rfl
  have h1 := hf 1 _ rfl
  have h2 := hf 2 _ rfl
  have h3 := hf 3 _ rfl
  have h4 := hf 4 _ rfl
  rw [List.getElem?_eq_getElem (by rw [hxs]; decide)] at h0 h1 h2 h3 h4
  obtain ⟨z0, e0, _, _⟩ := DataW.trod_int Tryz.underlying3 h0
  obtain ⟨z1, e1, _, _⟩ := DataW.trod_int Tryz.underlying3 h1
  obtain ⟨z2, e2, _, _⟩ := DataW.trod_int Tryz.underlying3 h2
  obtain ⟨s3, e3, _, hs3⟩ := DataW.trod_string Tryz.underlying9 h3
  have e4 : ∃ A len cap, (cs.drop 4).take (Tryz.prog.cellsOf 58) = [.slice A len cap] := by
    rcases open_slice Tryz.underlying58 h4 with ⟨hcs, _⟩ | ⟨a, len, cap, m, n, D, Pl, hcs, _⟩
    · exact ⟨_, _, _, hcs⟩
    · exact ⟨_, _, _, hcs⟩
  obtain ⟨A4, l4, c4, e4⟩ := e4
  replace e0 : (cs.drop 0).take (Tryz.prog.cellsOf 3) = [.int .i64 z0] := e0
  replace e1 : (cs.drop 1).take (Tryz.prog.cellsOf 3) = [.int .i64 z1] := e1
  replace e2 : (cs.drop 2).take (Tryz.prog.cellsOf 3) = [.int .i64 z2] := e2
  replace e3 : (cs.drop 3).take (Tryz.prog.cellsOf 9) = [.string s3] := e3
  have c0 : Tryz.prog.cellsOf 3 = 1 := by kernel_rfl
  have c1 : Tryz.prog.cellsOf 9 = 1 := by kernel_rfl
  have c2 : Tryz.prog.cellsOf 58 = 1 := by kernel_rfl
  rw [c0] at e0 e1 e2
  rw [c1] at e3
  rw [c2] at e4
  have p0 := piece e0
  have p1 := piece e1
  have p2 := piece e2
  have p3 := piece e3
  have p4 := piece e4
  obtain ⟨u0, u1, u2, u3, u4, rfl⟩ : ∃ u0 u1 u2 u3 u4, cs = [u0, u1, u2, u3, u4] := by
    match cs, hl with
    | [u0, u1, u2, u3, u4], _ => exact ⟨u0, u1, u2, u3, u4, rfl⟩
  cases p0; cases p1; cases p2; cases p3; cases p4
  refine ⟨rfl, ?_, rfl, rfl, ?_⟩
  · intro v hv
    simp only [List.mem_cons, List.not_mem_nil, or_false] at hv
    rcases hv with rfl | rfl | rfl | rfl | rfl <;> rfl
  · show s3.size ≤ _
    unfold maxLen at hs3
    omega

set_option maxRecDepth 100000 in
theorem gives : Gives 3 Tryz.f3 := by
  intro H enc W base args ds ps hval hA _ hwt _
  rw [Tryz.params3] at hA hval hwt
  obtain ⟨v0, vs0, d0, ds0, p0, q0, hargs, rfl, rfl, h0, r0⟩ := trodAll_cons hA
  obtain ⟨v1, vs1, d1, ds1, p1, q1, rfl, rfl, rfl, h1, r1⟩ := trodAll_cons r0
  obtain ⟨rfl, rfl, rfl⟩ := trodAll_nil r1
  obtain rfl : args = #[v0, v1] := by cases args; simp_all
  obtain ⟨A, n, c, xs, rfl, hl, hn, hc, _, hf⟩ := open_sums (hval 0 22 v0 rfl rfl) h0
  obtain ⟨N, p, d, ns, rfl, hnl, hpd, hd, hdat, hns, hrow⟩ := open_rows (Q := Sizes.Node) Tryz.underlying23 cells_node (by decide) (fun fuel cs x hx hl => node_of hx hl) (hval 1 23 v1 rfl rfl) h1
  refine RatesLaw.law_any A N n c p d xs ns W hl hf hn (maxLen_le hc) hnl ⟨fun x hx => (hns x hx).2, hrow⟩ ?_
  rcases hdat with ⟨_, rfl⟩ | ⟨es, sp, rfl, hlen⟩
  · omega
  · have hr := reach_slice Tryz.underlying23 hlen (reach_tail hwt)
    have hb : Tryz.prog.bytesOf 69 = 64 := by kernel_rfl
    rw [hb] at hr
    omega

set_option maxRecDepth 100000 in
theorem said : Rows.TallyRatesSaid :=
  OpenClaim.holds_of_cond 3 Tryz.f3 rfl rfl rfl rfl rfl rfl rfl ⟨rfl, rfl, rfl, rfl, rfl⟩ rfl rfl rfl rfl rfl (by kernel_rfl) Tryz.func3 (by kernel_rfl)
    (of_decide_eq_true (by kernel_rfl)) (by unfold Func.isWrapper; first | (rw [if_pos (by decide +kernel)]; kernel_rfl) | (rw [if_neg (by decide +kernel)]; exact ⟨rfl, rfl⟩))
    (fun os started H enc _ F => by
      rw [OpenClaim.pre_eq_preRow]
      exact lifted os started H enc F _ _ Rows.tallyRatesSpec #[.slice none 0 0, .slice none 0 0] ([.nil, .nil], [], []) 8 (by kernel_rfl) Tryz.func3 lawful rfl (by kernel_rfl) (by kernel_rfl) (by kernel_rfl) (by kernel_rfl) gives)
theorem plain (f : FuncId) (fn : Func) (hf : Tryz.pinned.checked.prog.funcNamed "escritoire/escritoirelaw19.TallyRates" = some f) (hfn : Tryz.pinned.checked.prog.funcs[f]? = some fn) :
    false = Tryz.pinned.checked.prog.looks [] ∧ ∀ (j : Nat) t, fn.params[j]? = some t → Tryz.pinned.checked.prog.wantsStandIn t = false := by
  obtain rfl : f = 3 := Option.some.inj ((show Tryz.prog.funcNamed "escritoire/escritoirelaw19.TallyRates" = some 3 by kernel_rfl).symm.trans hf) |>.symm
  obtain rfl : fn = Tryz.f3 := (Option.some.inj (Tryz.func3.symm.trans hfn)).symm
  refine ⟨by kernel_rfl, fun j t ht => ?_⟩
  rw [Tryz.params3] at ht
  have hall : (#[22, 23] : Array TypeId).toList.all (fun t => !Tryz.prog.wantsStandIn t) = true := by kernel_rfl
  have h2 : Tryz.prog.wantsStandIn t = false := by simpa using List.all_eq_true.1 hall t (by simpa using Array.mem_of_getElem? ht)
  exact h2

theorem card : Rows.TallyRatesCardSaid :=
  Claim7.holds_tied_plain_at .later [] _ _ _ _ said (fun _ h => by cases h) (by kernel_rfl) (fun _ h => by cases h) tallyRates_row_tie rfl ⟨rfl, rfl⟩ (by kernel_rfl) rfl plain (by kernel_rfl)
#print axioms card
end Go.Proofs.YtkhoaaoddpjnpaaGreatDoor.RatesRow
