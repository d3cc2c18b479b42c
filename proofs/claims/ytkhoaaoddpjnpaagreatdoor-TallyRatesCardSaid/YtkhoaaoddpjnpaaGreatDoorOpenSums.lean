/- A slice of the document's sums, opened. -/
import Derived.Test.YtkhoaaoddpjnpaaGreatDoorOpenRows
import Derived.Test.YtkhoaaoddpjnpaaGreatDoorSums
namespace Go.Proofs.YtkhoaaoddpjnpaaGreatDoor.OpenSums
open Go Go.ChangeShapes Go.WideShapes Go.ChangeAt Go.RowKit Go.Deep Go.Proofs.YtkhoaaoddpjnpaaGreatDoor Go.Proofs.YtkhoaaoddpjnpaaGreatDoor.Mem Go.Proofs.YtkhoaaoddpjnpaaGreatDoor.Row Go.Proofs.YtkhoaaoddpjnpaaGreatDoor.Opened Go.Proofs.YtkhoaaoddpjnpaaGreatDoor.OpenRows Go.Proofs.YtkhoaaoddpjnpaaGreatDoor.Sums

set_option maxRecDepth 100000 in
/-- A slice of the document's sums, opened. -/
theorem open_sums {H : Type} {enc : TypeId × Value → H} {W : World} {base : Nat} {v : Value} {d : DataW H} {ps : List MemPlace} (hval : Value.okWide Tryz.prog W .any base 22 v)
    (h : DataW.Trod enc Tryz.prog W 0 (fun _ => true) true 22 v d ps) :
    ∃ (A : Option Addr) (n c : Nat) (xs : List (List Int)), v = .slice A n c ∧ xs.length = n ∧ n ≤ c ∧ c ≤ maxLen ∧ (∀ x ∈ xs, InRange x) ∧ SS W W.heap.size A xs := by
  obtain ⟨A, n, c, xs, rfl, hl, hn, hc, _, hq, hr⟩ := open_rows (Q := fun cs => ∃ zs : List Int, zs.length = 27 ∧ cs = zs.map (Value.int .i64) ∧ InRange zs) Tryz.underlying22 cells_ref (by decide) (fun fuel cs x hx hl => sum_of hx hl) hval h
  obtain ⟨r, hrl, hrp⟩ := choose_list (p := fun cs (zs : List Int) => zs.length = 27 ∧ cs = zs.map (Value.int .i64) ∧ InRange zs) xs fun x hx => (hq x hx).2
  have back : ∀ (j : Nat) z, r[j]? = some z → ∃ x, xs[j]? = some x ∧ z.length = 27 ∧ x = z.map (Value.int .i64) ∧ InRange z := fun j z hz => by
    have hj : j < xs.length := by rw [← hrl]; exact (List.getElem?_eq_some_iff.1 hz).1
    obtain ⟨y, hy, hp⟩ := hrp j xs[j] (List.getElem?_eq_getElem hj)
    rw [hz] at hy; cases hy
    exact ⟨xs[j], List.getElem?_eq_getElem hj, hp⟩
  refine ⟨A, n, c, r, rfl, hrl.trans hl, hn, hc, fun z hz => ?_, fun z hz => ?_, fun hne => ?_⟩
  · obtain ⟨j, hj⟩ := List.getElem?_of_mem hz
    obtain ⟨x, _, _, _, h⟩ := back j z hj
    exact h
  · obtain ⟨j, hj⟩ := List.getElem?_of_mem hz
    obtain ⟨x, _, h, _⟩ := back j z hj
    exact h
  · obtain ⟨b, o, rfl, hb, hc⟩ := hr (by rintro rfl; exact hne (List.eq_nil_of_length_eq_zero hrl))
    refine ⟨b, o, rfl, hb, fun j z hz => ?_⟩
    obtain ⟨x, hx, _, rfl, _⟩ := back j z hz
    exact hc j _ hx

end Go.Proofs.YtkhoaaoddpjnpaaGreatDoor.OpenSums
