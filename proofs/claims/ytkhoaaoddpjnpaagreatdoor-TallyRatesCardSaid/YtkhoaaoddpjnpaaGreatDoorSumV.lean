/- A sum's value, and structs of many cells as results. -/
import Derived.Test.YtkhoaaoddpjnpaaGreatDoorRatio
import Derived.Deep.MidRow
import Derived.Deep.LoopGhost
import Derived.Deep.Cut
namespace Go.Proofs.YtkhoaaoddpjnpaaGreatDoor.Add
open Go Go.RowKit Go.Proofs.YtkhoaaoddpjnpaaGreatDoor Go.Proofs.YtkhoaaoddpjnpaaGreatDoor.Flt Go.Proofs.YtkhoaaoddpjnpaaGreatDoor.Cmp Go.Proofs.YtkhoaaoddpjnpaaGreatDoor.Mem

/-- A sum's value. -/
def sumV (xs : List Int) : Value := .agg (xs.map (Value.int .i64)).toArray

theorem results_cell_mid {P : Program} {fn : Func} {p : Tmp} {ty : TypeId} (h : fn.results = #[.cell p ty]) (tmps : Array Value) (w : World) (b o : Nat) (cs : List Value) (d : TypeDesc)
    (hp : tmps.getD p undef = .pointer (some ⟨b, o, none⟩)) (hc : w.rangeAt b o cs) (hu : P.underlying ty = some d) (hd : d.isRow = true) (hi : (P.info? ty).map (·.size) = some cs.length) :
    (results fn tmps).run P w = .ok (.agg cs.toArray) w := by
  have hp' : tmps[p]?.getD undef = .pointer (some ⟨b, o, none⟩) := by simpa using hp
  simp [results, h, hp', asAddr, run_loadVar_mid w b o ty cs d hc hu hd hi]
theorem below_setCells {B : Nat} {w0 : World} (b : Nat) (hb : B ≤ b) : ∀ (vs : List Value) (o : Nat) (w : World), Below B w0 w → Below B w0 (w.setCells b o vs)
  | [], _, _, h => h
  | v :: r, o, w, h => by
    rw [World.setCells]
    exact below_setCells b hb r (o + 1) _ (h.setCell (p := ⟨b, o, none⟩) hb v)
theorem IR.range {w : World} {g : Nat} {t : TypeId} {xs : List Int} (h : IR w g t xs) : w.rangeAt g 0 (xs.map (Value.int .i64)) := by
  intro j v hv
  rw [List.getElem?_map] at hv
  obtain ⟨x, hxj, rfl⟩ := Option.map_eq_some_iff.1 hv
  rw [Nat.zero_add]
  exact h.cell hxj
theorem IR.there {w : World} {g : Nat} {t : TypeId} {xs : List Int} (h : IR w g t xs) (n : Nat) (hn : n ≤ xs.length) : w.there g 0 n := by
  intro j hj
  rw [Nat.zero_add]
  exact ⟨by rw [h.cell (List.getElem?_eq_getElem (by omega))]; rfl, h.frozen j⟩
theorem info_sum : (Tryz.prog.info? 28).map (·.size) = some 27 := by kernel_rfl

theorem run_index21 (K : List Int) (i : Nat) (y : Int) (hi : i < 21) (hy : K[i]? = some y) (w : World) :
    (Instr.index 26 (.agg (K.map (Value.int .i64)).toArray) (.int .i64 i)).run Tryz.prog w = .ok (.int .i64 y) w := by
  have hz : (Tryz.prog.info? 3).map (·.size) = some 1 := by kernel_rfl
  obtain ⟨u, hu, hs⟩ := Option.map_eq_some_iff.1 hz
  have h0 : (0 : Int) ≤ (i : Int) ∧ (i : Int) < 21 := by omega
  simp [Instr.index, run_underlying Tryz.underlying26, asIntOf, h0, part, sizeOf, typeInfo, hu, hs, hy, Tryz.isAgg3]
  intro h
  omega

end Go.Proofs.YtkhoaaoddpjnpaaGreatDoor.Add
