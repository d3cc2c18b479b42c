/- From a contract of a law (it answers true and changes nothing that was there) to the law's statement: what all laws of this seat share. -/
import Derived.Test.YtkhoaaoddpjnpaaGreatDoorCards
import Derived.Test.YtkhoaaoddpjnpaaGreatDoorTie
import Derived.WalkKit
import Derived.ProofKit
import Derived.OpenShut
import Derived.Deep.DeepHandedRow
import Derived.Lay
namespace Go.Proofs.YtkhoaaoddpjnpaaGreatDoor.Row
open Go Go.ChangeShapes Go.WideShapes Go.ChangeAt Go.RowKit

theorem own : ownKnob Tryz.prog.godebug = none := by kernel_rfl
theorem laidOut : laidOutB Tryz.prog = true := by kernel_rfl

/-- What the rows list. -/
def listed : List (String × DataW Unit) := Rows.tallyRatesRow.laid

/-- A world for the witness: the listed variables hold what they are to hold. -/
noncomputable def W0 (os : Os) : World := World.laidAll Tryz.prog os listed

set_option maxRecDepth 100000 in
theorem shaped0 (os : Os) (args : Array Value) : ((W0 os).forCall (fun _ _ => 0) ⟨#[], args, []⟩).Shaped Tryz.prog :=
  World.shaped_of_ZipB (by kernel_rfl) (by kernel_rfl)
set_option maxRecDepth 100000 in
theorem laid0 (os : Os) (args : Array Value) : laidMet Tryz.prog listed ((W0 os).forCall (fun _ _ => 0) ⟨#[], args, []⟩).memory :=
  laidMet_laidAll args (by kernel_rfl) (by kernel_rfl)

section
variable {H : Type} {enc : TypeId × Value → H} {P : Program}

/-- Arguments read as they did, where nothing that was there has changed. -/
theorem trodAll_below (hl : laidOutB P = true) {W W' : World} (hb : Below W.heap.size W W') : ∀ (ts : List TypeId) (vs : List Value) (ds : List (DataW H)) (ps : List MemPlace), (∀ t ∈ ts, P.readableRec t = true ∧ t < P.types.size) →
    DataW.TrodAll enc P W 0 (fun _ => true) true ts vs ds ps → (∀ x ∈ ps, x.block < W.heap.size) → DataW.TrodAll enc P W' 0 (fun b => decide (b < W.heap.size)) true ts vs ds ps
  | [], vs, ds, ps, _, h, _ => by
    obtain ⟨rfl, rfl, rfl⟩ := trodAll_nil h
    exact trodAll_mk0
  | t :: ts, vs, ds, ps, hr, h, hlt => by
    obtain ⟨v, vs', d, ds', p, q, rfl, rfl, rfl, h0, h1⟩ := trodAll_cons h
    exact trodAll_cons_mk (Below.trod hl (hr t (by simp)).1 (hr t (by simp)).2 h0 hb (fun x hx => hlt x (by simp [hx]))) (trodAll_below hl hb ts vs' ds' q (fun t ht => hr t (by simp [ht])) h1 (fun x hx => hlt x (by simp [hx])))
end

/-- What the walk of a law shows. -/
def Gives (K : FuncId) (fn : Func) : Prop := ∀ (H : Type) (enc : TypeId × Value → H) (W : World) (base : Nat) (args : Array Value) (ds : List (DataW H)) (ps : List MemPlace),
  (∀ (j : Nat) t v, fn.params[j]? = some t → args[j]? = some v → Value.okWide Tryz.prog W .any base t v) →
  DataW.TrodAll enc Tryz.prog W 0 (fun _ => true) true fn.params.toList args.toList ds ps → (∀ x ∈ ps, x.block < W.heap.size) →
  (DataW.weightsEach Tryz.prog fn.params.toList ds).all (· ≤ reachBytes) = true → laidMetH Tryz.prog listed W →
  Calls Tryz.prog K args W fun e W' => e = .returned (.bool true) ∧ Below W.heap.size W W'

/-- A law's specification: true; its arguments as they were. -/
structure Lawful (s : ChangeSpec) (n : Nat) : Prop where
  vars : s.vars = []
  fn : ∀ (H : Type) (ds : List (DataW H)), ds.length = n → (s.fn H ds).results = [.lit (.bool true)] ∧ (s.fn H ds).args = ds ∧ (s.fn H ds).vars = []

theorem trodAll_length {H : Type} {enc : TypeId × Value → H} {P : Program} {W : World} {b : Nat} {sp : Nat → Bool} {hd : Bool} : ∀ (ts : List TypeId) (vs : List Value) (ds : List (DataW H)) (ps : List MemPlace), DataW.TrodAll enc P W b sp hd ts vs ds ps → ds.length = ts.length
  | [], vs, ds, ps, h => by obtain ⟨rfl, rfl, rfl⟩ := trodAll_nil h; rfl
  | t :: ts, vs, ds, ps, h => by
    obtain ⟨v, vs', d, ds', p, q, rfl, rfl, rfl, h0, h1⟩ := trodAll_cons h
    simp [trodAll_length ts vs' ds' q h1]

set_option maxRecDepth 100000 in
theorem lifted (os : Os) (started : os.Started) (H : Type) (enc : TypeId × Value → H) (F : Stop.Interp) (K : FuncId) (fn : Func) (s : ChangeSpec) (args0 : Array Value) (x : List (DataW H) × List (DataW H) × List MemPlace) (fuel : Nat)
    (hno : Tryz.prog.inits.idxOf? K = none) (hfn : Tryz.prog.funcs[K]? = some fn) (hs : Lawful s fn.params.size) (hres : fn.resultTypes = #[4]) (hpar0 : (fn.params.toList.all fun t => Tryz.prog.readableRec t && decide (t < Tryz.prog.types.size)) = true)
    (hok : Input.okWideB Tryz.prog ((W0 os).forCall (fun _ _ => 0) ⟨#[], args0, []⟩) K ⟨#[], args0, []⟩ = true)
    (hx : DataW.whole enc Tryz.prog ((W0 os).forCall (fun _ _ => 0) ⟨#[], args0, []⟩).memory fn.params.toList s.vars false args0.toList fuel = some x)
    (hsz : (OpenSpec.ofChange s).bare.sizedB enc Tryz.prog fn false ((W0 os).forCall (fun _ _ => 0) ⟨#[], args0, []⟩).memory args0 fuel = true)
    (gives : Gives K fn) :
    ReturnsInHanded {} Tryz.checked os K .any ((OpenSpec.ofChange s).preRow enc Tryz.prog fn [] false listed) (((OpenSpec.ofChange s).at F).post enc Tryz.prog fn false true false false) := by
  have hpar : ∀ t ∈ fn.params.toList, Tryz.prog.readableRec t = true ∧ t < Tryz.prog.types.size := fun t ht => by
    have h := List.all_eq_true.1 hpar0 t ht
    simpa using h
  refine returnsInHanded_of_row (C := Tryz.checked) (s := OpenSpec.ofChange s) own started hno hfn
    ⟨W0 os, fun _ _ => 0, ⟨#[], args0, []⟩, World.laidAll_os _ _ _, shaped0 os args0, (Input.okWide_of_okWideB (base := 0) hok).1, (Input.okWide_of_okWideB hok).2,
      OpenSpec.preRow_of_cond fuel hx rfl (fun k hk => by cases hk) hsz (laid0 os args0), by
        simp only [Assume.holds]
        exact ⟨by simp, by simp, by simp, by simp, by simp⟩⟩ ?_
  intro W base args ds gs before hval hW _ _ hwt hL _ _
  have hW' := hW
  obtain ⟨p, q, hA, hV, rfl, _, _⟩ := hW
  have hv0 : (OpenSpec.ofChange s).vars = [] := hs.vars
  rw [hv0] at hV
  obtain ⟨rfl, rfl⟩ := trodVars_none hV
  have hlt : ∀ x ∈ p, x.block < W.heap.size := fun x hx => hW'.lt x (by simp [hx])
  have hlen := trodAll_length _ _ _ _ hA
  have hspec := hs.fn H ds (by rw [hlen]; simp)
  have hwt' : (DataW.weightsEach Tryz.prog fn.params.toList ds).all (· ≤ reachBytes) = true := by
    have e : (OpenSpec.ofChange s).bare.plain.varTypes Tryz.checked.prog = [] := by
      show (OpenSpec.ofChange s).vars.filterMap _ = []
      rw [hv0]; rfl
    rw [e, List.append_nil, List.append_nil] at hwt
    exact hwt
  refine (gives H enc W base args ds p hval hA hlt hwt' hL).mono fun e W' ⟨he, hb⟩ => ?_
  subst he
  refine ⟨_, rfl, ds, [], p ++ [], [], p, [], hW', ?_, ?_, ?_, hb.frame _, fun h => by cases h⟩
  · show DataW.TrodAll enc Tryz.prog W' _ _ _ fn.resultTypes.toList ((Value.bool true).resultList fn.resultTypes.size) (s.fn H (ds ++ [])).results []
    rw [List.append_nil, hspec.1, hres]
    exact trodAll_cons_mk (shut_bool Tryz.underlying4 true) trodAll_mk0
  · show DataW.TrodAll enc Tryz.prog W' 0 _ true fn.params.toList args.toList (s.fn H (ds ++ [])).args p
    rw [List.append_nil, hspec.2.1]
    exact trodAll_below laidOut hb _ _ _ _ hpar hA hlt
  · show DataW.TrodVars enc Tryz.prog W' _ (OpenSpec.ofChange s).vars (s.fn H (ds ++ [])).vars []
    rw [List.append_nil, hspec.2.2, hv0]
    rfl
end Go.Proofs.YtkhoaaoddpjnpaaGreatDoor.Row
