/- A slice whose elements take several cells, opened. -/
import Derived.Test.YtkhoaaoddpjnpaaGreatDoorOpened
import Derived.Deep.MidRow
namespace Go.Proofs.YtkhoaaoddpjnpaaGreatDoor.OpenRows
open Go Go.ChangeShapes Go.WideShapes Go.ChangeAt Go.RowKit Go.Deep Go.Proofs.YtkhoaaoddpjnpaaGreatDoor Go.Proofs.YtkhoaaoddpjnpaaGreatDoor.Row Go.Proofs.YtkhoaaoddpjnpaaGreatDoor.Opened

theorem addr_plain {W : World} {a : Addr} (h : (W.cell? a).isSome = true) : a = ⟨a.block, a.off, none⟩ := by
  obtain ⟨b, o, sp⟩ := a
  cases sp with
  | none => rfl
  | some k => simp [World.cell?] at h; split at h <;> simp at h
theorem addr_add {a : Addr} (h : a = ⟨a.block, a.off, none⟩) (j : Nat) : a.add j = ⟨a.block, a.off + j, none⟩ := by
  unfold Addr.add
  split
  · rename_i h1; subst h1; exact h
  · rfl

set_option maxRecDepth 100000 in
/-- The rows at the slice's address, each as its type has it. -/
theorem open_rows {H : Type} {enc : TypeId × Value → H} {W : World} {base : Nat} {v : Value} {d : DataW H} {ps : List MemPlace} {t e : TypeId} {k : Nat} {Q : List Value → Prop}
    (ht : Tryz.prog.underlying t = some (.slice e)) (hk : Tryz.prog.cellsOf e = k) (hk0 : 0 < k)
    (hQ : ∀ fuel cs x, DataW.trod enc Tryz.prog W 0 (fun _ => true) true fuel e cs = some x → cs.length = k → Q cs)
    (hval : Value.okWide Tryz.prog W .any base t v) (h : DataW.Trod enc Tryz.prog W 0 (fun _ => true) true t v d ps) :
    ∃ (A : Option Addr) (n c : Nat) (xs : List (List Value)), v = .slice A n c ∧ xs.length = n ∧ n ≤ c ∧ c ≤ maxLen ∧ (d = .nil ∧ n = 0 ∨ ∃ es sp, d = .slice es sp ∧ es.length + sp.length = c) ∧ (∀ x ∈ xs, x.length = k ∧ Q x) ∧
      (xs ≠ [] → ∃ b o, A = some ⟨b, o, none⟩ ∧ b < W.heap.size ∧ ∀ (j : Nat) x, xs[j]? = some x → W.rangeAt b (o + j * k) x) := by
  obtain ⟨a0, len, cap, rfl⟩ := okWide_slice ht hval
  obtain ⟨fuel, hf⟩ := h
  rcases open_slice ht hf with ⟨hcs, hx⟩ | ⟨a, len', cap', m, n, D, Pl, hcs, _, hl, hm, hmm, hx, hel⟩
  · have e : Value.slice a0 len cap = .slice none 0 0 := by simpa [Value.cells] using hcs
    cases e
    exact ⟨none, 0, 0, [], rfl, rfl, Nat.le_refl _, Nat.zero_le _, .inl ⟨(Prod.mk.inj hx).1, rfl⟩, by simp, fun h => absurd rfl h⟩
  · have e : Value.slice a0 len cap = .slice (some a) len' cap' := by simpa [Value.cells] using hcs
    cases e
    have hmc : m = cap := by simpa using hmm
    subst hmc
    rw [hk] at hel
    obtain ⟨V, hV⟩ := choose_lt (α := List Value) (p := fun i cs => W.cells? 0 (a.add (i * k)) k = some cs ∧ DataW.trod enc Tryz.prog W 0 (fun _ => true) true n _ cs = some (D i, Pl i)) hel
    have hlen : ∀ i, i < m → (V i).length = k := fun i hi => (World.cells?_some (hV i hi).1).2.1
    refine ⟨some a, len, m, (List.range len).map V, rfl, by simp, hl, hm, .inr ⟨_, _, (Prod.mk.inj hx).1, by simp; omega⟩, fun x hx => ?_, fun hn => ?_⟩
    · obtain ⟨i, hi, rfl⟩ := List.mem_map.1 hx
      have hi' : i < m := by have := List.mem_range.1 hi; omega
      exact ⟨hlen i hi', hQ _ _ _ (hV i hi').2 (hlen i hi')⟩
    · have hl0 : 0 < len := by
        rcases Nat.eq_zero_or_pos len with h0 | h0
        · subst h0; simp at hn
        · exact h0
      have hc0 := (World.cells?_some (hV 0 (by omega)).1).2.2 0 hk0
      rw [Nat.zero_mul, show (a.add 0).add 0 = a by simp [Addr.add]] at hc0
      have hs0 : (W.cell? a).isSome = true := by rw [hc0]; simp [hlen 0 (show 0 < m by omega), hk0]
      have hsp := addr_plain hs0
      obtain ⟨u, hu⟩ := Option.isSome_iff_exists.1 hs0
      refine ⟨a.block, a.off, congrArg some hsp, World.block_lt_of_cell? W a hu, fun j x hj q w hq => ?_⟩
      rw [List.getElem?_map] at hj
      obtain ⟨i, hi, rfl⟩ := Option.map_eq_some_iff.1 hj
      have hjl : j < len := by
        rcases Nat.lt_or_ge j len with h1 | h1
        · exact h1
        · rw [List.getElem?_eq_none (by simpa using h1)] at hi; cases hi
      rw [List.getElem?_range hjl] at hi
      cases hi
      have hq' : q < k := by rw [← hlen j (by omega)]; exact (List.getElem?_eq_some_iff.1 hq).1
      have hc := (World.cells?_some (hV j (by omega)).1).2.2 q hq'
      rw [hq, Go.Deep.add_add, addr_add hsp] at hc
      rw [← hc]
      congr 2
      omega

theorem reach_slice {H : Type} {t e : TypeId} {ts : List TypeId} {es sp : List (DataW H)} {ds : List (DataW H)} {c : Nat} (ht : Tryz.prog.underlying t = some (.slice e)) (hc : es.length + sp.length = c)
    (h : (DataW.weightsEach Tryz.prog (t :: ts) (.slice es sp :: ds)).all (· ≤ reachBytes) = true) : c * Tryz.prog.bytesOf e ≤ 140737488351232 := by
  rw [DataW.weightsEach, DataW.weights] at h
  simp only [ht, List.cons_append, List.all_cons, Bool.and_eq_true, decide_eq_true_eq] at h
  have h1 := h.1
  rw [hc] at h1
  have e1 : reachBytes = 140737488351232 := by decide
  rw [e1] at h1
  exact h1
theorem reach_tail {H : Type} {t : TypeId} {ts : List TypeId} {d : DataW H} {ds : List (DataW H)} (h : (DataW.weightsEach Tryz.prog (t :: ts) (d :: ds)).all (· ≤ reachBytes) = true) : (DataW.weightsEach Tryz.prog ts ds).all (· ≤ reachBytes) = true := by
  rw [DataW.weightsEach, List.all_append, Bool.and_eq_true] at h
  exact h.2
/-- A row of ints. -/
theorem ints_of {H : Type} {enc : TypeId × Value → H} {W : World} {t : TypeId} {n fuel : Nat} {cs : List Value} {x : DataW H × List MemPlace} (ht : Tryz.prog.underlying t = some (.array n 3)) (hn : Tryz.prog.cellsOf t = n)
    (h : DataW.trod enc Tryz.prog W 0 (fun _ => true) true fuel t cs = some x) : ∃ zs : List Int, zs.length = n ∧ cs = zs.map (Value.int .i64) ∧ ∀ z ∈ zs, -9223372036854775808 ≤ z ∧ z ≤ 9223372036854775807 := by
  have hc : Tryz.prog.cellsOf 3 = 1 := by kernel_rfl
  cases fuel with
  | zero => simp [DataW.trod] at h
  | succ fuel =>
    simp only [DataW.trod, ht, hn, hc, Nat.mul_one] at h
    split at h
    · rename_i hl
      obtain ⟨ys, hm, _⟩ := Option.map_eq_some_iff.1 h
      have each : ∀ i, i < n → ∃ z : Int, cs[i]? = some (.int .i64 z) ∧ -9223372036854775808 ≤ z ∧ z ≤ 9223372036854775807 := fun i hi => by
        obtain ⟨y, hy⟩ := Opened.mapM_each hm i (by simpa using hi)
        obtain ⟨z, hz, _, hwf⟩ := DataW.trod_int Tryz.underlying3 hy
        have h1 : cs[i]? = some (.int .i64 z) := by
          have := congrArg (·[0]?) hz
          simpa [List.getElem?_take, List.getElem?_drop] using this
        refine ⟨z, h1, ?_⟩
        have e1 : IntKind.min .i64 = -9223372036854775808 := by decide
        have e2 : IntKind.max .i64 = 9223372036854775807 := by decide
        simp only [Lit.wf, e1, e2, Bool.and_eq_true, decide_eq_true_eq] at hwf
        exact hwf
      obtain ⟨Z, hZ⟩ := choose_lt (α := Int) (p := fun i z => cs[i]? = some (.int .i64 z) ∧ -9223372036854775808 ≤ z ∧ z ≤ 9223372036854775807) each
      refine ⟨(List.range n).map Z, by simp, ?_, fun z hz => ?_⟩
      · apply List.ext_getElem?
        intro i
        by_cases hi : i < n
        · rw [(hZ i hi).1, List.getElem?_map, List.getElem?_map, List.getElem?_range hi]; rfl
        · rw [List.getElem?_eq_none (by omega), List.getElem?_eq_none (by simp; omega)]
      · obtain ⟨i, hi, rfl⟩ := List.mem_map.1 hz
        exact (hZ i (List.mem_range.1 hi)).2
    · cases h

def InRange (zs : List Int) : Prop := ∀ z ∈ zs, -9223372036854775808 ≤ z ∧ z ≤ 9223372036854775807
theorem cells_ref : Tryz.prog.cellsOf 32 = 27 := by kernel_rfl
set_option maxRecDepth 100000 in
/-- A sum as the document has it: 27 ints. -/
theorem sum_of {H : Type} {enc : TypeId × Value → H} {W : World} {fuel : Nat} {cs : List Value} {x : DataW H × List MemPlace} (h : DataW.trod enc Tryz.prog W 0 (fun _ => true) true fuel 32 cs = some x) (hl : cs.length = 27) :
    ∃ zs : List Int, zs.length = 27 ∧ cs = zs.map (Value.int .i64) ∧ InRange zs := by
  obtain ⟨xs, n, _, _, _, hxs, hf⟩ := DataW.trod_struct Tryz.underlying32 h
  have h0 := hf 0 _ rfl
  have h1 := hf 1 _ rfl
  rw [List.getElem?_eq_getElem (by rw [hxs]; decide)] at h0 h1
  obtain ⟨z0, l0, e0, r0⟩ := ints_of Tryz.underlying30 (by kernel_rfl) h0
  obtain ⟨z1, l1, e1, r1⟩ := ints_of Tryz.underlying26 (by kernel_rfl) h1
  have c0 : Tryz.prog.cellsOf 30 = 6 := by kernel_rfl
  have c1 : Tryz.prog.cellsOf 26 = 21 := by kernel_rfl
  replace e0 : (cs.drop 0).take (Tryz.prog.cellsOf 30) = z0.map (Value.int .i64) := e0
  replace e1 : (cs.drop 6).take (Tryz.prog.cellsOf 26) = z1.map (Value.int .i64) := e1
  rw [c0, List.drop_zero] at e0
  rw [c1] at e1
  refine ⟨z0 ++ z1, by simp [l0, l1], ?_, fun z hz => ?_⟩
  · rw [List.map_append, ← e0, ← e1, List.take_of_length_le (l := cs.drop 6) (by rw [List.length_drop, hl]; decide), List.take_append_drop]
  · rcases List.mem_append.1 hz with hz | hz
    · exact r0 z hz
    · exact r1 z hz

theorem choose_list {α β : Type} {p : α → β → Prop} : ∀ (l : List α), (∀ x ∈ l, ∃ y, p x y) → ∃ r : List β, r.length = l.length ∧ ∀ (j : Nat) x, l[j]? = some x → ∃ y, r[j]? = some y ∧ p x y
  | [], _ => ⟨[], rfl, by simp⟩
  | a :: l, h => by
    obtain ⟨y, hy⟩ := h a (List.mem_cons_self ..)
    obtain ⟨r, hr, hp⟩ := choose_list l fun x hx => h x (List.mem_cons_of_mem _ hx)
    refine ⟨y :: r, by simp [hr], fun j x hj => ?_⟩
    cases j with
    | zero => cases hj; exact ⟨y, rfl, hy⟩
    | succ j => exact hp j x (by simpa using hj)
end Go.Proofs.YtkhoaaoddpjnpaaGreatDoor.OpenRows
