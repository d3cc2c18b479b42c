/- The arguments of the laws, opened: slices of floating point numbers, numbers, rows of them. -/
import Derived.Test.YtkhoaaoddpjnpaaGreatDoorRow
import Derived.Test.YtkhoaaoddpjnpaaGreatDoorMem
import Derived.Deep.Slices
namespace Go.Proofs.YtkhoaaoddpjnpaaGreatDoor.Opened
open Go Go.ChangeShapes Go.WideShapes Go.ChangeAt Go.RowKit Go.Deep Go.Proofs.YtkhoaaoddpjnpaaGreatDoor Go.Proofs.YtkhoaaoddpjnpaaGreatDoor.Mem Go.Proofs.YtkhoaaoddpjnpaaGreatDoor.Row

theorem cells_float : Tryz.prog.cellsOf 33 = 1 := by kernel_rfl

set_option maxRecDepth 100000 in
/-- A slice of floating point numbers, opened. -/
theorem open_floats {H : Type} {enc : TypeId × Value → H} {W : World} {base : Nat} {v : Value} {d : DataW H} {ps : List MemPlace} (hval : Value.okWide Tryz.prog W .any base 67 v)
    (h : DataW.Trod enc Tryz.prog W 0 (fun _ => true) true 67 v d ps) :
    ∃ (A : Option Addr) (n c : Nat) (xs : List Nat), v = .slice A n c ∧ xs.length = n ∧ n ≤ c ∧ c ≤ maxLen ∧ FS W W.heap.size A xs := by
  obtain ⟨a0, len, cap, rfl⟩ := okWide_slice Tryz.underlying67 hval
  obtain ⟨fuel, hf⟩ := h
  rcases open_slice1 Tryz.underlying67 cells_float hf with ⟨hcs, _⟩ | ⟨a, len', cap', m, n, V, D, Pl, hcs, _, hl, hm, hmm, hx, hcell⟩
  · have e : Value.slice a0 len cap = .slice none 0 0 := by simpa [Value.cells] using hcs
    cases e
    exact ⟨none, 0, 0, [], rfl, rfl, Nat.le_refl _, Nat.zero_le _, FS.nil_⟩
  · have e : Value.slice a0 len cap = .slice (some a) len' cap' := by simpa [Value.cells] using hcs
    cases e
    have hmc : m = cap := by simpa using hmm
    subst hmc
    have hfl : ∀ i, i < m → ∃ b, V i = .float .f64 b ∧ b < 18446744073709551616 := by
      intro i hi
      have h2 := (hcell i hi).2
      cases n with
      | zero => simp [DataW.trod] at h2
      | succ n =>
        simp only [DataW.trod, Tryz.underlying33] at h2
        generalize V i = u at h2
        cases u with
        | float k b =>
          simp only at h2
          split at h2
          · rename_i hk
            obtain ⟨rfl, hw⟩ := hk
            exact ⟨b, rfl, by simpa [Lit.wf] using hw⟩
          · cases h2
        | _ => simp at h2
    obtain ⟨B, hB⟩ := choose_lt (α := Nat) (p := fun i b => V i = .float .f64 b ∧ b < 18446744073709551616) hfl
    refine ⟨some a, len, m, (List.range len).map B, rfl, by simp, hl, hm, ?_, fun hn => ?_⟩
    · intro x hx'
      obtain ⟨i, hi, rfl⟩ := List.mem_map.1 hx'
      exact (hB i (by have := List.mem_range.1 hi; omega)).2
    · have hlen : 0 < len := by
        rcases Nat.eq_zero_or_pos len with h0 | h0
        · subst h0; simp at hn
        · exact h0
      have h0 := (hcell 0 (by omega)).1
      have ea : a.add 0 = a := by simp [Addr.add]
      rw [ea] at h0
      have hb := World.block_lt_of_cell? W a h0
      have hsp : a = ⟨a.block, a.off, none⟩ := by
        obtain ⟨b, o, sp⟩ := a
        cases sp with
        | none => rfl
        | some k => simp [World.cell?] at h0; split at h0 <;> simp at h0
      refine ⟨a.block, a.off, congrArg some hsp, hb, fun j x hj => ?_⟩
      rw [List.getElem?_map] at hj
      obtain ⟨i, hi, rfl⟩ := Option.map_eq_some_iff.1 hj
      have hjl : j < len := by
        rcases Nat.lt_or_ge j len with h1 | h1
        · exact h1
        · rw [List.getElem?_eq_none (by simpa using h1)] at hi; cases hi
      rw [List.getElem?_range hjl] at hi
      cases hi
      have hc := (hcell j (by omega)).1
      rw [(hB j (by omega)).1] at hc
      have ej : a.add j = ⟨a.block, a.off + j, none⟩ := by
        unfold Addr.add
        split
        · rename_i h1; subst h1; exact hsp
        · rfl
      rw [ej] at hc
      exact hc

theorem maxLen_le {c : Nat} (h : c ≤ maxLen) : c ≤ 9223372036854775807 := by
  unfold maxLen at h
  omega


theorem mapM_each {α β : Type} {f : α → Option β} : ∀ {L : List α} {ys : List β}, L.mapM f = some ys → ∀ i ∈ L, ∃ y, f i = some y
  | [], _, _, i, h => by cases h
  | a :: L, ys, e, i, h => by
    rw [List.mapM_cons] at e
    simp only [bind, Option.bind_eq_some_iff, pure, Option.some.injEq] at e
    obtain ⟨y, hy, zs, hzs, rfl⟩ := e
    rcases List.mem_cons.1 h with rfl | h
    · exact ⟨y, hy⟩
    · exact mapM_each hzs i h

theorem one_float {H : Type} {enc : TypeId × Value → H} {W : World} {u : Value} {fuel : Nat} {y : DataW H × List MemPlace} (h2 : DataW.trod enc Tryz.prog W 0 (fun _ => true) true fuel 33 [u] = some y) :
    ∃ b, u = .float .f64 b ∧ b < 18446744073709551616 := by
  cases fuel with
  | zero => simp [DataW.trod] at h2
  | succ n =>
    simp only [DataW.trod, Tryz.underlying33] at h2
    cases u with
    | float k b =>
      simp only at h2
      split at h2
      · rename_i hk
        obtain ⟨rfl, hw⟩ := hk
        exact ⟨b, rfl, by simpa [Lit.wf] using hw⟩
      · cases h2
    | _ => simp at h2

set_option maxRecDepth 100000 in
theorem open_three {H : Type} {enc : TypeId × Value → H} {W : World} {base : Nat} {v : Value} {d : DataW H} {ps : List MemPlace} (hval : Value.okWide Tryz.prog W .any base 43 v)
    (h : DataW.Trod enc Tryz.prog W 0 (fun _ => true) true 43 v d ps) :
    ∃ a b c, v = .agg #[.float .f64 a, .float .f64 b, .float .f64 c] ∧ a < 18446744073709551616 ∧ b < 18446744073709551616 ∧ c < 18446744073709551616 := by
  have hu : Tryz.prog.underlying 43 = some (.array 3 33) := Tryz.underlying43
  have hsz : Tryz.prog.cellsOf 43 = 3 := by kernel_rfl
  simp only [Value.okWide, hu] at hval
  obtain ⟨cs, rfl, hn, _⟩ := hval
  rw [hsz] at hn
  obtain ⟨u0, u1, u2, rfl⟩ : ∃ u0 u1 u2, cs = #[u0, u1, u2] := by
    obtain ⟨l⟩ := cs
    match l, hn with
    | [u0, u1, u2], _ => exact ⟨u0, u1, u2, rfl⟩
  obtain ⟨fuel, hf⟩ := h
  cases fuel with
  | zero => simp [DataW.trod] at hf
  | succ m =>
    simp only [DataW.trod, hu, Value.cells, hsz, cells_float] at hf
    rw [if_pos (show [u0, u1, u2].length = 3 from rfl)] at hf
    simp only [Option.map_eq_some_iff] at hf
    obtain ⟨ys, hy, _⟩ := hf
    obtain ⟨y0, h0⟩ := mapM_each hy 0 (by simp)
    obtain ⟨y1, h1⟩ := mapM_each hy 1 (by simp)
    obtain ⟨y2, h2⟩ := mapM_each hy 2 (by simp)
    obtain ⟨a, rfl, ha⟩ := one_float h0
    obtain ⟨b, rfl, hb⟩ := one_float h1
    obtain ⟨c, rfl, hc⟩ := one_float h2
    exact ⟨a, b, c, rfl, ha, hb, hc⟩
end Go.Proofs.YtkhoaaoddpjnpaaGreatDoor.Opened
