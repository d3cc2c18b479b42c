/- Numbers that are appended to a row of the call's own. -/
import Derived.Test.YtkhoaaoddpjnpaaGreatDoorMem
import Derived.Test.YtkhoaaoddpjnpaaGreatDoorCmp
import Derived.OwnWalk
namespace Go.Proofs.YtkhoaaoddpjnpaaGreatDoor.FRow
open Go Go.RowKit Go.Proofs.YtkhoaaoddpjnpaaGreatDoor Go.Proofs.YtkhoaaoddpjnpaaGreatDoor.Mem

/-- The slice v owns a row of just the numbers xs, in a block from B on. -/
def FO (w : World) (B : Nat) (v : Value) (xs : List Nat) : Prop := (∀ x ∈ xs, x < 18446744073709551616) ∧ w.ownsRow B 33 1 v xs.length (xs.map (Value.float .f64))
theorem info_floatF : (Tryz.prog.info? 33).map (fun i => (i.zero, i.size, i.bytes)) = some (some (.float .f64 0), 1, 8) := by kernel_rfl

section
variable {w0 W W' : World} {B B' : Nat} {v : Value} {xs : List Nat}
theorem FO.nil_ (W : World) (B : Nat) : FO W B (.slice none 0 0) [] := ⟨by simp, rfl, .inl ⟨rfl, rfl⟩⟩
theorem FO.alloc (h : FO W B v xs) (o : Obj) : FO (W.alloc o) B v xs := ⟨h.1, World.ownsRow.alloc h.2 o⟩
theorem FO.low (hr : FO W B v xs) : ∀ k, v.ownBlock = some k → B ≤ k := by
  intro k hk
  rcases hr.2.2 with ⟨rfl, _⟩ | ⟨g, cap, cur, rfl, hb, _⟩
  · simp [Value.ownBlock] at hk
  · simp [Value.ownBlock] at hk; omega
theorem FO.below (hr : FO W B v xs) (hb : Below B' W W') (hlt : W.heap.size ≤ B') : FO W' B v xs := by
  refine ⟨hr.1, hr.2.1, ?_⟩
  rcases hr.2.2 with h' | ⟨g, cap, cur, h1, h2, h3, h4⟩
  · exact .inl h'
  · refine .inr ⟨g, cap, cur, h1, h2, ?_, h4⟩
    have hg : g < W.heap.size := (Array.getElem?_eq_some_iff.1 h3).1
    rw [hb.block g (by omega)]; exact h3
theorem FO.reads {n : Nat} (hr : FO W B v xs) (hn : xs.length = n) : ∃ A cap, v = .slice A n cap ∧ n ≤ cap ∧ cap ≤ maxLen ∧ FS W W.heap.size A xs := by
  subst hn
  have hcells := fun g hg => World.ownsRow.cells (h := hr.2) (g := g) hg
  rcases hr.2.2 with ⟨h0, h⟩ | ⟨g, cap, cur, h1, h2, h3, h4, h5, _⟩
  · obtain rfl : xs = [] := List.eq_nil_of_length_eq_zero h
    exact ⟨none, 0, h0, Nat.le_refl _, Nat.zero_le _, FS.nil_⟩
  · refine ⟨some ⟨g, 0, none⟩, cap, h1, h4, h5, hr.1, fun _ => ⟨g, 0, rfl, (Array.getElem?_eq_some_iff.1 h3).1, fun j x hj => ?_⟩⟩
    have h := hcells g (by rw [h1]; rfl) j (.float .f64 x) (by rw [List.getElem?_map, hj]; rfl)
    have ha : (⟨g, 0, none⟩ : Addr).add j = ⟨g, 0 + j, none⟩ := by unfold Addr.add; split <;> simp_all
    rwa [ha] at h

theorem wpAppF {ops : Array Oper} {rest : List Oper} {o : Oper} {a : Act} {Q : Exit → Act → World → Prop} (x : Nat) (hx64 : x < 18446744073709551616) (hgd : o.guard = none) (s y : Operand)
    (ho : o.op = .call { callee := .builtin .append, args := #[s, y], argTypes := #[67, 67] })
    (hs : a.eval s = v) (hx : a.eval y = .slice (some ⟨W.heap.size, 0, none⟩) 1 1) (hr : FO W B v xs) (hl : xs.length ≤ 10000000000000) (hB : B ≤ W.heap.size) (hb : Below B w0 W)
    (h : ∀ v' w', FO w' B v' (xs ++ [x]) → Below B w0 w' → B ≤ w'.heap.size → wpList Tryz.prog ops Q rest (a.put o.dst v') w') :
    wpList Tryz.prog ops Q (o :: rest) a (W.alloc (.cells #[.float .f64 x] 33)) := by
  obtain ⟨i, hi, hx'⟩ := Option.map_eq_some_iff.1 info_floatF
  simp only [Prod.mk.injEq] at hx'
  obtain ⟨h0, h1, h2⟩ := hx'
  refine wpList_append_own _ hgd s y 67 ho B 33 i (.float .f64 0) 1 8 Tryz.underlying67 hi h0 h1 h2 rfl (by decide) v xs.length (xs.map (Value.float .f64)) hs (hr.alloc _).2 ⟨W.heap.size, 0, none⟩ 1 1 [.float .f64 x] hx (by simp) ?_ ?_ (by unfold maxLen; omega) (by omega) (by simp; omega) ?_
  · intro j u hu
    have ha : (⟨W.heap.size, 0, none⟩ : Addr).add j = ⟨W.heap.size, j, none⟩ := by unfold Addr.add; split <;> simp_all
    rw [ha, cell_of_row _ W.heap.size j _ 33 (0, 0) (heap_alloc_new W _)]
    simpa using hu
  · intro u hu
    obtain rfl : u = .float .f64 x := by simpa using hu
    rfl
  · intro v' w' hown hg _
    have hlow := hr.low
    have hb' := (hb.alloc hB (.cells #[.float .f64 x] 33)).grown hg (by simp; omega) (fun k hk => hlow k hk)
    refine h v' w' ⟨?_, ?_⟩ hb' ?_
    · intro z hz
      rcases List.mem_append.1 hz with hz | hz
      · exact hr.1 z hz
      · obtain rfl : z = x := by simpa using hz
        exact hx64
    · rw [List.length_append, List.map_append]
      exact hown
    · have := hg.size; simp at this; omega
end
end Go.Proofs.YtkhoaaoddpjnpaaGreatDoor.FRow
