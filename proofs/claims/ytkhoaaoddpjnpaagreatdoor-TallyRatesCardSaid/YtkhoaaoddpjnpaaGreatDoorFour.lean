/- Blocks of four numbers. -/
import Derived.Test.YtkhoaaoddpjnpaaGreatDoorRatio
namespace Go.Proofs.YtkhoaaoddpjnpaaGreatDoor.Four
open Go Go.RowKit Go.Proofs.YtkhoaaoddpjnpaaGreatDoor Go.Proofs.YtkhoaaoddpjnpaaGreatDoor.Ratio

/-- Block g holds just the four numbers. -/
def V4 (w : World) (g a b c d : Nat) : Prop := w.heap[g]? = some (.cells #[.float .f64 a, .float .f64 b, .float .f64 c, .float .f64 d] 34 (0, 0))
section
variable {w w' : World} {B g a b c d : Nat}
theorem V4.lt (h : V4 w g a b c d) : g < w.heap.size := (Array.getElem?_eq_some_iff.1 h).1
theorem V4.new_ (w : World) (a b c d : Nat) : V4 (w.alloc (.cells #[.float .f64 a, .float .f64 b, .float .f64 c, .float .f64 d] 34)) w.heap.size a b c d := heap_alloc_new w _
theorem V4.alloc (h : V4 w g a b c d) (o : Obj) : V4 (w.alloc o) g a b c d := (Below.heap_alloc w o g h.lt).trans h
theorem V4.below (h : V4 w g a b c d) (hb : Below B w w') (hg : g < B) : V4 w' g a b c d := (hb.block g hg).trans h
theorem V4.drewN (h : V4 w g a b c d) (n : Nat) : V4 (w.drewN n) g a b c d := h
theorem V4.cell (h : V4 w g a b c d) : w.cell? ⟨g, 0, none⟩ = some (.float .f64 a) ∧ w.cell? ⟨g, 1, none⟩ = some (.float .f64 b) ∧ w.cell? ⟨g, 2, none⟩ = some (.float .f64 c) ∧ w.cell? ⟨g, 3, none⟩ = some (.float .f64 d) := by
  refine ⟨?_, ?_, ?_, ?_⟩ <;> (rw [cell_of_row w g _ _ _ _ h]; rfl)
theorem V4.frozen (h : V4 w g a b c d) : w.frozen? ⟨g, 0, none⟩ = false ∧ w.frozen? ⟨g, 1, none⟩ = false ∧ w.frozen? ⟨g, 2, none⟩ = false ∧ w.frozen? ⟨g, 3, none⟩ = false := by
  unfold V4 at h
  refine ⟨?_, ?_, ?_, ?_⟩ <;> simp [World.frozen?, h]
theorem V4.set_ (h : V4 w g a b c d) (p q r s : Nat) : V4 ((((w.setCell ⟨g, 0, none⟩ (.float .f64 p)).setCell ⟨g, 1, none⟩ (.float .f64 q)).setCell ⟨g, 2, none⟩ (.float .f64 r)).setCell ⟨g, 3, none⟩ (.float .f64 s)) g p q r s :=
  four_cells w g _ _ _ _ _ _ _ _ _ _ h
theorem V4.far {k : Nat} (h : V4 w g a b c d) (hk : g ≠ k) (p q r s : Value) : V4 ((((w.setCell ⟨k, 0, none⟩ p).setCell ⟨k, 1, none⟩ q).setCell ⟨k, 2, none⟩ r).setCell ⟨k, 3, none⟩ s) g a b c d := by
  unfold V4
  rw [Below.heap_setCell _ _ _ _ hk, Below.heap_setCell _ _ _ _ hk, Below.heap_setCell _ _ _ _ hk, Below.heap_setCell _ _ _ _ hk]
  exact h
end
end Go.Proofs.YtkhoaaoddpjnpaaGreatDoor.Four
