/- Slices of floating point numbers and of ints in memory: what they read as, and what keeps that (no program in sight). -/
import Derived.Below
import Derived.Laws.OwnMore
import Derived.Laws.Rows
import Derived.Deep.AppendLies
import Derived.Deep.Draws
import Derived.Laws.MakeOwn
namespace Go.Proofs.YtkhoaaoddpjnpaaGreatDoor.Mem
open Go Go.RowKit

/-- The slice at A reads as the numbers xs; it lies below block B. -/
def FS (w : World) (B : Nat) (A : Option Addr) (xs : List Nat) : Prop :=
  (∀ x ∈ xs, x < 18446744073709551616) ∧ (xs ≠ [] → ∃ b o, A = some ⟨b, o, none⟩ ∧ b < B ∧ ∀ (j : Nat) x, xs[j]? = some x → w.cell? ⟨b, o + j, none⟩ = some (.float .f64 x))

section
variable {w w' : World} {B B' : Nat} {A : Option Addr} {xs : List Nat}
theorem FS.nil_ : FS w B A [] := ⟨by simp, fun h => absurd rfl h⟩
theorem FS.at_ {k : Nat} (h : FS w B A xs) (hk : k < xs.length) : ∃ b o x, A = some ⟨b, o, none⟩ ∧ b < B ∧ x < 18446744073709551616 ∧ xs[k]? = some x ∧ w.cell? ⟨b, o + k, none⟩ = some (.float .f64 x) := by
  obtain ⟨b, o, rfl, hb, hc⟩ := h.2 (by rintro rfl; simp at hk)
  have hx := List.getElem?_eq_getElem hk
  exact ⟨b, o, xs[k], rfl, hb, h.1 _ (List.getElem_mem hk), hx, hc k _ hx⟩
theorem FS.keep (h : FS w B A xs) (hk : ∀ p : Addr, p.block < B → w'.cell? p = w.cell? p) : FS w' B A xs :=
  ⟨h.1, fun hn => by
    obtain ⟨b, o, e, hb, hc⟩ := h.2 hn
    exact ⟨b, o, e, hb, fun j x hx => (hk ⟨b, o + j, none⟩ hb).trans (hc j x hx)⟩⟩
theorem FS.more (h : FS w B A xs) (hB : B ≤ B') : FS w B' A xs :=
  ⟨h.1, fun hn => by
    obtain ⟨b, o, e, hb, hc⟩ := h.2 hn
    exact ⟨b, o, e, by omega, hc⟩⟩
theorem FS.below (h : FS w B A xs) (hb : Below B w w') : FS w' B A xs := h.keep fun _ hp => hb.cell hp
theorem FS.take_ (h : FS w B A xs) (n : Nat) : FS w B A (xs.take n) := by
  refine ⟨fun x hx => h.1 x (List.mem_of_mem_take hx), fun hn => ?_⟩
  obtain ⟨b, o, e, hb, hc⟩ := h.2 (by rintro rfl; simp at hn)
  refine ⟨b, o, e, hb, fun j x hx => hc j x ?_⟩
  rw [List.getElem?_take] at hx
  split at hx
  · exact hx
  · cases hx
end

theorem below_drewN {B : Nat} {w w' : World} (h : Below B w w') (n : Nat) : Below B w (w'.drewN n) := ⟨h.os, h.tape, h.output, h.size, h.block⟩

/-- Block g is just a row of ints. -/
def IR (w : World) (g : Nat) (t : TypeId) (xs : List Int) : Prop := w.heap[g]? = some (.cells (xs.map (Value.int .i64)).toArray t (0, 0))

section
variable {w w' : World} {g : Nat} {t : TypeId} {xs : List Int}
theorem IR.lt (h : IR w g t xs) : g < w.heap.size := by
  rcases Nat.lt_or_ge g w.heap.size with hlt | hge
  · exact hlt
  · unfold IR at h; rw [Array.getElem?_eq_none hge] at h; cases h
theorem IR.cell (h : IR w g t xs) {k : Nat} {x : Int} (hx : xs[k]? = some x) : w.cell? ⟨g, k, none⟩ = some (.int .i64 x) := by
  rw [cell_of_row w g k _ t (0, 0) h]
  simp [hx]
theorem IR.frozen (h : IR w g t xs) (k : Nat) : w.frozen? ⟨g, k, none⟩ = false := by
  unfold IR at h
  simp [World.frozen?, h]
theorem IR.set_ (h : IR w g t xs) (k : Nat) (x : Int) : IR (w.setCell ⟨g, k, none⟩ (.int .i64 x)) g t (xs.set k x) := by
  unfold IR at h ⊢
  simp [World.setCell, Array.getElem?_modify, h]
theorem IR.drew (h : IR w g t xs) : IR w.drew g t xs := h
theorem IR.drewN (h : IR w g t xs) (n : Nat) : IR (w.drewN n) g t xs := h
theorem IR.alloc (h : IR w g t xs) (o : Obj) : IR (w.alloc o) g t xs := (Below.heap_alloc w o g h.lt).trans h
theorem IR.far (h : IR w g t xs) {p : Addr} (hp : g ≠ p.block) (u : Value) : IR (w.setCell p u) g t xs := (Below.heap_setCell w p u g hp).trans h
theorem IR.below {B : Nat} (h : IR w g t xs) (hb : Below B w w') (hg : g < B) : IR w' g t xs := (hb.block g hg).trans h
theorem IR.new_ (w : World) (t : TypeId) (n : Nat) : IR (w.alloc (.cells (madeCells (#[.int .i64 0] : Array Value) n) t)) w.heap.size t (List.replicate n 0) := by
  unfold IR
  rw [heap_alloc_new]
  congr 2
  apply Array.ext'
  simp [madeCells]
  apply List.ext_getElem
  · simp
  · intro i h1 h2
    simp [Nat.mod_one]
end
end Go.Proofs.YtkhoaaoddpjnpaaGreatDoor.Mem
