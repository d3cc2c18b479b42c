/- Sums (27 cells each) that are appended to a row of the call's own. -/
import Derived.Test.YtkhoaaoddpjnpaaGreatDoorSums
import Derived.Test.YtkhoaaoddpjnpaaGreatDoorAsked
import Derived.OwnWalk
namespace Go.Proofs.YtkhoaaoddpjnpaaGreatDoor.RowsOwn
open Go Go.RowKit Go.Proofs.YtkhoaaoddpjnpaaGreatDoor Go.Proofs.YtkhoaaoddpjnpaaGreatDoor.Mem Go.Proofs.YtkhoaaoddpjnpaaGreatDoor.Add Go.Proofs.YtkhoaaoddpjnpaaGreatDoor.Sums Go.Proofs.YtkhoaaoddpjnpaaGreatDoor.Asked

theorem list27 (s : List Int) (h : s.length = 27) : ∃ s0 s1 s2 s3 s4 s5 s6 s7 s8 s9 s10 s11 s12 s13 s14 s15 s16 s17 s18 s19 s20 s21 s22 s23 s24 s25 s26, s = [s0, s1, s2, s3, s4, s5, s6, s7, s8, s9, s10, s11, s12, s13, s14, s15, s16, s17, s18, s19, s20, s21, s22, s23, s24, s25, s26] := by
  match s, h with
  | [s0, s1, s2, s3, s4, s5, s6, s7, s8, s9, s10, s11, s12, s13, s14, s15, s16, s17, s18, s19, s20, s21, s22, s23, s24, s25, s26], _ => exact ⟨s0, s1, s2, s3, s4, s5, s6, s7, s8, s9, s10, s11, s12, s13, s14, s15, s16, s17, s18, s19, s20, s21, s22, s23, s24, s25, s26, rfl⟩

def flat (xs : List (List Int)) : List Value := xs.flatMap fun x => x.map (Value.int .i64)
/-- The slice v owns a row of just the sums xs, in a block from B on. -/
def RO (w : World) (B : Nat) (v : Value) (xs : List (List Int)) : Prop := (∀ x ∈ xs, x.length = 27) ∧ w.ownsRow B 28 27 v xs.length (flat xs)

theorem info_sumrow : (Tryz.prog.info? 28).map (fun i => (i.zero, i.size, i.bytes)) = some (some (.agg (List.replicate 27 (Value.int .i64 0)).toArray), 27, 216) := by kernel_rfl

theorem flat_length : ∀ xs : List (List Int), (∀ x ∈ xs, x.length = 27) → (flat xs).length = xs.length * 27
  | [], _ => rfl
  | x :: r, h => by
    have ih := flat_length r fun y hy => h y (List.mem_cons_of_mem _ hy)
    have hx := h x (List.mem_cons_self ..)
    unfold flat at *
    rw [List.flatMap_cons, List.length_append, ih, List.length_map, hx, List.length_cons]; omega
theorem flat_get : ∀ (xs : List (List Int)), (∀ x ∈ xs, x.length = 27) → ∀ (j k : Nat) (x : List Int), xs[j]? = some x → k < 27 → (flat xs)[j * 27 + k]? = (x.map (Value.int .i64))[k]?
  | [], _, j, k, x, h, _ => by simp at h
  | y :: r, h, 0, k, x, hx, hk => by
    cases hx
    have hy := h y (List.mem_cons_self ..)
    unfold flat
    rw [List.flatMap_cons, List.getElem?_append_left (by rw [List.length_map, hy]; omega)]
    congr 1; omega
  | y :: r, h, j + 1, k, x, hx, hk => by
    have hy := h y (List.mem_cons_self ..)
    have ih := flat_get r (fun z hz => h z (List.mem_cons_of_mem _ hz)) j k x (by simpa using hx) hk
    unfold flat at *
    rw [List.flatMap_cons, List.getElem?_append_right (by rw [List.length_map, hy]; omega), List.length_map, hy, show (j + 1) * 27 + k - 27 = j * 27 + k by omega]
    exact ih

section
variable {w0 W W' : World} {B B' : Nat} {v : Value} {xs : List (List Int)}
theorem RO.nil_ (W : World) (B : Nat) : RO W B (.slice none 0 0) [] := ⟨by simp, rfl, .inl ⟨rfl, rfl⟩⟩
theorem RO.alloc (h : RO W B v xs) (o : Obj) : RO (W.alloc o) B v xs := ⟨h.1, World.ownsRow.alloc h.2 o⟩
theorem RO.low (hr : RO W B v xs) : ∀ k, v.ownBlock = some k → B ≤ k := by
  intro k hk
  rcases hr.2.2 with ⟨rfl, _⟩ | ⟨g, cap, cur, rfl, hb, _⟩
  · simp [Value.ownBlock] at hk
  · simp [Value.ownBlock] at hk; omega
theorem RO.kept (hr : RO W B v xs) (h : ∀ g, g < W.heap.size → B ≤ g → W'.heap[g]? = W.heap[g]?) : RO W' B v xs := by
  refine ⟨hr.1, hr.2.1, ?_⟩
  rcases hr.2.2 with h' | ⟨g, cap, cur, h1, h2, h3, h4⟩
  · exact .inl h'
  · refine .inr ⟨g, cap, cur, h1, h2, ?_, h4⟩
    have hg : g < W.heap.size := (Array.getElem?_eq_some_iff.1 h3).1
    rw [h g hg h2]; exact h3
theorem RO.below (hr : RO W B v xs) (hb : Below B' W W') (hlt : W.heap.size ≤ B') : RO W' B v xs := hr.kept fun g hg _ => hb.block g (by omega)
theorem RO.only {g : Nat} (hr : RO W B v xs) (ho : Only g W W') (hg : g < B) : RO W' B v xs := hr.kept fun k _ hk => ho.2.2.2.2 k (by omega)
/-- What it reads as. -/
theorem RO.reads (hr : RO W B v xs) : ∃ A cap, v = .slice A xs.length cap ∧ xs.length ≤ cap ∧ cap ≤ maxLen ∧ SS W W.heap.size A xs := by
  have hcells := fun g hg => World.ownsRow.cells (h := hr.2) (g := g) hg
  rcases hr.2.2 with ⟨h0, h⟩ | ⟨g, cap, cur, h1, h2, h3, h4, h5, _⟩
  · obtain rfl : xs = [] := List.eq_nil_of_length_eq_zero h
    exact ⟨none, 0, h0, Nat.le_refl _, Nat.zero_le _, SS.nil_⟩
  · refine ⟨some ⟨g, 0, none⟩, cap, h1, h4, h5, hr.1, fun _ => ⟨g, 0, rfl, (Array.getElem?_eq_some_iff.1 h3).1, fun j x hj k u hu => ?_⟩⟩
    have hk : k < 27 := by
      have := (List.getElem?_eq_some_iff.1 hu).1
      rw [List.length_map, hr.1 x (List.mem_of_getElem? hj)] at this
      exact this
    have h := hcells g (by rw [h1]; rfl) (j * 27 + k) u (by rw [flat_get xs hr.1 j k x hj hk]; exact hu)
    have ha : (⟨g, 0, none⟩ : Addr).add (j * 27 + k) = ⟨g, 0 + j * 27 + k, none⟩ := by unfold Addr.add; split <;> simp_all
    rwa [ha] at h

theorem RO.reads' {n : Nat} (hr : RO W B v xs) (hn : xs.length = n) : ∃ A cap, v = .slice A n cap ∧ n ≤ cap ∧ cap ≤ maxLen ∧ SS W W.heap.size A xs := by
  subst hn; exact hr.reads

theorem heap_setCells_far {g b : Nat} : ∀ (vs : List Value) (o : Nat), g ≠ b → ∀ (w : World), (w.setCells b o vs).heap[g]? = w.heap[g]?
  | [], _, _, _ => rfl
  | v :: r, o, h, w => by
    rw [World.setCells, heap_setCells_far r (o + 1) h _]
    exact Below.heap_setCell w ⟨b, o, none⟩ v g h
/-- The variable at the head of block g holds the sum Z. -/
def Tot (w : World) (g : Nat) (Z : List Int) : Prop := Z.length = 27 ∧ w.rangeAt g 0 (Z.map (Value.int .i64)) ∧ w.there g 0 27
theorem there_below {b o n : Nat} (h : W.there b o n) (hb : Below B W W') (hlt : b < B) : W'.there b o n := fun j hj => by
  rw [hb.cell (p := ⟨b, o + j, none⟩) hlt, hb.frozen (p := ⟨b, o + j, none⟩) hlt]; exact h j hj
theorem Tot.below {g : Nat} {Z : List Int} (h : Tot W g Z) (hb : Below B W W') (hlt : g < B) : Tot W' g Z := ⟨h.1, range_below h.2.1 hb hlt, there_below h.2.2 hb hlt⟩
theorem Tot.store {g : Nat} {Z : List Int} (h : Tot W g Z) (Y : List Int) (hY : Y.length = 27) : Tot (W.setCells g 0 (Y.map (Value.int .i64))) g Y := by
  have e : (Y.map (Value.int .i64)).length = 27 := by rw [List.length_map, hY]
  refine ⟨hY, World.rangeAt_setCells_same _ _ _ _ (by rw [e]; exact h.2.2), World.there_setCells h.2.2 _ _ _⟩
theorem Tot.lt {g : Nat} {Z : List Int} (h : Tot W g Z) : g < W.heap.size := by
  obtain ⟨u, hu⟩ := Option.isSome_iff_exists.1 (h.2.2 0 (by omega)).1
  exact World.block_lt_of_cell? W ⟨g, 0 + 0, none⟩ hu

theorem wpAppR {ops : Array Oper} {rest : List Oper} {o : Oper} {a : Act} {Q : Exit → Act → World → Prop} (x : List Int) (hx27 : x.length = 27) (hgd : o.guard = none) (s y : Operand)
    (ho : o.op = .call { callee := .builtin .append, args := #[s, y], argTypes := #[25, 25] })
    (hs : a.eval s = v) (hx : a.eval y = .slice (some ⟨W.heap.size, 0, none⟩) 1 1) (hr : RO W B v xs) (hl : xs.length ≤ 1000) (hB : B ≤ W.heap.size) (hb : Below B w0 W)
    (h : ∀ v' w', RO w' B v' (xs ++ [x]) → Below B w0 w' → B ≤ w'.heap.size → wpList Tryz.prog ops Q rest (a.put o.dst v') w') :
    wpList Tryz.prog ops Q (o :: rest) a (W.alloc (.cells (x.map (Value.int .i64)).toArray 28)) := by
  obtain ⟨i, hi, hx'⟩ := Option.map_eq_some_iff.1 info_sumrow
  simp only [Prod.mk.injEq] at hx'
  obtain ⟨h0, h1, h2⟩ := hx'
  refine wpList_append_own _ hgd s y 25 ho B 28 i _ 27 216 Tryz.underlying25 hi h0 h1 h2 rfl (by decide) v xs.length (flat xs) hs (hr.alloc _).2 ⟨W.heap.size, 0, none⟩ 1 1 (x.map (Value.int .i64)) hx (by rw [List.length_map, hx27]) ?_ ?_ (by unfold maxLen; omega) (by omega) (by simp; omega) ?_
  · intro j u hu
    have ha : (⟨W.heap.size, 0, none⟩ : Addr).add j = ⟨W.heap.size, j, none⟩ := by unfold Addr.add; split <;> simp_all
    rw [ha, cell_of_row _ W.heap.size j _ 28 (0, 0) (heap_alloc_new W _)]
    simpa using hu
  · intro u hu
    obtain ⟨n, _, rfl⟩ := List.mem_map.1 hu
    rfl
  · intro v' w' hown hg _
    have hlow := hr.low
    have hb' := (hb.alloc hB (.cells (x.map (Value.int .i64)).toArray 28)).grown hg (by simp; omega) (fun k hk => hlow k hk)
    refine h v' w' ⟨?_, ?_⟩ hb' ?_
    · intro z hz
      rcases List.mem_append.1 hz with hz | hz
      · exact hr.1 z hz
      · obtain rfl : z = x := by simpa using hz
        exact hx27
    · rw [List.length_append]
      have e : flat (xs ++ [x]) = flat xs ++ x.map (Value.int .i64) := by unfold flat; rw [List.flatMap_append]; simp
      rw [e]
      exact hown
    · have := hg.size; simp at this; omega
end
end Go.Proofs.YtkhoaaoddpjnpaaGreatDoor.RowsOwn
