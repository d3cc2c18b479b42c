/- Strings that are appended to a row of the call's own; the table of powers; Itoa. -/
import Derived.Test.YtkhoaaoddpjnpaaGreatDoorSums
import Derived.Test.YtkhoaaoddpjnpaaGreatDoorApp
import Derived.Test.YtkhoaaoddpjnpaaGreatDoorShelf
import Derived.OwnWalk
import Derived.Laws.Concat
import Derived.Lib.ItoaLen
namespace Go.Proofs.YtkhoaaoddpjnpaaGreatDoor.Str
open Go Go.RowKit Go.Proofs.YtkhoaaoddpjnpaaGreatDoor Go.Proofs.YtkhoaaoddpjnpaaGreatDoor.Mem Go.Proofs.YtkhoaaoddpjnpaaGreatDoor.Add Go.Proofs.YtkhoaaoddpjnpaaGreatDoor.Sums

/-- The slice v owns a row of just the strings xs, in a block from B on. -/
def SO (w : World) (B : Nat) (v : Value) (xs : List ByteArray) : Prop := w.ownsRow B 9 1 v xs.length (xs.map Value.string)

theorem info_string : (Tryz.prog.info? 9).map (fun i => (i.zero, i.size, i.bytes)) = some (some (.string ⟨#[]⟩), 1, 16) := by kernel_rfl

section
variable {w0 W W' : World} {B B' : Nat} {v : Value} {xs : List ByteArray}
theorem SO.nil_ (W : World) (B : Nat) : SO W B (.slice none 0 0) [] := ⟨rfl, .inl ⟨rfl, rfl⟩⟩
theorem SO.alloc (h : SO W B v xs) (o : Obj) : SO (W.alloc o) B v xs := World.ownsRow.alloc h o
theorem SO.low (hr : SO W B v xs) : ∀ k, v.ownBlock = some k → B ≤ k := by
  intro k hk
  rcases hr.2 with ⟨rfl, _⟩ | ⟨g, cap, cur, rfl, hb, _⟩
  · simp [Value.ownBlock] at hk
  · simp [Value.ownBlock] at hk; omega
theorem SO.below (hr : SO W B v xs) (hb : Below B' W W') (hlt : W.heap.size ≤ B') : SO W' B v xs := by
  refine ⟨hr.1, ?_⟩
  rcases hr.2 with h | ⟨g, cap, cur, h1, h2, h3, h4⟩
  · exact .inl h
  · refine .inr ⟨g, cap, cur, h1, h2, ?_, h4⟩
    have hg : g < W.heap.size := (Array.getElem?_eq_some_iff.1 h3).1
    rw [hb.block g (by omega)]; exact h3
theorem SO.mono (h : SO W B v xs) (hB : B' ≤ B) : SO W B' v xs := by
  refine ⟨h.1, ?_⟩
  rcases h.2 with h | ⟨g, cap, cur, h1, h2, h3⟩
  · exact .inl h
  · exact .inr ⟨g, cap, cur, h1, Nat.le_trans hB h2, h3⟩
/-- What it reads as. -/
theorem SO.reads (hr : SO W B v xs) (hx : xs ≠ []) : ∃ g cap, v = .slice (some ⟨g, 0, none⟩) xs.length cap ∧ xs.length ≤ cap ∧ cap ≤ maxLen ∧ B ≤ g ∧ g < W.heap.size ∧ ∀ (j : Nat) x, xs[j]? = some x → W.cell? ⟨g, 0 + j, none⟩ = some (.string x) := by
  have hcells := fun g hg => World.ownsRow.cells (h := hr) (g := g) hg
  rcases hr.2 with ⟨_, h⟩ | ⟨g, cap, cur, h1, h2, h3, h4, h5, _⟩
  · exact absurd (List.eq_nil_of_length_eq_zero h) hx
  · refine ⟨g, cap, h1, h4, h5, h2, (Array.getElem?_eq_some_iff.1 h3).1, fun j x hj => ?_⟩
    have h := hcells g (by rw [h1]; rfl) j (.string x) (by rw [List.getElem?_map, hj]; rfl)
    have ha : (⟨g, 0, none⟩ : Addr).add j = ⟨g, 0 + j, none⟩ := by unfold Addr.add; split <;> simp_all
    rwa [ha] at h

theorem wpAppS {ops : Array Oper} {rest : List Oper} {o : Oper} {a : Act} {Q : Exit → Act → World → Prop} (x : ByteArray) (hgd : o.guard = none) (s y : Operand)
    (ho : o.op = .call { callee := .builtin .append, args := #[s, y], argTypes := #[46, 46] })
    (hs : a.eval s = v) (hx : a.eval y = .slice (some ⟨W.heap.size, 0, none⟩) 1 1) (hr : SO W B v xs) (hl : xs.length ≤ 100000) (hB : B ≤ W.heap.size) (hb : Below B w0 W)
    (h : ∀ v' w', SO w' B v' (xs ++ [x]) → Below B w0 w' → B ≤ w'.heap.size → wpList Tryz.prog ops Q rest (a.put o.dst v') w') :
    wpList Tryz.prog ops Q (o :: rest) a (W.alloc (.cells #[.string x] 9)) := by
  obtain ⟨i, hi, hx'⟩ := Option.map_eq_some_iff.1 info_string
  simp only [Prod.mk.injEq] at hx'
  obtain ⟨h0, h1, h2⟩ := hx'
  refine wpList_append_own _ hgd s y 46 ho B 9 i (.string ⟨#[]⟩) 1 16 Tryz.underlying46 hi h0 h1 h2 rfl (by decide) v xs.length (xs.map Value.string) hs (hr.alloc _) ⟨W.heap.size, 0, none⟩ 1 1 [.string x] hx (by simp) ?_ ?_ (by unfold maxLen; omega) (by omega) (by simp; omega) ?_
  · intro j u hu
    have ha : (⟨W.heap.size, 0, none⟩ : Addr).add j = ⟨W.heap.size, j, none⟩ := by unfold Addr.add; split <;> simp_all
    rw [ha, cell_of_row _ W.heap.size j _ 9 (0, 0) (heap_alloc_new W _)]
    simpa using hu
  · intro u hu
    obtain rfl : u = .string x := by simpa using hu
    rfl
  · intro v' w' hown hg _
    have hlow := hr.low
    have hb' := (hb.alloc hB (.cells #[.string x] 9)).grown hg (by simp; omega) (fun k hk => hlow k hk)
    refine h v' w' ?_ hb' ?_
    · unfold SO
      rw [List.length_append, List.map_append]
      exact hown
    · have := hg.size; simp at this; omega
end

/-- The powers of ten stand in their table. -/
def Tab (w : World) : Prop := Lib.TabIs Tryz.prog w "internal/strconv.uint64pow10" .u64 Lib.pow10Tab
theorem var_below {B : Nat} {w w' : World} (hb : Below B w w') {n : String} {cs : Array Value} (h : w.var? Tryz.prog n = some cs) (hB : w.heap.size ≤ B) : w'.var? Tryz.prog n = some cs := by
  unfold World.var? at *
  cases hg : Tryz.prog.globalNamed n with
  | none => rw [hg] at h; cases h
  | some g =>
    rw [hg] at h
    have h' : (match w.heap[g]? with | some (.cells cs _ _) => some cs | _ => none) = some cs := h
    have hlt : g < w.heap.size := by
      rcases Nat.lt_or_ge g w.heap.size with h1 | h1
      · exact h1
      · rw [Array.getElem?_eq_none h1] at h'; cases h'
    show (match w'.heap[g]? with | some (.cells cs _ _) => some cs | _ => none) = some cs
    rw [hb.block g (by omega)]; exact h'
theorem Tab.below {B : Nat} {w w' : World} (h : Tab w) (hb : Below B w w') (hB : w.heap.size ≤ B) : Tab w' := var_below hb h hB

theorem itoa_length (n : Int) (h0 : -9223372036854775808 ≤ n) (h1 : n ≤ 9223372036854775807) : (Lib.itoa n).length ≤ 21 := by
  unfold Lib.itoa
  split
  · have := Lib.nDigits_le20 n.natAbs (by omega)
    simp only [List.length_cons, Lib.decDigits_length]; omega
  · have := Lib.nDigits_le20 n.toNat (by omega)
    rw [Lib.decDigits_length]; omega
/-- A number's text. -/
def itoaS (n : Int) : ByteArray := ⟨(Lib.itoa n).toArray⟩
theorem itoaS_size (n : Int) (h0 : -9223372036854775808 ≤ n) (h1 : n ≤ 9223372036854775807) : (itoaS n).size ≤ 21 := by
  show (Lib.itoa n).toArray.size ≤ 21
  rw [List.size_toArray]; exact itoa_length n h0 h1
/-- Itoa answers in every world that comes behind w. -/
def Itoas (w : World) : Prop := ∀ (W : World) (n : Int), Below w.heap.size w W → -9223372036854775808 ≤ n → n ≤ 9223372036854775807 →
  Calls Tryz.prog 27 #[.int .i64 n] W fun e w' => ∃ s, Hid (s = itoaS n) ∧ s.size ≤ 21 ∧ e = .returned (.string s) ∧ Below W.heap.size W w'
theorem below_grow (w : World) (os : Array Obj) (k : Nat) : Below w.heap.size w (Go.Sort.grow (w.drewN k) os) := by
  refine ⟨rfl, rfl, rfl, ?_, fun i hi => ?_⟩
  · show w.heap.size ≤ (w.heap ++ os).size; simp
  · show (w.heap ++ os)[i]? = _
    rw [Array.getElem?_append_left hi]
theorem itoas {w : World} (h : Tab w) : Itoas w := fun W n hb h0 h1 =>
  (Tryz.strconv_Itoa n h0 h1 W (h.below hb (Nat.le_refl _))).mono fun e w' ⟨he, k, os, hw⟩ => ⟨itoaS n, Lib.hid rfl, itoaS_size n h0 h1, he, by rw [hw]; exact below_grow W os k⟩

/-- What a function that shows a number tells at the key k. -/
def ShowsAt (K : FuncId) (k : Int) (t : ByteArray) : Prop := ∀ (r : Nat) (w : World), Flt.key r = k → r < 18446744073709551616 → Calls Tryz.prog K #[.float .f64 r] w fun e w' => e = .returned (.string t) ∧ Below w.heap.size w w'
end Go.Proofs.YtkhoaaoddpjnpaaGreatDoor.Str
