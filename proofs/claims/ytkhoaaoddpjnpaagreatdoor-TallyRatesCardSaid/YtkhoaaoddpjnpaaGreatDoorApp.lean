/- Bytes that are appended to a row of the call's own. -/
import Derived.Test.YtkhoaaoddpjnpaaGreatDoorCmp
import Derived.OwnWalk
import Derived.Laws.AppendOwn
import Derived.Laws.BytesArg
namespace Go.Proofs.YtkhoaaoddpjnpaaGreatDoor.App
open Go Go.RowKit Go.Proofs.YtkhoaaoddpjnpaaGreatDoor

/-- The slice v owns a row of just the bytes xs, in a block from B on. -/
def BR (w : World) (B : Nat) (v : Value) (xs : List Int) : Prop := w.ownsRow B 5 1 v xs.length (xs.map (Value.int .u8))

theorem info_byte : (Tryz.prog.info? 5).map (fun i => (i.zero, i.size, i.bytes)) = some (some (.int .u8 0), 1, 1) := by kernel_rfl

section
variable {w0 W : World} {B : Nat} {v : Value} {xs : List Int}

theorem BR.alloc (h : BR W B v xs) (o : Obj) : BR (W.alloc o) B v xs := World.ownsRow.alloc h o
theorem BR.drew (h : BR W B v xs) : BR W.drew B v xs := h
theorem BR.drewN (h : BR W B v xs) (n : Nat) : BR (W.drewN n) B v xs := h

theorem grown_low (hr : BR W B v xs) : ∀ k, v.ownBlock = some k → B ≤ k := by
  intro k hk
  rcases hr.2 with ⟨rfl, _⟩ | ⟨g, cap, cur, rfl, hb, _⟩
  · simp [Value.ownBlock] at hk
  · simp [Value.ownBlock] at hk; omega

theorem wpApp {ops : Array Oper} {rest : List Oper} {o : Oper} {a : Act} {Q : Exit → Act → World → Prop} (ys : List Int) (hgd : o.guard = none) (s x : Operand)
    (ho : o.op = .call { callee := .builtin .append, args := #[s, x], argTypes := #[84, 84] })
    (hs : a.eval s = v) (hx : a.eval x = .slice (some ⟨W.heap.size, 0, none⟩) ys.length ys.length) (hr : BR W B v xs) (hl : xs.length + ys.length ≤ 100000) (hB : B ≤ W.heap.size) (hb : Below B w0 W)
    (h : ∀ v' w', BR w' B v' (xs ++ ys) → Below B w0 w' → B ≤ w'.heap.size → wpList Tryz.prog ops Q rest (a.put o.dst v') w') :
    wpList Tryz.prog ops Q (o :: rest) a (W.alloc (.cells (ys.map (Value.int .u8)).toArray 5)) := by
  obtain ⟨i, hi, hx'⟩ := Option.map_eq_some_iff.1 info_byte
  simp only [Prod.mk.injEq] at hx'
  obtain ⟨h0, h1, h2⟩ := hx'
  refine wpList_append_own _ hgd s x 84 ho B 5 i (.int .u8 0) 1 1 Tryz.underlying84 hi h0 h1 h2 rfl (by decide) v xs.length (xs.map (Value.int .u8)) hs (hr.alloc _) ⟨W.heap.size, 0, none⟩ ys.length ys.length (ys.map (Value.int .u8)) hx (by simp) ?_ ?_ (by unfold maxLen; omega) (by omega) (by simp; omega) ?_
  · intro j u hu
    have ha : (⟨W.heap.size, 0, none⟩ : Addr).add j = ⟨W.heap.size, j, none⟩ := by unfold Addr.add; split <;> simp_all
    rw [ha, cell_of_row _ W.heap.size j _ 5 (0, 0) (heap_alloc_new W _)]
    simpa using hu
  · intro u hu
    obtain ⟨n, _, rfl⟩ := List.mem_map.1 hu
    rfl
  · intro v' w' hown hg _
    have hlow := grown_low hr
    have hb' := (hb.alloc hB (.cells (ys.map (Value.int .u8)).toArray 5)).grown hg (by simp; omega) (fun k hk => hlow k hk)
    refine h v' w' ?_ hb' ?_
    · unfold BR
      rw [List.length_append, List.map_append]
      exact hown
    · have := hg.size; simp at this; omega

theorem run_str (hr : BR W B v xs) : (convert 84 9 v).run Tryz.prog W = .ok (.string (strOfNums xs)) W := by
  rcases hr.2 with ⟨rfl, hn⟩ | ⟨g, cap, cur, rfl, _⟩
  · obtain rfl : xs = [] := List.eq_nil_of_length_eq_zero hn
    exact run_convert_bytes_nil W 84 5 Tryz.underlying84 Tryz.underlying5 0 0 9 Tryz.underlying9
  · refine run_convert_bytes_arg W 84 5 Tryz.underlying84 Tryz.underlying5 g 0 xs.length cap xs rfl (fun i hi => ?_) 9 Tryz.underlying9
    have hc := World.ownsRow.cells hr (g := g) rfl i (.int .u8 (xs.getD i 0)) (by simp [List.getElem?_eq_getElem hi, List.getD_eq_getElem?_getD])
    have ha : (⟨g, 0, none⟩ : Addr).add i = ⟨g, 0 + i, none⟩ := by unfold Addr.add; split <;> simp_all
    rwa [ha] at hc

theorem make_br (n : Nat) (hn : n ≤ 1000) (w : World) : ∃ v w', (Instr.makeSlice 84 (.int .i64 0) (.int .i64 (n : Int))).run Tryz.prog w = .ok v w' ∧ BR w' w.heap.size v [] ∧ Below w.heap.size w w' := by
  obtain ⟨i, hi, hx'⟩ := Option.map_eq_some_iff.1 info_byte
  simp only [Prod.mk.injEq] at hx'
  obtain ⟨h0, h1, h2⟩ := hx'
  obtain ⟨w1, h3, h4, h5⟩ := run_make_own (P := Tryz.prog) (w := w) w.heap.size 84 5 i (.int .u8 0) 1 Tryz.underlying84 hi h0 h1 .i64 .i64 n (by rw [h2]; omega) (by unfold maxLen; omega) (Nat.le_refl _)
  exact ⟨_, w1, h3, h4, (Below.refl _ _).grown h5 (Nat.le_refl _) (by simp)⟩
end
end Go.Proofs.YtkhoaaoddpjnpaaGreatDoor.App
