/- The reference's sort, walked: new memory that holds the stable sort. -/
import Derived.Test.YtkhoaaoddpjnpaaDoorSortFn
import Derived.Test.YtkhoaaoddpjnpaaDoorRank
import Derived.Deep.RegionLaw
namespace Go.Proofs.YtkhoaaoddpjnpaaDoor.RefSort
open Go Go.RowKit Go.Proofs.YtkhoaaoddpjnpaaDoor Go.Proofs.YtkhoaaoddpjnpaaDoor.Flt Go.Proofs.YtkhoaaoddpjnpaaDoor.Cmp Go.Proofs.YtkhoaaoddpjnpaaDoor.Mem Go.Proofs.YtkhoaaoddpjnpaaDoor.Sorts

section
variable {w0 W : World} {B : Nat} {v : Value} {xs ys : List Nat}
theorem fown_nil (W : World) (B : Nat) : FOwn W B (.slice none 0 0) [] := ⟨⟨rfl, .inl ⟨rfl, rfl⟩⟩, by simp⟩
theorem own_low (hr : FOwn W B v xs) : ∀ k, v.ownBlock = some k → B ≤ k := by
  intro k hk
  rcases hr.1.2 with ⟨rfl, _⟩ | ⟨g, cap, cur, rfl, hb, _⟩
  · simp [Value.ownBlock] at hk
  · simp [Value.ownBlock] at hk; omega

/-- Numbers appended to a row of the call's own. -/
theorem run_app (ty : TypeId) (hr : FOwn W B v xs) (A : Option Addr) (m c : Nat) (hm : ys.length = m) (hA : A = none → m = 0 ∧ c = 0) (hc : ∀ ad, A = some ad → ∀ j x, ys[j]? = some x → W.cell? (ad.add j) = some (.float .f64 x))
    (hy : ∀ y ∈ ys, y < 18446744073709551616) (hl : xs.length + m ≤ 100000) (hB : B ≤ W.heap.size) :
    ∃ v' w', (Builtin.append_ #[22, 22] ty #[v, .slice A m c]).run Tryd.prog W = .ok v' w' ∧ FOwn w' B v' (xs ++ ys) ∧ W.grownBy w' v.ownBlock := by
  obtain ⟨i, hi, hx⟩ := Option.map_eq_some_iff.1 info_float
  simp only [Prod.mk.injEq] at hx
  obtain ⟨h0, h1, h2⟩ := hx
  have h64 : ∀ y ∈ xs ++ ys, y < 18446744073709551616 := fun y h => by
    rcases List.mem_append.1 h with h | h
    · exact hr.2 y h
    · exact hy y h
  cases A with
  | none =>
    obtain ⟨rfl, rfl⟩ := hA rfl
    obtain rfl : ys = [] := List.eq_nil_of_length_eq_zero hm
    refine ⟨v, W, run_append_owned_none W B 22 ty 29 i 1 Tryd.underlying22 hi v xs.length (xs.map (Value.float .f64)) hr.1, by rw [List.append_nil]; exact hr, World.grownBy.refl _ _⟩
  | some ad =>
    obtain ⟨v', w', hrun, ho, hg, _⟩ := run_append_own (P := Tryd.prog) W B 22 ty 29 i (.float .f64 0) 1 8 Tryd.underlying22 hi h0 h1 h2 rfl (by decide) v xs.length (xs.map (Value.float .f64)) hr.1 ad m c (ys.map (Value.float .f64)) (by rw [List.length_map, hm, Nat.mul_one])
      (fun j u hu => by
        rw [List.getElem?_map] at hu
        obtain ⟨x, hxj, rfl⟩ := Option.map_eq_some_iff.1 hu
        exact hc ad rfl j x hxj)
      (fun u hu => by obtain ⟨x, _, rfl⟩ := List.mem_map.1 hu; rfl) (by unfold maxLen; omega) (by omega) hB
    refine ⟨v', w', hrun, ⟨?_, h64⟩, hg⟩
    rw [List.length_append, List.map_append, hm]
    exact ho

/-- The same at a step of a region that draws. -/
theorem step_app {ops : Array Oper} {o : Oper} {a : Act} {K : Act → World → Prop} {Q : Exit → Act → World → Prop} {E : Prop} (hgd : o.guard = none) (s x : Operand)
    (ho : o.op = .call { callee := .builtin .append, args := #[s, x], argTypes := #[22, 22] })
    (A : Option Addr) (m c : Nat) (hs : a.eval s = v) (hx : a.eval x = .slice A m c) (hr : FOwn W B v xs) (hm : ys.length = m) (hA : A = none → m = 0 ∧ c = 0)
    (hc : ∀ ad, A = some ad → ∀ j x, ys[j]? = some x → W.cell? (ad.add j) = some (.float .f64 x))
    (hy : ∀ y ∈ ys, y < 18446744073709551616) (hl : xs.length + m ≤ 100000) (hB : B ≤ W.heap.size) (hb : Below B w0 W)
    (h : ∀ v' w', FOwn w' B v' (xs ++ ys) → W.grownBy w' v.ownBlock → Below B w0 w' → K (a.put o.dst v') w') :
    if Region.wanted o (yielded ops a.tmps) = true then Oper.wp Tryd.prog o a W K Q else E := by
  have hw : Region.wanted o (yielded ops a.tmps) = true := by simp [Region.wanted, hgd]
  rw [if_pos hw]
  obtain ⟨v', w', hrun, ho', hg⟩ := run_app o.type hr A m c hm hA hc hy hl hB
  have hlow := own_low hr
  unfold Oper.wp execOp
  simp only [ho, resolve, invoke, builtin, Sem.run_bind, Sem.run_pure, Result.andThen_ok, List.map_toArray, List.map_cons, List.map_nil, hs, hx, hrun]
  exact h v' w' ho' hg (hb.grown hg hB hlow)
theorem one_cell (W : World) (x : Nat) : ∀ ad, some (⟨W.heap.size, 0, none⟩ : Addr) = some ad → ∀ (j : Nat) y, [x][j]? = some y → (W.alloc (.cells #[.float .f64 x] 29)).drew.cell? (ad.add j) = some (.float .f64 y) := by
  intro ad e j y hj
  show (W.alloc (.cells #[.float .f64 x] 29)).cell? (ad.add j) = _
  cases e
  have hj0 : j = 0 := by
    rcases Nat.eq_zero_or_pos j with h | h
    · exact h
    · rw [List.getElem?_eq_none (by simp; omega)] at hj; cases hj
  subst hj0
  cases hj
  have ea : (⟨W.heap.size, 0, none⟩ : Addr).add 0 = ⟨W.heap.size, 0, none⟩ := by simp [Addr.add]
  rw [ea, cell_of_row _ W.heap.size 0 _ 29 (0, 0) (heap_alloc_new W _)]
  rfl
theorem one_below (W : World) (x : Nat) : Below W.heap.size W (W.alloc (.cells #[.float .f64 x] 29)).drew := ((Below.refl _ _).alloc (Nat.le_refl _) _).drew
theorem some_no {a : Addr} {p : Prop} (h : some a = none) : p := by cases h
theorem le1 : ([] : List Nat).length + 1 ≤ 100000 := by decide
theorem le2 (x : Nat) : [x].length + 0 ≤ 100000 := by simp
theorem no_cell {W : World} : ∀ ad, (none : Option Addr) = some ad → ∀ (j : Nat) y, ([] : List Nat)[j]? = some y → W.cell? (ad.add j) = some (.float .f64 y) := by
  intro ad h
  cases h
theorem no_lt : ∀ y ∈ ([] : List Nat), y < 18446744073709551616 := by simp
theorem len1 (x : Nat) : [x].length = 1 := rfl
theorem len0 : ([] : List Nat).length = 0 := rfl
theorem none_yes {A : Option Addr} : A = none → 0 = 0 ∧ 0 = 0 := fun _ => ⟨rfl, rfl⟩
theorem fown_mono {B' : Nat} (hB : B' ≤ B) (h : FOwn W B v xs) : FOwn W B' v xs := by
  refine ⟨⟨h.1.1, ?_⟩, h.2⟩
  rcases h.1.2 with ⟨h1, h2⟩ | ⟨g, cap, cur, h1, h2, h3⟩
  · exact .inl ⟨h1, h2⟩
  · exact .inr ⟨g, cap, cur, h1, Nat.le_trans hB h2, h3⟩
theorem snoc_get {l : List Nat} {i x : Nat} (hx : l[i]? = some x) (D1 D2 : List Nat) (h1 : ssort (l.take i) = D1 ++ D2) (h2 : ∀ d ∈ D1, key d ≤ key x) (h3 : ∀ d ∈ D2, key x < key d) : ssort (l.take (i + 1)) = D1 ++ x :: D2 := by
  obtain ⟨hk, rfl⟩ := List.getElem?_eq_some_iff.1 hx
  rw [List.take_succ_eq_append_getElem hk]
  exact ssort_snoc _ _ _ _ h1 h2 h3
theorem take_one {l : List Nat} {x : Nat} (h : l[0]? = some x) : ssort (l.take (0 + 1)) = [x] := by
  cases l with
  | nil => cases h
  | cons a r => cases h; rfl
theorem src_cells {W0 : World} {gr n : Nat} (hb : Below W0.heap.size W0 W) (hr : FRow W0 gr n xs) (p : Nat) (q : Nat) (hp : (xs.drop p).take q = ys) : ∀ ad, some (⟨gr, p, none⟩ : Addr) = some ad → ∀ (j : Nat) y, ys[j]? = some y → W.cell? (ad.add j) = some (.float .f64 y) := by
  intro ad e j y hj
  cases e
  subst hp
  have ea : (⟨gr, p, none⟩ : Addr).add j = ⟨gr, p + j, none⟩ := by unfold Addr.add; split <;> simp_all
  rw [ea, hb.cell (by exact hr.lt)]
  rw [List.getElem?_take] at hj
  split at hj
  · rw [List.getElem?_drop] at hj
    exact hr.cell hj
  · cases hj
theorem fown_alloc (h : FOwn W B v xs) (o : Obj) : FOwn (W.alloc o) B v xs := ⟨World.ownsRow.alloc h.1 o, h.2⟩
theorem one_later {W' : World} {A : Option Addr} (hg : W.grownBy W' (Value.slice none 0 0).ownBlock) (h : ∀ ad, A = some ad → ∀ (j : Nat) y, ys[j]? = some y → W.cell? (ad.add j) = some (.float .f64 y)) :
    ∀ ad, A = some ad → ∀ (j : Nat) y, ys[j]? = some y → W'.cell? (ad.add j) = some (.float .f64 y) := fun ad e j y hj => hg.cell (h ad e j y hj) (by simp [Value.ownBlock])
theorem last_form {D1 D2 : List Nat} {x : Nat} : (D1 ++ [x]) ++ D2 = D1 ++ x :: D2 := by simp
theorem one_lt {x : Nat} (h : x < 18446744073709551616) : ∀ y ∈ [x], y < 18446744073709551616 := fun y hy => by
  cases hy with
  | head => exact h
  | tail _ hy => cases hy
end

theorem sorted_of {w wr : World} {v : Value} {l : List Nat} {m : Nat} (h : FOwn wr w.heap.size v (ssort l)) (hm : (ssort l).length = m) (hb : Below w.heap.size w wr) : Sorted w m l (.returned v) wr := by
  rcases Nat.eq_zero_or_pos (ssort l).length with h0 | h0
  · have e := List.eq_nil_of_length_eq_zero h0
    rw [h0] at hm
    subst hm
    rw [e] at h
    rcases h.1.2 with ⟨rfl, _⟩ | ⟨g, cap, cur, rfl, _, _, hn, hc, _⟩
    · exact ⟨none, 0, rfl, Nat.le_refl _, Nat.zero_le _, by rw [e]; exact FS.nil_, hb⟩
    · exact ⟨_, cap, rfl, hn, hc, by rw [e]; exact FS.nil_, hb⟩
  · obtain ⟨g, c, rfl, _, hn, hc, hr⟩ := h.row h0
    rw [hm] at hn hr ⊢
    exact ⟨_, c, rfl, hn, hc, hr.fs, hb⟩

set_option maxHeartbeats 4000000 in
set_option maxRecDepth 100000 in
theorem rsort_any (A : Option Addr) (c : Nat) (l : List Nat) (m : Nat) (w : World) (hl : l.length = m) (fl : FS w w.heap.size A l) (hm : m ≤ 100) :
    Calls Tryd.prog 51 #[.slice A m c] w (Sorted w m l) := by
  have Hl := Lib.hid hl
  have Fl := Lib.hid fl
  clear hl fl
  go_enter Tryd.func51, Tryd.ntmps51
  go_wp2_with fail
  go_loopg [3, 4] m (fun g s3 s4 wx => ∃ (i : Nat), i + g = m ∧ s4 = .int .i64 i ∧ FOwn wx w.heap.size s3 (ssort (l.take i)) ∧ (i = 0 → s3 = .slice none 0 0) ∧ Below w.heap.size w wx)
  case atStart => exact ⟨0, by omega, rfl, fown_nil _ _, fun _ => rfl, Below.refl _ _⟩
  case round =>
    obtain ⟨i, hig, rfl, hown, hnil, hb⟩ := hrel
    rename_i s3
    have HO := Lib.hid hown
    have Hb := Lib.hid hb
    cases gk with
    | zero =>
      have hiz : ¬ ((i : Int) < (m : Int)) := by omega
      have e : l.take i = l := List.take_of_length_le (by rw [Hl.out]; omega)
      rw [e] at hown
      have hsl : (ssort l).length = m := by rw [ssort_length, Hl.out]
      have HS := Lib.hid (sorted_of hown hsl hb)
      clear hown hb e hsl HO Hb hnil
      go_wp2_with fail
      go_ret
      exact HS.out
    | succ g =>
      have hiz : (i : Int) < (m : Int) := by omega
      obtain ⟨bl, ol, x, rfl, hbl, hx64, hx, hcx⟩ := Fl.out.at_ (k := i) (by rw [Hl.out]; omega)
      have hcxr := (hb.cell (p := ⟨bl, ol + i, none⟩) hbl).trans hcx
      have Hx := Lib.hid hx
      have Hx64 := Lib.hid hx64
      rcases Nat.eq_zero_or_pos i with hi0 | hi0
      · subst hi0
        obtain rfl := hnil rfl
        clear hown hx hx64
        go_wp2_with fail
        go_loopg [5] 0 (fun g' s5 wx => s5 = .int .i64 0 ∧ Below w.heap.size w wx)
        case atStart => exact ⟨rfl, hb⟩
        case round =>
          obtain ⟨rfl, hb⟩ := hrel
          have hdz : decide (0 < 0) = false := rfl
          go_wp2_with fail
          go_quiet (fail)
          have Hq := Lib.hid (below_drewN hb nq)
          generalize wr.drewN nq = wq at *
          have hcq := (Hq.out.cell (p := ⟨bl, ol, none⟩) hbl).trans hcx
          clear hb hdz hcxr hcx
          go_wp2_with fail
          have HB1 := Lib.hid Hq.out.size
          have HT := Lib.hid (take_one Hx.out)
          go_region_law (first
            | ((with_reducible refine step_app (w0 := wq) (W := (wq.alloc (.cells #[.float .f64 x] 29)).drew) (B := wq.heap.size) (v := .slice none 0 0) (xs := []) (ys := [x]) ?_ (.tmp 33) (.tmp 38) ?_ (some ⟨wq.heap.size, 0, none⟩) 1 1 ?_ ?_ (fown_nil _ _) ?_ ?_ ?_ ?_ ?_ ?_ ?_ ?_); (focus rfl); (focus rfl); (focus rfl); (focus rfl); (focus exact len1 x); (focus exact some_no); (focus exact one_cell wq x); (focus exact one_lt Hx64.out); (focus exact le1); (focus exact (one_below wq x).size); (focus exact one_below wq x); intro v1 w1 ho1 hg1 hb1)
            | ((with_reducible refine step_app (w0 := wq) (W := w1) (B := wq.heap.size) (v := v1) (xs := [x]) (ys := []) ?_ (.tmp 39) (.tmp 42) ?_ none 0 0 ?_ ?_ ?_ ?_ ?_ ?_ ?_ ?_ ?_ ?_ ?_); (focus rfl); (focus rfl); (focus rfl); (focus rfl); (focus exact ho1); (focus exact len0); (focus exact none_yes); (focus exact no_cell); (focus exact no_lt); (focus exact le2 x); (focus exact hb1.size); (focus exact hb1); intro v2 w2 ho2 hg2 hb2))
          all_goals (
            go_wp2_with fail
            go_roundg g
            case measure => omega
            case rel => exact ⟨1, by omega, rfl, by rw [HT.out]; exact fown_mono HB1.out ho2, fun h => absurd h (by omega), Hq.out.trans (hb2.mono HB1.out)⟩)
      · have hsl : (ssort (l.take i)).length = i := by rw [ssort_length, List.length_take, Hl.out]; omega
        have HI := Lib.hid (snoc_get hx)
        have Hs := Lib.hid (ssort_srt (l.take i))
        obtain ⟨gr, cap, hv, hgr, hic, hcm, hrow⟩ := hown.row (by omega)
        rw [hsl] at hv hic hrow
        subst hv
        generalize ssort (l.take i) = ss at *
        have Hsl := Lib.hid hsl
        have HR := Lib.hid hrow
        have HC := Lib.hid (And.intro hgr (And.intro hic hcm))
        have Hbl := Lib.hid hbl
        clear hsl hown hnil hcx hx hx64 hgr hic hcm hrow HO hbl
        go_wp2_with fail
        go_loopg [5] i (fun g' s5 wx => s5 = .int .i64 g' ∧ g' ≤ i ∧ (∀ d ∈ ss.drop g', key x < key d) ∧ FRow wx gr i ss ∧ Below w.heap.size w wx ∧ wx.cell? ⟨bl, ol + i, none⟩ = some (.float .f64 x))
        case atStart => exact ⟨rfl, Nat.le_refl _, by rw [List.drop_of_length_le (by rw [Hsl.out]; exact Nat.le_refl _)]; simp, HR.out, Hb.out, hcxr⟩
        case round =>
          clear hcxr
          obtain ⟨rfl, hki, hall, hrow, hb, hcx⟩ := hrel
          cases gk with
          | zero =>
            have hdz : decide (0 < 0) = false := rfl
            go_wp2_with fail
            go_quiet (fail)
            have Hq := Lib.hid (below_drewN hb nq)
            have HRq := Lib.hid (hrow.drewN nq)
            have hcq : (wr.drewN nq).cell? ⟨bl, ol + i, none⟩ = some (.float .f64 x) := hcx
            generalize wr.drewN nq = wq at *
            have HN := Lib.hid (HI.out [] ss rfl (by simp) (by simpa using hall))
            have HB1 := Lib.hid Hq.out.size
            have Hll := Lib.hid (show [x].length + i ≤ 100000 by simp; omega)
            clear hb hdz hcx hrow hall
            go_wp2_with fail
            go_region_law (first
            | ((with_reducible refine step_app (w0 := wq) (W := (wq.alloc (.cells #[.float .f64 x] 29)).drew) (B := wq.heap.size) (v := .slice none 0 0) (xs := []) (ys := [x]) ?_ (.tmp 33) (.tmp 38) ?_ (some ⟨wq.heap.size, 0, none⟩) 1 1 ?_ ?_ (fown_nil _ _) ?_ ?_ ?_ ?_ ?_ ?_ ?_ ?_); (focus rfl); (focus rfl); (focus rfl); (focus rfl); (focus exact len1 x); (focus exact some_no); (focus exact one_cell wq x); (focus exact one_lt Hx64.out); (focus exact le1); (focus exact (one_below wq x).size); (focus exact one_below wq x); intro v1 w1 ho1 hg1 hb1)
            | ((with_reducible refine step_app (w0 := wq) (W := w1) (B := wq.heap.size) (v := v1) (xs := [x]) (ys := ss) ?_ (.tmp 39) (.tmp 42) ?_ (some ⟨gr, 0, none⟩) i cap ?_ ?_ ?_ ?_ ?_ ?_ ?_ ?_ ?_ ?_ ?_); (focus rfl); (focus rfl); (focus rfl); (focus rfl); (focus exact ho1); (focus exact Hsl.out); (focus exact some_no); (focus exact src_cells hb1 HRq.out 0 i (by rw [List.drop_zero, List.take_of_length_le (Nat.le_of_eq Hsl.out)])); (focus exact HRq.out.2.1); (focus exact Hll.out); (focus exact hb1.size); (focus exact hb1); intro v2 w2 ho2 hg2 hb2))
            all_goals (
              go_wp2_with fail
              go_roundg g
              case measure => omega
              case rel => exact ⟨i + 1, by omega, by go_num, by rw [HN.out]; exact fown_mono HB1.out ho2, fun h => absurd h (by omega), Hq.out.trans (hb2.mono HB1.out)⟩)
          | succ k =>
            obtain ⟨u, hu⟩ : ∃ u, ss[k]? = some u := ⟨_, List.getElem?_eq_getElem (by rw [Hsl.out]; omega)⟩
            have hcu := hrow.cell hu
            have Ah := Lib.hid (ahead_any x u Hx64.out (hrow.bound hu))
            unfold ahd at Ah
            have Hu := Lib.hid hu
            have HA := Lib.hid hall
            have Hb2 := Lib.hid hb
            have HR2 := Lib.hid hrow
            clear hu hall hb hrow
            by_cases hk : key x < key u
            · rw [decide_eq_true hk] at Ah
              have HK := Lib.hid hk
              clear hk
              go_wp2_with fail
              go_quiet ((go_at_call 37; exact Calls.quiet_of_same ((Ah.out _).mono fun _ _ h => ⟨h.1, h.2.symm⟩)))
              go_wp2_with fail
              go_roundg k
              case measure => omega
              case rel => exact ⟨by go_num, by omega, fun d hd => by
                rw [List.drop_eq_getElem_cons (by rw [Hsl.out]; omega)] at hd
                rcases List.mem_cons.1 hd with rfl | hd
                · rw [(List.getElem?_eq_some_iff.1 Hu.out).2]; exact HK.out
                · exact HA.out d hd, HR2.out.drewN _, below_drewN Hb2.out _, hcx⟩
            · rw [decide_eq_false hk] at Ah
              have HN := Lib.hid (HI.out (ss.take (k + 1)) (ss.drop (k + 1)) (List.take_append_drop _ _).symm (fun d hd => by
                obtain ⟨j, hj, hjd⟩ := mem_take_get hd
                have := srt_get Hs.out (show j ≤ k by omega) hjd Hu.out
                omega) HA.out)
              clear hk
              go_wp2_with fail
              go_quiet ((go_at_call 37; exact Calls.quiet_of_same ((Ah.out _).mono fun _ _ h => ⟨h.1, h.2.symm⟩)))
              have Hq := Lib.hid (below_drewN Hb2.out nq)
              have HRq := Lib.hid (HR2.out.drewN nq)
              have hcq : (wr.drewN nq).cell? ⟨bl, ol + i, none⟩ = some (.float .f64 x) := hcx
              generalize wr.drewN nq = wq at *
              have HB1 := Lib.hid Hq.out.size
              have Hblq := Lib.hid (Nat.lt_of_lt_of_le Hbl.out Hq.out.size)
              have hz0 : (0 : Int) ≤ (k : Int) + 1 := by omega
              have hz1 : (k : Int) + 1 ≤ (i : Int) := by omega
              have hz2 : (k : Int) + 1 ≤ (cap : Int) := by have := HC.out.2.1; omega
              obtain ⟨A3, hA3, hsrc⟩ : ∃ A3 : Addr, (if cap = k + 1 then some (⟨gr, 0, none⟩ : Addr) else some ⟨gr, k + 1, none⟩) = some A3 ∧ ∀ W, Below wq.heap.size wq W → ∀ ad, some A3 = some ad → ∀ (j : Nat) y, (ss.drop (k + 1))[j]? = some y → W.cell? (ad.add j) = some (.float .f64 y) := by
                by_cases hcap : cap = k + 1
                · refine ⟨⟨gr, 0, none⟩, if_pos hcap, fun W hW ad e j y hj => ?_⟩
                  rw [List.drop_of_length_le (by rw [Hsl.out]; have := HC.out.2.1; omega)] at hj
                  cases hj
                · exact ⟨⟨gr, k + 1, none⟩, if_neg hcap, fun W hW => src_cells hW HRq.out (k + 1) i (List.take_of_length_le (by rw [List.length_drop, Hsl.out]; omega))⟩
              have HS1 := Lib.hid (fun W (hW : Below wq.heap.size wq W) => src_cells (ys := ss.take (k + 1)) hW HRq.out 0 (k + 1) (by rw [List.drop_zero]))
              have HS3 := Lib.hid hsrc
              have HL1 := Lib.hid (show (ss.take (k + 1)).length = k + 1 by rw [List.length_take, Hsl.out]; omega)
              have HL3 := Lib.hid (show (ss.drop (k + 1)).length = i - (k + 1) by rw [List.length_drop, Hsl.out])
              have HM1 := Lib.hid (show ([] : List Nat).length + (k + 1) ≤ 100000 by simp; omega)
              have HM2 := Lib.hid (show (ss.take (k + 1)).length + 1 ≤ 100000 by rw [HL1.out]; omega)
              have HM3 := Lib.hid (show (ss.take (k + 1) ++ [x]).length + (i - (k + 1)) ≤ 100000 by rw [List.length_append, HL1.out]; simp; omega)
              have HT1 := Lib.hid (fun y (hy : y ∈ ss.take (k + 1)) => HRq.out.2.1 y (List.mem_of_mem_take hy))
              have HT3 := Lib.hid (fun y (hy : y ∈ ss.drop (k + 1)) => HRq.out.2.1 y (List.mem_of_mem_drop hy))
              clear hcx hcu Ah Hb2 HR2 hsrc
              go_wp2_with fail
              go_region_law (first
                | ((with_reducible refine step_app (w0 := wq) (W := wq.drew) (B := wq.heap.size) (v := .slice none 0 0) (xs := []) (ys := ss.take (k + 1)) ?_ (.const (.slice none 0 0)) (.tmp 32) ?_ (some ⟨gr, 0, none⟩) (k + 1) cap ?_ ?_ (fown_nil _ _) ?_ ?_ ?_ ?_ ?_ ?_ ?_ ?_); (focus rfl); (focus rfl); (focus simp only [Act.eval]); (focus simp [Act.eval, Act.put]); (focus exact HL1.out); (focus exact some_no); (focus exact HS1.out _ (Below.refl _ _).drew); (focus exact HT1.out); (focus exact HM1.out); (focus exact (Below.refl wq.heap.size wq).drew.size); (focus exact (Below.refl _ _).drew); intro v1 w1 ho1 hg1 hb1; have hc1 := (hb1.cell (p := ⟨bl, ol + i, none⟩) Hblq.out).trans hcq)
                | ((with_reducible refine step_app (w0 := wq) (W := (wq.alloc (.cells #[.float .f64 x] 29)).drew) (B := wq.heap.size) (v := .slice none 0 0) (xs := []) (ys := ss.take (k + 1)) ?_ (.const (.slice none 0 0)) (.tmp 32) ?_ (some ⟨gr, 0, none⟩) (k + 1) cap ?_ ?_ (fown_nil _ _) ?_ ?_ ?_ ?_ ?_ ?_ ?_ ?_); (focus rfl); (focus rfl); (focus simp only [Act.eval]); (focus simp [Act.eval]); (focus exact HL1.out); (focus exact some_no); (focus exact HS1.out _ (one_below wq x)); (focus exact HT1.out); (focus exact HM1.out); (focus exact (one_below wq x).size); (focus exact one_below wq x); intro v1 w1 ho1 hg1 hb1; have hc1 := one_later hg1 (one_cell wq x))
                | ((with_reducible refine step_app (w0 := wq) (W := w1.alloc (.cells #[.float .f64 x] 29)) (B := wq.heap.size) (v := v1) (xs := ss.take (k + 1)) (ys := [x]) ?_ (.tmp 33) (.tmp 38) ?_ (some ⟨w1.heap.size, 0, none⟩) 1 1 ?_ ?_ ?_ ?_ ?_ ?_ ?_ ?_ ?_ ?_ ?_); (focus rfl); (focus rfl); (focus rfl); (focus rfl); (focus exact fown_alloc ho1 _); (focus exact len1 x); (focus exact some_no); (focus exact one_cell w1 x); (focus exact one_lt Hx64.out); (focus exact HM2.out); (focus exact (hb1.alloc hb1.size _).size); (focus exact hb1.alloc hb1.size _); intro v2 w2 ho2 hg2 hb2)
                | ((with_reducible refine step_app (w0 := wq) (W := w1) (B := wq.heap.size) (v := v1) (xs := ss.take (k + 1)) (ys := [x]) ?_ (.tmp 33) (.tmp 38) ?_ (some ⟨wq.heap.size, 0, none⟩) 1 1 ?_ ?_ ?_ ?_ ?_ ?_ ?_ ?_ ?_ ?_ ?_); (focus rfl); (focus rfl); (focus rfl); (focus rfl); (focus exact ho1); (focus exact len1 x); (focus exact some_no); (focus exact hc1); (focus exact one_lt Hx64.out); (focus exact HM2.out); (focus exact hb1.size); (focus exact hb1); intro v2 w2 ho2 hg2 hb2)
                | ((with_reducible refine step_app (w0 := wq) (W := w2) (B := wq.heap.size) (v := v2) (xs := ss.take (k + 1) ++ [x]) (ys := ss.drop (k + 1)) ?_ (.tmp 39) (.tmp 42) ?_ (some A3) (i - (k + 1)) (cap - (k + 1)) ?_ ?_ ?_ ?_ ?_ ?_ ?_ ?_ ?_ ?_ ?_); (focus rfl); (focus rfl); (focus rfl); (focus rfl); (focus exact ho2); (focus exact HL3.out); (focus exact some_no); (focus exact HS3.out _ hb2); (focus exact HT3.out); (focus exact HM3.out); (focus exact hb2.size); (focus exact hb2); intro v3 w3 ho3 hg3 hb3))
              all_goals (
                go_wp2_with fail
                go_roundg g
                case measure => omega
                case rel => exact ⟨i + 1, by omega, by go_num, by rw [HN.out, ← last_form]; exact fown_mono HB1.out ho3, fun h => absurd h (by omega), Hq.out.trans (hb3.mono HB1.out)⟩)
end Go.Proofs.YtkhoaaoddpjnpaaDoor.RefSort
