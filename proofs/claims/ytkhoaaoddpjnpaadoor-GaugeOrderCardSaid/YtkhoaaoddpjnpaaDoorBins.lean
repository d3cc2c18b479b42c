/- gauge.Bins, and the reference's, walked: both count by 'bins'. -/
import Derived.Test.YtkhoaaoddpjnpaaDoorCmp
import Derived.Test.YtkhoaaoddpjnpaaDoorMem
import Derived.Test.YtkhoaaoddpjnpaaDoorBinsPlain
import Derived.Deep.LoopGhost
import Derived.Deep.QuietTactic
import Derived.BigQuiet
namespace Go.Proofs.YtkhoaaoddpjnpaaDoor.Bins
open Go Go.RowKit Go.Proofs.YtkhoaaoddpjnpaaDoor Go.Proofs.YtkhoaaoddpjnpaaDoor.Flt Go.Proofs.YtkhoaaoddpjnpaaDoor.Mem Go.Proofs.YtkhoaaoddpjnpaaDoor.Cmp

theorem info_int : (Tryd.prog.info? 3).map (fun i => (i.zero, i.size, i.bytes)) = some (some (.int .i64 0), 1, 8) := by kernel_rfl

theorem run_mk (n : Nat) (hn : n ≤ 100) (W : World) : (Instr.makeSlice 25 (.int .i64 ((n : Int) + 1)) (.int .i64 ((n : Int) + 1))).run Tryd.prog W = .ok (.slice (some ⟨W.heap.size, 0, none⟩) (n + 1) (n + 1)) (W.alloc (.cells (madeCells (#[.int .i64 0] : Array Value) ((n + 1) * 1)) 3)) := by
  obtain ⟨i, hi, hx⟩ := Option.map_eq_some_iff.1 info_int
  simp only [Prod.mk.injEq] at hx
  obtain ⟨h0, h1, h2⟩ := hx
  have hr := run_make (P := Tryd.prog) W 25 3 i (.int .i64 0) Tryd.underlying25 hi h0 .i64 .i64 ((n : Int) + 1) ((n : Int) + 1) (by omega) (by omega) (by rw [h2]; omega) (by omega)
  rw [h1] at hr
  have e : ((n : Int) + 1).toNat = n + 1 := by omega
  rw [e] at hr
  exact hr

theorem step_row {w : World} {g : Nat} {t : TypeId} {xs : List Int} {k : Nat} {c : Int} (h : IR w g t xs) (hc : xs[k]? = some c) : IR (w.setCell ⟨g, k, none⟩ (.int .i64 (c + 1))) g t (bump xs k) := by
  have := h.set_ k (c + 1)
  unfold bump
  rw [List.getD_eq_getElem?_getD, hc]
  exact this

set_option maxHeartbeats 1000000 in
theorem gbins (A A' : Option Addr) (c c' : Nat) (l es : List Nat) (m n : Nat) (w : World) (hl : l.length = m) (he : es.length = n) (fl : FS w w.heap.size A l) (fe : FS w w.heap.size A' es) (hm : m ≤ 100) (hn : n ≤ 100) :
    Calls Tryd.prog 12 #[.slice A m c, .slice A' n c'] w fun e w' => e = .returned (.slice (some ⟨w.heap.size, 0, none⟩) (n + 1) (n + 1)) ∧ IR w' w.heap.size 3 (bins es l) ∧ Below w.heap.size w w' := by
  have hmk := run_mk n hn
  have Hl := Lib.hid hl
  have He := Lib.hid he
  have Fl := Lib.hid fl
  have Fe := Lib.hid fe
  clear hl he fl fe
  go_enter Tryd.func12, Tryd.ntmps12
  go_wp2
  go_step3
  go_wp2
  go_step3
  go_wp2
  clear hmk
  go_loopg [16] m (fun g s16 wx => ∃ i : Nat, i + g = m ∧ s16 = .int .i64 i ∧ IR wx w.heap.size 3 (bins es (l.take i)) ∧ Below w.heap.size w wx)
  case atStart =>
    refine ⟨0, by omega, rfl, ?_, (Below.refl _ _).alloc (Nat.le_refl _) _⟩
    have h := IR.new_ w 3 (n + 1)
    rw [← He.out] at h ⊢
    exact h
  case round =>
    obtain ⟨i, hig, rfl, hR, hbx⟩ := hrel
    cases gk with
    | zero =>
      have hiz : ¬ ((i : Int) < (m : Int)) := by omega
      have HR := Lib.hid hR; clear hR
      go_wp2
      go_ret
      refine ⟨rfl, ?_, hbx⟩
      have h := HR.out
      rw [List.take_of_length_le (by rw [Hl.out]; omega)] at h
      exact h
    | succ g =>
      have hiz : (i : Int) < (m : Int) := by omega
      obtain ⟨b, o, x, rfl, hb, hx64, hx, hcx⟩ := Fl.out.at_ (k := i) (by rw [Hl.out]; omega)
      have hcx' : wr.cell? ⟨b, o + i, none⟩ = some (.float .f64 x) := (hbx.cell hb).trans hcx
      have HR := Lib.hid hR; clear hR
      have Hx := Lib.hid hx; clear hx
      have X64 := Lib.hid hx64
      clear hcx hx64
      go_wp2
      clear hcx'
      obtain ⟨wo, rfl⟩ : ∃ wo : World, wo = wr := ⟨_, rfl⟩
      go_loopg [22] n (fun g2 s22 wx => ∃ j : Nat, j + g2 = n ∧ s22 = .int .i64 j ∧ Aside (∀ (i : Nat) e, i < j → es[i]? = some e → ahd e x = true) ∧ wx = wo)
      case atStart => exact ⟨0, by omega, rfl, fun i e h => by omega, rfl⟩
      case round =>
        obtain ⟨j, hjg, rfl, HJ, rfl⟩ := hrel
        obtain ⟨cj, hcj⟩ : ∃ cj, (bins es (l.take i))[j]? = some cj := ⟨_, List.getElem?_eq_getElem (by rw [bins_length, He.out]; omega)⟩
        have hcb := bins_bound es (l.take i) j cj hcj
        have hcj1 : 0 ≤ cj := hcb.1
        have hcj2 : cj ≤ 100 := by have := List.length_take_le i l; have := Hl.out; have := hcb.2; rw [List.length_take] at this; omega
        have hcell := HR.out.cell hcj
        have hfro := HR.out.frozen j
        have HC := Lib.hid hcj
        clear hcb hcj
        cases gk with
        | zero =>
          obtain rfl : n = j := by omega
          have hjz : ¬ ((n : Int) < (n : Int)) := by omega
          go_wp2
          go_roundg g
          case measure => omega
          case rel =>
            have hp : pos es x = n := pos_eq es x n HJ.out (by rw [He.out]; omega) (fun e he => by rw [List.getElem?_eq_none (by rw [He.out]; omega)] at he; cases he)
            exact ⟨i + 1, by omega, by go_num, by rw [bins_take es l i x Hx.out, hp]; exact step_row HR.out HC.out, hbx.setCell (Nat.le_refl _) _⟩
        | succ g2 =>
          have hjz : (j : Int) < (n : Int) := by omega
          obtain ⟨b2, o2, e, rfl, hb2, he64, hee, hce⟩ := Fe.out.at_ (k := j) (by rw [He.out]; omega)
          have hce' : wr.cell? ⟨b2, o2 + j, none⟩ = some (.float .f64 e) := (hbx.cell hb2).trans hce
          have Cm := Lib.hid (compare_any x e X64.out he64)
          have HE := Lib.hid hee
          clear hce he64 hee
          by_cases hk : cmpF x e ≤ 0
          · go_wp2_with (go_at_call 41; with_reducible refine (Cm.out _).mono ?_; rintro e w' ⟨rfl, rfl⟩)
            go_roundg g
            case measure => omega
            case rel =>
              have hp : pos es x = j := pos_eq es x j HJ.out (by rw [He.out]; omega) (fun e' he' => by
                obtain rfl : e = e' := Option.some.inj (HE.out.symm.trans he')
                unfold ahd
                refine decide_eq_false fun h => ?_
                have := (cmpF_gt x e).2 h
                omega)
              exact ⟨i + 1, by omega, by go_num, by rw [bins_take es l i x Hx.out, hp]; exact step_row HR.out HC.out, hbx.setCell (Nat.le_refl _) _⟩
          · go_wp2_with (go_at_call 41; with_reducible refine (Cm.out _).mono ?_; rintro e w' ⟨rfl, rfl⟩)
            go_roundg g2
            case measure => omega
            case rel =>
              refine ⟨j + 1, by omega, by go_num, fun i' e' hi' he' => ?_, rfl⟩
              rcases Nat.lt_or_ge i' j with h | h
              · exact HJ.out i' e' h he'
              · obtain rfl : i' = j := by omega
                obtain rfl : e = e' := Option.some.inj (HE.out.symm.trans he')
                have h3 := (cmpF_gt x e).1 (by omega)
                unfold ahd
                exact decide_eq_true h3
set_option maxHeartbeats 1000000 in
theorem rbins (A A' : Option Addr) (c c' : Nat) (l es : List Nat) (m n : Nat) (w : World) (hl : l.length = m) (he : es.length = n) (fl : FS w w.heap.size A l) (fe : FS w w.heap.size A' es) (hm : m ≤ 100) (hn : n ≤ 100) :
    Calls Tryd.prog 13 #[.slice A m c, .slice A' n c'] w fun e w' => e = .returned (.slice (some ⟨w.heap.size, 0, none⟩) (n + 1) (n + 1)) ∧ IR w' w.heap.size 3 (bins es l) ∧ Below w.heap.size w w' := by
  have hmk := run_mk n hn
  have Hl := Lib.hid hl
  have He := Lib.hid he
  have Fl := Lib.hid fl
  have Fe := Lib.hid fe
  clear hl he fl fe
  go_enter Tryd.func13, Tryd.ntmps13
  go_wp2
  clear hmk
  go_loopg [6] m (fun g s6 wx => ∃ i : Nat, i + g = m ∧ s6 = .int .i64 i ∧ IR wx w.heap.size 3 (bins es (l.take i)) ∧ Below w.heap.size w wx)
  case atStart =>
    refine ⟨0, by omega, rfl, ?_, (Below.refl _ _).alloc (Nat.le_refl _) _⟩
    have h := IR.new_ w 3 (n + 1)
    rw [← He.out] at h ⊢
    exact h
  case round =>
    obtain ⟨i, hig, rfl, hR, hbx⟩ := hrel
    cases gk with
    | zero =>
      have hiz : ¬ ((i : Int) < (m : Int)) := by omega
      have HR := Lib.hid hR; clear hR
      go_wp2
      go_ret
      refine ⟨rfl, ?_, hbx⟩
      have h := HR.out
      rw [List.take_of_length_le (by rw [Hl.out]; omega)] at h
      exact h
    | succ g =>
      have hiz : (i : Int) < (m : Int) := by omega
      obtain ⟨b, o, x, rfl, hb, hx64, hx, hcx⟩ := Fl.out.at_ (k := i) (by rw [Hl.out]; omega)
      have hcx' : wr.cell? ⟨b, o + i, none⟩ = some (.float .f64 x) := (hbx.cell hb).trans hcx
      have HR := Lib.hid hR; clear hR
      have Hx := Lib.hid hx; clear hx
      have X64 := Lib.hid hx64
      have Hcx := Lib.hid hcx
      clear hcx hx64
      go_wp2
      obtain ⟨wo, rfl⟩ : ∃ wo : World, wo = wr := ⟨_, rfl⟩
      go_loopg [7] n (fun g2 s7 wx => ∃ j : Nat, j + g2 = n ∧ s7 = .int .i64 j ∧ Aside (∀ (i : Nat) e, i < j → es[i]? = some e → ahd e x = true) ∧ Aside (IR wx w.heap.size 3 (bins es (l.take i))) ∧ Below w.heap.size w wx)
      case atStart => exact ⟨0, by omega, rfl, fun i e h => by omega, HR.out, hbx⟩
      case round =>
        clear hbx hcx' HR
        obtain ⟨j, hjg, rfl, HJ, HR, hbx⟩ := hrel
        have hcx' : wr.cell? ⟨b, o + i, none⟩ = some (.float .f64 x) := (hbx.cell hb).trans Hcx.out
        cases gk with
        | zero =>
          obtain ⟨cj, hcj⟩ : ∃ cj, (bins es (l.take i))[j]? = some cj := ⟨_, List.getElem?_eq_getElem (by rw [bins_length, He.out]; omega)⟩
          have hcb := bins_bound es (l.take i) j cj hcj
          have hcj1 : 0 ≤ cj := hcb.1
          have hcj2 : cj ≤ 100 := by have := List.length_take_le i l; have := Hl.out; have := hcb.2; rw [List.length_take] at this; omega
          have hcell := HR.out.cell hcj
          have hfro := HR.out.frozen j
          have HC := Lib.hid hcj
          clear hcb hcj
          obtain rfl : n = j := by omega
          have hjz : decide ((n : Int) < (n : Int)) = false := decide_eq_false (by omega)
          go_wp2_with fail
          go_quiet (fail)
          go_wp2
          go_roundg g
          case measure => omega
          case rel =>
            have hp : pos es x = n := pos_eq es x n HJ.out (by rw [He.out]; omega) (fun e he => by rw [List.getElem?_eq_none (by rw [He.out]; omega)] at he; cases he)
            exact ⟨i + 1, by omega, by go_num, by rw [bins_take es l i x Hx.out, hp]; exact step_row HR.out HC.out, (below_drewN hbx _).setCell (Nat.le_refl _) _⟩
        | succ g2 =>
          have hjz : (j : Int) < (n : Int) := by omega
          obtain ⟨b2, o2, e, rfl, hb2, he64, hee, hce⟩ := Fe.out.at_ (k := j) (by rw [He.out]; omega)
          have hce' : wr.cell? ⟨b2, o2 + j, none⟩ = some (.float .f64 e) := (hbx.cell hb2).trans hce
          have Cm := Lib.hid (ahead_any e x he64 X64.out)
          have HE := Lib.hid hee
          clear hce he64 hee
          cases hk : ahd e x
          · obtain ⟨cj, hcj⟩ : ∃ cj, (bins es (l.take i))[j]? = some cj := ⟨_, List.getElem?_eq_getElem (by rw [bins_length, He.out]; omega)⟩
            have hcb := bins_bound es (l.take i) j cj hcj
            have hcj1 : 0 ≤ cj := hcb.1
            have hcj2 : cj ≤ 100 := by have := List.length_take_le i l; have := Hl.out; have := hcb.2; rw [List.length_take] at this; omega
            have hcell := HR.out.cell hcj
            have hfro := HR.out.frozen j
            have HC := Lib.hid hcj
            clear hcb hcj
            have HK := Lib.hid hk
            rw [hk] at Cm
            clear hk
            go_wp2_with fail
            go_quiet ((go_at_call 37; exact Calls.quiet_of_same ((Cm.out _).mono fun _ _ h => ⟨h.1, h.2.symm⟩)))
            go_wp2
            go_roundg g
            case measure => omega
            case rel =>
              have hp : pos es x = j := pos_eq es x j HJ.out (by rw [He.out]; omega) (fun e' he' => by
                obtain rfl : e = e' := Option.some.inj (HE.out.symm.trans he')
                exact HK.out)
              exact ⟨i + 1, by omega, by go_num, by rw [bins_take es l i x Hx.out, hp]; exact step_row HR.out HC.out, (below_drewN hbx _).setCell (Nat.le_refl _) _⟩
          · have HK := Lib.hid hk
            rw [hk] at Cm
            clear hk
            go_wp2_with fail
            go_quiet ((go_at_call 37; exact Calls.quiet_of_same ((Cm.out _).mono fun _ _ h => ⟨h.1, h.2.symm⟩)))
            go_wp2
            go_roundg g2
            case measure => omega
            case rel =>
              refine ⟨j + 1, by omega, by go_num, fun i' e' hi' he' => ?_, HR.out, below_drewN hbx _⟩
              rcases Nat.lt_or_ge i' j with h | h
              · exact HJ.out i' e' h he'
              · obtain rfl : i' = j := by omega
                obtain rfl : e = e' := Option.some.inj (HE.out.symm.trans he')
                exact HK.out
end Go.Proofs.YtkhoaaoddpjnpaaDoor.Bins
