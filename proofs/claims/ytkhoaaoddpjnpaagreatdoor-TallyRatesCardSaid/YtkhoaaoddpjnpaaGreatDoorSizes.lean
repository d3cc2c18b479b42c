/- The sizes of files, of both, walked. -/
import Derived.Test.YtkhoaaoddpjnpaaGreatDoorFRow
import Derived.Test.YtkhoaaoddpjnpaaGreatDoorSumMean
import Derived.Test.YtkhoaaoddpjnpaaGreatDoorRLeast
import Derived.Test.YtkhoaaoddpjnpaaGreatDoorOf
namespace Go.Proofs.YtkhoaaoddpjnpaaGreatDoor.Sizes
open Go Go.RowKit Go.Proofs.YtkhoaaoddpjnpaaGreatDoor Go.Proofs.YtkhoaaoddpjnpaaGreatDoor.Flt Go.Proofs.YtkhoaaoddpjnpaaGreatDoor.Cmp Go.Proofs.YtkhoaaoddpjnpaaGreatDoor.Mem Go.Proofs.YtkhoaaoddpjnpaaGreatDoor.FRow Go.Proofs.YtkhoaaoddpjnpaaGreatDoor.SumMean Go.Proofs.YtkhoaaoddpjnpaaGreatDoor.Ext Go.Proofs.YtkhoaaoddpjnpaaGreatDoor.RefExt Go.Proofs.YtkhoaaoddpjnpaaGreatDoor.Add Go.Proofs.YtkhoaaoddpjnpaaGreatDoor.Sums Go.Proofs.YtkhoaaoddpjnpaaGreatDoor.Of

def nkind (d : List Value) : Int := match d[1]? with
  | some (Value.int .i64 k) => k
  | _ => 0
def ndata (d : List Value) : ByteArray := match d[3]? with
  | some (Value.string s) => s
  | _ => ⟨#[]⟩
attribute [local go_sem] Ratio.run_store_float
/-- A file's cells. -/
def Node (d : List Value) : Prop := d.length = 5 ∧ (∀ v ∈ d, v.oneCell' = true) ∧ d[1]? = some (.int .i64 (nkind d)) ∧ d[3]? = some (.string (ndata d)) ∧ (ndata d).size ≤ 9223372036854775807
/-- The slice at A reads as the files ds; it lies below block B. -/
def NS (w : World) (B : Nat) (A : Option Addr) (ds : List (List Value)) : Prop :=
  (∀ d ∈ ds, Node d) ∧ (ds ≠ [] → ∃ b o, A = some ⟨b, o, none⟩ ∧ b < B ∧ ∀ (j : Nat) d, ds[j]? = some d → w.rangeAt b (o + j * 5) d)
theorem NS.below {w w' : World} {B : Nat} {A : Option Addr} {ds : List (List Value)} (h : NS w B A ds) (hb : Below B w w') : NS w' B A ds :=
  ⟨h.1, fun hn => by
    obtain ⟨b, o, e, hlt, hc⟩ := h.2 hn
    exact ⟨b, o, e, hlt, fun j x hx => range_below (hc j x hx) hb hlt⟩⟩
theorem NS.more {w : World} {B B' : Nat} {A : Option Addr} {ds : List (List Value)} (h : NS w B A ds) (hB : B ≤ B') : NS w B' A ds :=
  ⟨h.1, fun hn => by
    obtain ⟨b, o, e, hb, hc⟩ := h.2 hn
    exact ⟨b, o, e, by omega, hc⟩⟩

/-- A length as a number. -/
def lenF (d : List Value) : Nat := floatOfInt .f64 (ndata d).size
theorem lenF_lt (d : List Value) : lenF d < 18446744073709551616 := by
  have h := floatOfInt_wf .f64 (ndata d).size
  unfold lenF
  simpa [Lit.wf] using h
def sizesL (ds : List (List Value)) : List Nat := ds.flatMap fun d => if nkind d = 1 then [lenF d] else []
theorem sizesL_snoc {ds : List (List Value)} {i : Nat} {d : List Value} (h : ds[i]? = some d) : sizesL (ds.take (i + 1)) = sizesL (ds.take i) ++ if nkind d = 1 then [lenF d] else [] := by
  obtain ⟨hi, rfl⟩ := List.getElem?_eq_some_iff.1 h
  unfold sizesL
  rw [List.take_succ_eq_append_getElem hi, List.flatMap_append]
  simp
theorem sizesL_length (ds : List (List Value)) : (sizesL ds).length ≤ ds.length := by
  induction ds with
  | nil => exact Nat.le_refl _
  | cons d r ih =>
    have e : sizesL (d :: r) = (if nkind d = 1 then [lenF d] else []) ++ sizesL r := by unfold sizesL; rw [List.flatMap_cons]
    rw [e, List.length_append, List.length_cons]
    split
    · rw [List.length_cons, List.length_nil]; omega
    · rw [List.length_nil]; omega
theorem sizesL_no {ds : List (List Value)} {i : Nat} {d : List Value} (h : ds[i]? = some d) (hk : (nkind d == 1) = false) : sizesL (ds.take (i + 1)) = sizesL (ds.take i) := by
  rw [sizesL_snoc h, if_neg (by simpa using hk), List.append_nil]
theorem sizesL_yes {ds : List (List Value)} {i : Nat} {d : List Value} (h : ds[i]? = some d) (hk : (nkind d == 1) = true) : sizesL (ds.take (i + 1)) = sizesL (ds.take i) ++ [lenF d] := by
  rw [sizesL_snoc h, if_pos (by simpa using hk)]

theorem info_node : (Tryz.prog.info? 69).map (·.size) = some 5 := by kernel_rfl

/-- The sizes of a list of numbers: the least's key, the mean's, the greatest's. -/
def Three (l : List Nat) (a b c : Nat) : Prop := (∃ x, Best true l x ∧ a = x.getD 0) ∧ key b = meanK l ∧ b < 18446744073709551616 ∧ (∃ x, Best false l x ∧ c = x.getD 0)

set_option maxRecDepth 100000 in
set_option maxHeartbeats 4000000 in
theorem sizes_any (A : Option Addr) (n c : Nat) (ds : List (List Value)) (w : World) (hn : ds.length = n) (fd : NS w w.heap.size A ds) (hnc : n ≤ 10000000000000) :
    Calls Tryz.prog 11 #[.slice A n c] w fun e w' => ∃ a b d, e = .returned (.tuple #[.float .f64 a, .float .f64 b, .float .f64 d]) ∧ Three (sizesL ds) a b d ∧ Below w.heap.size w w' := by
  have Hn := Lib.hid hn
  have Fd := Lib.hid fd
  clear hn fd
  go_enter Tryz.func11, Tryz.ntmps11
  go_wp2_with fail
  go_loopg [5, 14] n (fun g s5 s14 wx => ∃ i : Nat, i + g = n ∧ s14 = .int .i64 i ∧ FO wx w.heap.size s5 (sizesL (ds.take i)) ∧ Below w.heap.size w wx)
  case atStart => exact ⟨0, by omega, rfl, FO.nil_ _ _, Below.refl _ _⟩
  case round =>
    obtain ⟨i, hig, rfl, hx, hb⟩ := hrel
    have HX := Lib.hid hx
    have HB := Lib.hid hb
    clear hx hb
    cases gk with
    | zero =>
      have hiz : ¬ ((i : Int) < (n : Int)) := by omega
      have HL := Lib.hid (show (sizesL (ds.take i)).length ≤ 10000000000000 by have := sizesL_length (ds.take i); rw [List.length_take, Hn.out] at this; omega)
      have HE := Lib.hid (show sizesL (ds.take i) = sizesL ds by rw [show i = n by omega, ← Hn.out, List.take_length])
      obtain ⟨L, hL⟩ : ∃ L, sizesL ds = L := ⟨_, rfl⟩
      rw [HE.out, hL] at HX HL
      have EL := Lib.hid hL
      clear hL
      obtain ⟨k, hk⟩ : ∃ k, L.length = k := ⟨_, rfl⟩
      obtain ⟨A', cap, rfl, hcap, _, hfs⟩ := HX.out.reads hk
      have HK := Lib.hid (show k ≤ 10000000000000 by rw [← hk]; exact HL.out)
      have FF := Lib.hid hfs
      have CL := Lib.hid (least_any A' cap L k wr hk hfs (by have := HK.out; omega))
      have CG := Lib.hid (greatest_any A' cap L k wr hk hfs (by have := HK.out; omega))
      have CM := Lib.hid (mean_any A' cap L k wr hk hfs (by have := HK.out; omega))
      have BL := Lib.hid (show ∃ x, Best true L x ∧ (ext (-1) L).getD 0 = x.getD 0 from ⟨_, best_least L, rfl⟩)
      have BG := Lib.hid (show ∃ x, Best false L x ∧ (ext 1 L).getD 0 = x.getD 0 from ⟨_, best_greatest L, rfl⟩)
      unfold outOf at CL CG
      unfold Num at CM
      generalize ext (-1) L = x1 at *
      generalize ext 1 L = x2 at *
      clear hk hcap hfs
      go_wp2_with fail
      refine CL.out.mono ?_; rintro e w' ⟨rfl, rfl⟩
      go_wp2_with fail
      refine CG.out.mono ?_; rintro e w' ⟨rfl, rfl⟩
      go_wp2_with fail
      refine CM.out.mono ?_; rintro e w' ⟨r, q, rfl, rfl, hk1, hr1⟩
      have HK1 := Lib.hid hk1
      have HR1 := Lib.hid hr1
      clear hk1 hr1
      generalize x1.getD 0 = y1 at *
      generalize x2.getD 0 = y2 at *
      go_wp2_with fail
      go_ret3
      exact ⟨_, _, _, rfl, by rw [EL.out]; exact ⟨BL.out, HK1.out, HR1.out, BG.out⟩, below_drewN HB.out _⟩
    | succ g =>
      have hiz : (i : Int) < (n : Int) := by omega
      obtain ⟨dd, hdd⟩ : ∃ x, ds[i]? = some x := ⟨_, List.getElem?_eq_getElem (by rw [Hn.out]; omega)⟩
      obtain ⟨b, o, rfl, hlt, hr⟩ := Fd.out.2 (by rintro rfl; simp at hdd)
      have HD := Lib.hid (Fd.out.1 dd (List.mem_of_getElem? hdd))
      have HR := Lib.hid (range_below (hr i dd hdd) HB.out hlt)
      have HS := Lib.hid (show (Tryz.prog.info? 69).map (·.size) = some dd.length by rw [HD.out.1]; exact info_node)
      have HS2 := Lib.hid (show (Tryz.prog.info? 69).map (·.size) = some dd.toArray.size by rw [List.size_toArray]; exact HS.out)
      have HO := Lib.hid (all_oneCell_toArray (cs := dd) HD.out.2.1)
      have HTh := Lib.hid (show (wr.alloc (.cells #[.int .i64 0, .int .i64 0, .int .i64 0, .string ⟨#[]⟩, .slice none 0 0] 69)).there wr.heap.size 0 dd.toArray.size from by rw [show dd.toArray.size = 5 by rw [List.size_toArray]; exact HD.out.1]; exact there_new wr _ _ 5 rfl)
      have HTh2 := Lib.hid (show (wr.alloc (.cells #[.int .i64 0, .int .i64 0, .int .i64 0, .string ⟨#[]⟩, .slice none 0 0] 69)).there wr.heap.size 0 dd.length from by rw [HD.out.1]; exact there_new wr _ _ 5 rfl)
      have HNO := Lib.hid (fun hk => sizesL_no (i := i) hdd hk)
      have HYES := Lib.hid (fun hk => sizesL_yes (i := i) hdd hk)
      have HL := Lib.hid (show (sizesL (ds.take i)).length ≤ 10000000000000 by have := sizesL_length (ds.take i); rw [List.length_take, Hn.out] at this; omega)
      clear hdd hlt hr
      go_upto_region 5 with (first
        | refine wpList_load_mid rfl 69 (.tmp 16) rfl b (o + i * 5) rfl dd _ HR.out Tryz.underlying69 rfl HS.out ?_
        | refine wpList_store_mid rfl 69 (.tmp 7) (.tmp 17) rfl wr.heap.size 0 dd.toArray rfl rfl HTh.out HS2.out HO.out ?_)
      have HB1 := Lib.hid (below_setCells wr.heap.size (Nat.le_refl wr.heap.size) dd 0 _ ((Below.refl wr.heap.size wr).alloc (Nat.le_refl _) (.cells #[.int .i64 0, .int .i64 0, .int .i64 0, .string ⟨#[]⟩, .slice none 0 0] 69)))
      have HR1 := Lib.hid (World.rangeAt_setCells_same _ _ _ _ HTh2.out)
      clear HTh HTh2
      generalize (wr.alloc (.cells #[.int .i64 0, .int .i64 0, .int .i64 0, .string ⟨#[]⟩, .slice none 0 0] 69)).setCells wr.heap.size 0 dd = W1 at *
      have ck := HR1.out 1 _ HD.out.2.2.1
      have cc := HR1.out 3 _ HD.out.2.2.2.1
      rw [Nat.zero_add] at ck cc
      have HX1 := Lib.hid (HX.out.below HB1.out (Nat.le_refl _))
      have HBW := Lib.hid (HB.out.trans (HB1.out.mono HB.out.size))
      have HSZ := HD.out.2.2.2.2
      have HLF := Lib.hid (lenF_lt dd)
      have HLD := Lib.hid (show lenF dd = floatOfInt .f64 (ndata dd).size from rfl)
      generalize lenF dd = lf at *
      generalize nkind dd = k at *
      generalize ndata dd = dat at *
      cases hk1 : (k == 1)
      · go_wp2_with fail
        go_roundg g
        case measure => omega
        case rel => exact ⟨i + 1, by omega, by go_num, by rw [HNO.out hk1]; exact HX1.out, HBW.out⟩
      · have hld : floatOfInt .f64 (dat.size : Int) = lf := HLD.out.symm
        go_wp2_with (at_builtin; refine wpAppF lf HLF.out rfl _ _ rfl rfl rfl HX1.out HL.out HBW.out.size (Below.refl _ _) ?_; intro v' w3 hs3 hb3 hB3)
        go_roundg g
        case measure => omega
        case rel => exact ⟨i + 1, by omega, by go_num, by rw [HYES.out hk1]; exact hs3, HBW.out.trans hb3⟩

theorem three_cells (W : World) (b : Nat) (z0 z1 z2 v0 v1 v2 : Value) (t : TypeId) (fr : Nat × Nat) (h : W.heap[b]? = some (.cells #[z0, z1, z2] t fr)) :
    (((W.setCell ⟨b, 0, none⟩ v0).setCell ⟨b, 1, none⟩ v1).setCell ⟨b, 2, none⟩ v2).heap[b]? = some (.cells #[v0, v1, v2] t fr) := by
  simp [World.setCell, Array.getElem?_modify, h]
theorem info_three : (Tryz.prog.info? 43).map (·.size) = some 3 := by kernel_rfl
theorem below_three {B : Nat} {w W : World} (h : Below B w W) (b : Nat) (hb : B ≤ b) (v0 v1 v2 : Value) :
    Below B w (((W.setCell ⟨b, 0, none⟩ v0).setCell ⟨b, 1, none⟩ v1).setCell ⟨b, 2, none⟩ v2) :=
  ((h.setCell (p := ⟨b, 0, none⟩) hb v0).setCell (p := ⟨b, 1, none⟩) hb v1).setCell (p := ⟨b, 2, none⟩) hb v2
def Z3 (w : World) (g : Nat) : Prop := w.heap[g]? = some (.cells #[.float .f64 0, .float .f64 0, .float .f64 0] 43 (0, 0))
theorem Z3.lt {w : World} {g : Nat} (h : Z3 w g) : g < w.heap.size := (Array.getElem?_eq_some_iff.1 h).1
theorem Z3.cell {w : World} {g : Nat} (h : Z3 w g) (k : Nat) (hk : k < 3) : w.cell? ⟨g, k, none⟩ = some (.float .f64 0) := by
  rw [cell_of_row w g k _ _ _ h]
  match k, hk with
  | 0, _ => rfl
  | 1, _ => rfl
  | 2, _ => rfl
theorem Z3.frozen {w : World} {g : Nat} (h : Z3 w g) (k : Nat) : w.frozen? ⟨g, k, none⟩ = false := by
  unfold Z3 at h
  simp [World.frozen?, h]
theorem Z3.below {B : Nat} {w w' : World} {g : Nat} (h : Z3 w g) (hb : Below B w w') (hg : g < B) : Z3 w' g := (hb.block g hg).trans h

set_option maxRecDepth 100000 in
set_option maxHeartbeats 4000000 in
theorem rsizes_any (A : Option Addr) (n c : Nat) (ds : List (List Value)) (w : World) (hn : ds.length = n) (fd : NS w w.heap.size A ds) (hnc : n ≤ 10000000000000) :
    Calls Tryz.prog 12 #[.slice A n c] w fun e w' => ∃ a b d, e = .returned (.agg #[.float .f64 a, .float .f64 b, .float .f64 d]) ∧ Three (sizesL ds) a b d ∧ Below w.heap.size w w' := by
  have Hn := Lib.hid hn
  have Fd := Lib.hid fd
  have HZ0 := Lib.hid (show Z3 (w.alloc (.cells #[.float .f64 0, .float .f64 0, .float .f64 0] 43)) w.heap.size from heap_alloc_new w _)
  have HB0 := Lib.hid ((Below.refl w.heap.size w).alloc (Nat.le_refl _) (.cells #[.float .f64 0, .float .f64 0, .float .f64 0] 43))
  clear hn fd
  go_enter Tryz.func12, Tryz.ntmps12
  go_wp2_with fail
  generalize w.alloc (.cells #[.float .f64 0, .float .f64 0, .float .f64 0] 43) = W0 at *
  go_loopg [3, 4] n (fun g s5 s14 wx => ∃ i : Nat, i + g = n ∧ s14 = .int .i64 i ∧ FO wx (w.heap.size + 1) s5 (sizesL (ds.take i)) ∧ Z3 wx w.heap.size ∧ Below w.heap.size w wx)
  case atStart => exact ⟨0, by omega, rfl, FO.nil_ _ _, HZ0.out, HB0.out⟩
  case round =>
    obtain ⟨i, hig, rfl, hx, hz, hb⟩ := hrel
    have HX := Lib.hid hx
    have HZ := Lib.hid hz
    have HB := Lib.hid hb
    clear hx hb hz
    cases gk with
    | zero =>
      have hiz : ¬ ((i : Int) < (n : Int)) := by omega
      have HL := Lib.hid (show (sizesL (ds.take i)).length ≤ 10000000000000 by have := sizesL_length (ds.take i); rw [List.length_take, Hn.out] at this; omega)
      have HE := Lib.hid (show sizesL (ds.take i) = sizesL ds by rw [show i = n by omega, ← Hn.out, List.take_length])
      obtain ⟨L, hL⟩ : ∃ L, sizesL ds = L := ⟨_, rfl⟩
      rw [HE.out, hL] at HX HL
      have EL := Lib.hid hL
      clear hL
      obtain ⟨k, hk⟩ : ∃ k, L.length = k := ⟨_, rfl⟩
      obtain ⟨A', cap, rfl, hcap, _, hfs⟩ := HX.out.reads hk
      have HK := Lib.hid (show k ≤ 10000000000000 by rw [← hk]; exact HL.out)
      have FF := Lib.hid hfs
      have CL := Lib.hid (rleast_any A' cap L k wr hk hfs (by have := HK.out; omega))
      have CG := Lib.hid (fun W f => rgreatest_any A' cap L k W hk f (by have := HK.out; omega))
      have CM := Lib.hid (fun W f => rmean_any A' cap L k W hk f (by have := HK.out; omega))
      unfold outOf at CL CG
      unfold Num at CM
      clear hk hcap hfs
      go_wp2_with fail
      refine CL.out.mono ?_; rintro e w' ⟨⟨x1, rfl, hx1⟩, rfl⟩
      have BL := Lib.hid (show ∃ x, Best true L x ∧ x1.getD 0 = x.getD 0 from ⟨_, hx1, rfl⟩)
      clear hx1
      generalize x1.getD 0 = y1 at *
      go_wp2_with fail
      refine (CG.out wr FF.out).mono ?_; rintro e w1 ⟨⟨x2, rfl, hx2⟩, hb1⟩
      have BG := Lib.hid (show ∃ x, Best false L x ∧ x2.getD 0 = x.getD 0 from ⟨_, hx2, rfl⟩)
      have FF1 := Lib.hid ((FF.out.below hb1).more hb1.size)
      have HB1 := Lib.hid (HB.out.trans (hb1.mono HB.out.size))
      have HZ1 := Lib.hid (HZ.out.below hb1 HZ.out.lt)
      clear hx2 hb1
      generalize x2.getD 0 = y2 at *
      go_wp2_with fail
      refine (CM.out w1 FF1.out).mono ?_; rintro e w' ⟨r, q, rfl, rfl, hk1, hr1⟩
      have HK1 := Lib.hid hk1
      have HR1 := Lib.hid hr1
      clear hk1 hr1
      have z0 : (w1.drewN q).cell? ⟨w.heap.size, 0, none⟩ = some (.float .f64 0) := HZ1.out.cell 0 (by omega)
      have z1 : (w1.drewN q).cell? ⟨w.heap.size, 1, none⟩ = some (.float .f64 0) := HZ1.out.cell 1 (by omega)
      have z2 : (w1.drewN q).cell? ⟨w.heap.size, 2, none⟩ = some (.float .f64 0) := HZ1.out.cell 2 (by omega)
      have f0 : (w1.drewN q).frozen? ⟨w.heap.size, 0, none⟩ = false := HZ1.out.frozen 0
      have f1 : (w1.drewN q).frozen? ⟨w.heap.size, 1, none⟩ = false := HZ1.out.frozen 1
      have f2 : (w1.drewN q).frozen? ⟨w.heap.size, 2, none⟩ = false := HZ1.out.frozen 2
      have HZ2 := Lib.hid (show Z3 (w1.drewN q) w.heap.size from HZ1.out)
      have HB2 := Lib.hid (below_drewN HB1.out q)
      generalize w1.drewN q = w2 at *
      go_wp2_with fail
      refine bodyPost_ret (results_cell_row rfl _ _ w.heap.size 43 _ (0, 0) _ rfl (three_cells _ _ _ _ _ _ _ _ _ _ HZ2.out) Tryz.underlying43 rfl info_three) rfl ?_
      exact ⟨_, _, _, rfl, by rw [EL.out]; exact ⟨BL.out, HK1.out, HR1.out, BG.out⟩, below_three HB2.out _ (Nat.le_refl _) _ _ _⟩
    | succ g =>
      have hiz : (i : Int) < (n : Int) := by omega
      obtain ⟨dd, hdd⟩ : ∃ x, ds[i]? = some x := ⟨_, List.getElem?_eq_getElem (by rw [Hn.out]; omega)⟩
      obtain ⟨b, o, rfl, hlt, hr⟩ := Fd.out.2 (by rintro rfl; simp at hdd)
      have HD := Lib.hid (Fd.out.1 dd (List.mem_of_getElem? hdd))
      have ck := range_below (hr i dd hdd) HB.out hlt 1 _ HD.out.2.2.1
      have cc := range_below (hr i dd hdd) HB.out hlt 3 _ HD.out.2.2.2.1
      have HNO := Lib.hid (fun hk => sizesL_no (i := i) hdd hk)
      have HYES := Lib.hid (fun hk => sizesL_yes (i := i) hdd hk)
      have HL := Lib.hid (show (sizesL (ds.take i)).length ≤ 10000000000000 by have := sizesL_length (ds.take i); rw [List.length_take, Hn.out] at this; omega)
      have HSZ := HD.out.2.2.2.2
      have HLF := Lib.hid (lenF_lt dd)
      have HLD := Lib.hid (show lenF dd = floatOfInt .f64 (ndata dd).size from rfl)
      clear hdd hlt hr HD
      generalize lenF dd = lf at *
      generalize nkind dd = k at *
      generalize ndata dd = dat at *
      cases hk1 : (k == 1)
      · go_wp2_with fail
        go_roundg g
        case measure => omega
        case rel => exact ⟨i + 1, by omega, by go_num, by rw [HNO.out hk1]; exact HX.out, HZ.out, HB.out⟩
      · have hld : floatOfInt .f64 (dat.size : Int) = lf := HLD.out.symm
        go_wp2_with (at_builtin; refine wpAppF lf HLF.out rfl _ _ rfl rfl rfl HX.out HL.out HZ.out.lt (Below.refl _ _) ?_; intro v' w3 hs3 hb3 hB3)
        go_roundg g
        case measure => omega
        case rel => exact ⟨i + 1, by omega, by go_num, by rw [HYES.out hk1]; exact hs3, HZ.out.below hb3 (Nat.lt_succ_self _), HB.out.trans (hb3.mono (Nat.le_succ _))⟩
end Go.Proofs.YtkhoaaoddpjnpaaGreatDoor.Sizes
