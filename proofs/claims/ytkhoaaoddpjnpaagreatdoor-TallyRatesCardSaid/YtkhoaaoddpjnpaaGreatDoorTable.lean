/- tally.Table, walked: a sum as lines. -/
import Derived.Test.YtkhoaaoddpjnpaaGreatDoorStr
import Derived.Deep.LoopGhost
namespace Go.Proofs.YtkhoaaoddpjnpaaGreatDoor.Table
open Go Go.RowKit Go.Proofs.YtkhoaaoddpjnpaaGreatDoor Go.Proofs.YtkhoaaoddpjnpaaGreatDoor.Mem Go.Proofs.YtkhoaaoddpjnpaaGreatDoor.Add Go.Proofs.YtkhoaaoddpjnpaaGreatDoor.Sums Go.Proofs.YtkhoaaoddpjnpaaGreatDoor.Ratio Go.Proofs.YtkhoaaoddpjnpaaGreatDoor.Str

/-- A kind's line. -/
def rowT (i : Nat) (y : Int) : ByteArray := itoaS i ++ ⟨#[58]⟩ ++ itoaS y
/-- The lines of the first i kinds. -/
def rowsF (K : List Int) : Nat → List ByteArray
  | 0 => []
  | i + 1 => rowsF K i ++ if K.getD i 0 = 0 then [] else [rowT i (K.getD i 0)]
theorem rowsF_length (K : List Int) (i : Nat) : (rowsF K i).length ≤ i := by
  induction i with
  | zero => exact Nat.le_refl _
  | succ i ih => rw [rowsF, List.length_append]; split <;> simp <;> omega
theorem rowsF_no {K : List Int} {i : Nat} {y : Int} (h : K[i]? = some y) (hy : (y == 0) = true) : rowsF K (i + 1) = rowsF K i := by
  have e : K.getD i 0 = y := by rw [List.getD_eq_getElem?_getD, h]; rfl
  rw [rowsF, e, if_pos (by simpa using hy), List.append_nil]
theorem rowsF_yes {K : List Int} {i : Nat} {y : Int} {a b : ByteArray} (h : K[i]? = some y) (hy : (y == 0) = false) (ha : Hid (a = itoaS i)) (hb : Hid (b = itoaS y)) : rowsF K i ++ [a ++ ⟨#[58]⟩ ++ b] = rowsF K (i + 1) := by
  have e : K.getD i 0 = y := by rw [List.getD_eq_getElem?_getD, h]; rfl
  rw [rowsF, e, if_neg (by simpa using hy), ha.out, hb.out]; rfl
/-- The line of the rates. -/
def rateLine (t0 t1 t2 t3 : ByteArray) : ByteArray := ⟨(Lib.join ([t0, t1, t2, t3].map (·.data.toList)) [32]).toArray⟩

def TableSays (w : World) (out : List ByteArray) (e : Ending) (w' : World) : Prop := ∃ v, e = .returned v ∧ SO w' w.heap.size v out ∧ Below w.heap.size w w'

theorem join_four (t0 t1 t2 t3 : List UInt8) : Lib.join [t0, t1, t2, t3] [32] = t0 ++ ([32] ++ (t1 ++ ([32] ++ (t2 ++ ([32] ++ t3))))) := by
  unfold Lib.join
  rw [List.intercalate]
  simp only [List.intersperse, List.flatten_cons, List.flatten_nil, List.append_nil]
theorem join_length (t0 t1 t2 t3 : List UInt8) : (Lib.join [t0, t1, t2, t3] [32]).length ≤ t0.length + t1.length + t2.length + t3.length + 3 := by
  rw [join_four]
  simp only [List.length_append, List.length_cons, List.length_nil]
  omega
theorem join4 (g cap : Nat) (t0 t1 t2 t3 : ByteArray) (z0 : t0.size ≤ 1000) (z1 : t1.size ≤ 1000) (z2 : t2.size ≤ 1000) (z3 : t3.size ≤ 1000) (W : World) (hg : g < W.heap.size) (hc : [t0, t1, t2, t3].length ≤ cap)
    (hcell : ∀ (j : Nat) x, [t0, t1, t2, t3][j]? = some x → W.cell? ⟨g, 0 + j, none⟩ = some (.string x)) :
    Calls Tryz.prog 29 #[.slice (some ⟨g, 0, none⟩) 4 cap, .string ⟨#[32]⟩] W fun e w' => e = .returned (.string (rateLine t0 t1 t2 t3)) ∧ Below W.heap.size W w' := by
  have e : ∀ t : ByteArray, t.data.toList.length = t.size := fun t => by rw [Array.length_toList]; rfl
  refine Tryz.strings_Join g 0 cap [t0, t1, t2, t3] ⟨#[32]⟩ W hcell hg (by show 4 ≤ _; omega) hc ?_
  have := join_length t0.data.toList t1.data.toList t2.data.toList t3.data.toList
  rw [e, e, e, e] at this
  show (Lib.join [t0.data.toList, t1.data.toList, t2.data.toList, t3.data.toList] [32]).length ≤ _
  omega

set_option maxRecDepth 100000 in
set_option maxHeartbeats 4000000 in
theorem table_any (xs : List Int) (hx : xs.length = 27) (t0 t1 t2 t3 : ByteArray) (z0 : t0.size ≤ 1000) (z1 : t1.size ≤ 1000) (z2 : t2.size ≤ 1000) (z3 : t3.size ≤ 1000)
    (h0 : ShowsAt 28 (rkey (xs.getD 1 0) (xs.getD 0 0)) t0) (h1 : ShowsAt 28 (rkey (xs.getD 2 0) (xs.getD 0 0)) t1)
    (h2 : ShowsAt 28 (rkey (xs.getD 3 0) (xs.getD 0 0)) t2) (h3 : ShowsAt 28 (rkey (xs.getD 4 0) (xs.getD 8 0)) t3)
    (w : World) (hI : (∀ y ∈ xs.drop 6, (y == 0) = false → -9223372036854775808 ≤ y ∧ y ≤ 9223372036854775807 ∧ Itoas w)) :
    Calls Tryz.prog 13 #[sumV xs] w (TableSays w (rowsF (xs.drop 6) 21 ++ [rateLine t0 t1 t2 t3])) := by
  unfold sumV
  have HX := Lib.hid hx
  obtain ⟨K21, hK21⟩ : ∃ K, xs.drop 6 = K := ⟨_, rfl⟩
  have HK21 := Lib.hid (show K21.length = 21 by rw [← hK21, List.length_drop, hx])
  have HI0 := Lib.hid (show IR (w.alloc (.cells (xs.map (Value.int .i64)).toArray 28)) w.heap.size 28 xs from heap_alloc_new w _)
  have HB0 := Lib.hid ((Below.refl w.heap.size w).alloc (Nat.le_refl _) (.cells (xs.map (Value.int .i64)).toArray 28))
  have HSZ := Lib.hid (show (w.alloc (.cells (xs.map (Value.int .i64)).toArray 28)).heap.size = w.heap.size + 1 by simp)
  have HR := Lib.hid (show (w.alloc (.cells (xs.map (Value.int .i64)).toArray 28)).rangeAt w.heap.size 6 (K21.map (Value.int .i64)) from by
    intro j v hv
    rw [List.getElem?_map] at hv
    obtain ⟨x, hxj, rfl⟩ := Option.map_eq_some_iff.1 hv
    rw [← hK21, List.getElem?_drop] at hxj
    exact HI0.out.cell hxj)
  have HI55 := Lib.hid (show (Tryz.prog.info? 26).map (·.size) = some (K21.map (Value.int .i64)).length by rw [List.length_map, HK21.out]; kernel_rfl)
  rw [hK21] at hI ⊢
  have HI := Lib.hid hI
  have H0 := Lib.hid h0
  have H1 := Lib.hid h1
  have H2 := Lib.hid h2
  have H3 := Lib.hid h3
  clear hK21 hx hI h0 h1 h2 h3
  go_enter Tryz.func13, Tryz.ntmps13
  go_wp2_with (refine wpList_load_mid rfl 26 (.tmp 9) rfl w.heap.size 6 rfl (K21.map (Value.int .i64)) _ HR.out Tryz.underlying26 rfl HI55.out ?_)
  generalize w.alloc (.cells (xs.map (Value.int .i64)).toArray 28) = W0 at *
  go_loopg [3, 11] 21 (fun g s3 s11 wx => ∃ i : Nat, i + g = 21 ∧ s11 = .int .i64 i ∧ SO wx (w.heap.size + 1) s3 (rowsF K21 i) ∧ IR wx w.heap.size 28 xs ∧ Below w.heap.size w wx)
  case atStart => exact ⟨0, by omega, rfl, SO.nil_ _ _, HI0.out, HB0.out⟩
  case round =>
    obtain ⟨i, hig, rfl, hs, hi, hb⟩ := hrel
    have HS := Lib.hid hs
    have HJ := Lib.hid hi
    have HB := Lib.hid hb
    clear hs hi hb
    cases gk with
    | zero =>
      have hiz : ¬ ((i : Int) < 21) := by omega
      obtain rfl : i = 21 := by omega
      have HS57 := Lib.hid (show (Tryz.prog.info? 28).map (·.size) = some (xs.map (Value.int .i64)).length by rw [List.length_map, HX.out]; exact info_sum)
      have HLE := Lib.hid (rowsF_length K21 21)
      generalize rowsF K21 21 = rows at *
      go_upto_region 9 with fail
      go_wp2_with (first
        | refine wpList_load_mid rfl 28 (.tmp 1) rfl w.heap.size 0 rfl (xs.map (Value.int .i64)) _ (IR.range HJ.out) Tryz.underlying28 rfl HS57.out ?_)
      refine (rate_t xs HX.out wr).mono ?_; rintro e w1 ⟨r0, r1, r2, r3, rfl, hb1, ⟨k0, l0⟩, ⟨k1, l1⟩, ⟨k2, l2⟩, ⟨k3, l3⟩⟩
      have HB1 := Lib.hid (HB.out.trans (hb1.mono HB.out.size))
      have HS1 := Lib.hid (HS.out.below hb1 (Nat.le_refl _))
      have HL := Lib.hid (show w.heap.size + 1 ≤ w1.heap.size from Nat.le_trans HJ.out.lt hb1.size)
      have S0 := Lib.hid (fun W => H0.out r0 W k0 l0)
      have S1 := Lib.hid (fun W => H1.out r1 W k1 l1)
      have S2 := Lib.hid (fun W => H2.out r2 W k2 l2)
      have S3 := Lib.hid (fun W => H3.out r3 W k3 l3)
      clear k0 l0 k1 l1 k2 l2 k3 l3 hb1
      go_wp2_with fail
      have i0 := fun W => index_at0 r0 r1 r2 r3 W
      have i1 := fun W => index4 r0 r1 r2 r3 W
      have i2 := fun W => index_at2 r0 r1 r2 r3 W
      have i3 := fun W => index_at3 r0 r1 r2 r3 W
      go_loopg [6, 29] 4 (fun g s6 s29 wx => ∃ z : Int, s29 = .int .i64 z ∧ 0 ≤ z ∧ z + g = 4 ∧ SO wx w1.heap.size s6 ([t0, t1, t2, t3].take z.toNat) ∧ Below w1.heap.size w1 wx)
      case atStart => exact ⟨0, rfl, by omega, by omega, SO.nil_ _ _, Below.refl _ _⟩
      case round =>
        obtain ⟨z, rfl, hz0, hzg, hs, hb⟩ := hrel
        have HT := Lib.hid hs
        have HC := Lib.hid hb
        clear hs hb
        cases gk with
        | zero =>
          obtain rfl : z = 4 := by omega
          obtain ⟨gb, cap, rfl, hcap, _, _, hglt, hcell⟩ := HT.out.reads (by simp)
          have JC := Lib.hid (join4 gb cap t0 t1 t2 t3 z0 z1 z2 z3 _ hglt hcap hcell)
          have HS2 := Lib.hid (HS1.out.below HC.out (Nat.le_refl _))
          have HB2 := Lib.hid (HB1.out.trans (HC.out.mono HB1.out.size))
          have HL2 := Lib.hid (Nat.le_trans HL.out HC.out.size)
          clear hcell hcap hglt
          go_wp2_with fail
          refine JC.out.mono ?_; rintro e w2 ⟨rfl, hb2⟩
          have HS3 := Lib.hid (HS2.out.below hb2 (Nat.le_refl _))
          have HB3 := Lib.hid (HB2.out.trans (hb2.mono HB2.out.size))
          have HL3 := Lib.hid (Nat.le_trans HL2.out hb2.size)
          clear hb2
          go_wp2_with (at_builtin; refine wpAppS _ rfl _ _ rfl rfl rfl HS3.out (by have := HLE.out; omega) HL3.out (Below.refl _ _) ?_; intro v' w3 hs3 hb3 hB3)
          go_ret
          exact ⟨_, rfl, hs3.mono (Nat.le_succ _), HB3.out.trans (hb3.mono (Nat.le_succ _))⟩
        | succ g =>
          rcases (show z = 0 ∨ ¬ z = 0 from by omega) with rfl | hz0
          · go_wp2_with fail
            refine (S0.out _).mono ?_; rintro e w2 ⟨rfl, hb2⟩
            have HC2 := Lib.hid (HC.out.trans (hb2.mono HC.out.size))
            have HT2 := Lib.hid (HT.out.below hb2 (Nat.le_refl _))
            clear hb2
            go_wp2_with (at_builtin; refine wpAppS _ rfl _ _ rfl rfl rfl HT2.out (by simp) HC2.out.size (Below.refl _ _) ?_; intro v' w3 hs3 hb3 hB3)
            go_roundg g
            case measure => omega
            case rel => exact ⟨1, rfl, by omega, by omega, hs3, HC2.out.trans hb3⟩
          rcases (show z = 1 ∨ ¬ z = 1 from by omega) with rfl | hz1
          · go_wp2_with fail
            refine (S1.out _).mono ?_; rintro e w2 ⟨rfl, hb2⟩
            have HC2 := Lib.hid (HC.out.trans (hb2.mono HC.out.size))
            have HT2 := Lib.hid (HT.out.below hb2 (Nat.le_refl _))
            clear hb2
            go_wp2_with (at_builtin; refine wpAppS _ rfl _ _ rfl rfl rfl HT2.out (by simp) HC2.out.size (Below.refl _ _) ?_; intro v' w3 hs3 hb3 hB3)
            go_roundg g
            case measure => omega
            case rel => exact ⟨2, rfl, by omega, by omega, hs3, HC2.out.trans hb3⟩
          rcases (show z = 2 ∨ ¬ z = 2 from by omega) with rfl | hz2
          · go_wp2_with fail
            refine (S2.out _).mono ?_; rintro e w2 ⟨rfl, hb2⟩
            have HC2 := Lib.hid (HC.out.trans (hb2.mono HC.out.size))
            have HT2 := Lib.hid (HT.out.below hb2 (Nat.le_refl _))
            clear hb2
            go_wp2_with (at_builtin; refine wpAppS _ rfl _ _ rfl rfl rfl HT2.out (by simp) HC2.out.size (Below.refl _ _) ?_; intro v' w3 hs3 hb3 hB3)
            go_roundg g
            case measure => omega
            case rel => exact ⟨3, rfl, by omega, by omega, hs3, HC2.out.trans hb3⟩
          obtain rfl : z = 3 := by omega
          go_wp2_with fail
          refine (S3.out _).mono ?_; rintro e w2 ⟨rfl, hb2⟩
          have HC2 := Lib.hid (HC.out.trans (hb2.mono HC.out.size))
          have HT2 := Lib.hid (HT.out.below hb2 (Nat.le_refl _))
          clear hb2
          go_wp2_with (at_builtin; refine wpAppS _ rfl _ _ rfl rfl rfl HT2.out (by simp) HC2.out.size (Below.refl _ _) ?_; intro v' w3 hs3 hb3 hB3)
          go_roundg g
          case measure => omega
          case rel => exact ⟨4, rfl, by omega, by omega, hs3, HC2.out.trans hb3⟩
    | succ g =>
      have hiz : (i : Int) < 21 := by omega
      obtain ⟨y, hy⟩ : ∃ y, K21[i]? = some y := ⟨_, List.getElem?_eq_getElem (by rw [HK21.out]; omega)⟩
      have hyv := fun W => run_index21 K21 i y (by omega) hy W
      have Hy := Lib.hid hy
      have HLE := Lib.hid (rowsF_length K21 i)
      have hbB := HB.out.size
      clear hy
      cases hy0 : (y == 0)
      · have hy1 : (y != 0) = true := by simp [bne, hy0]
        have HYR := Lib.hid (HI.out y (List.mem_of_getElem? Hy.out) hy0)
        have HIT := HYR.out.2.2
        unfold Itoas at HIT
        have HIT := Lib.hid HIT
        go_wp2_with fail
        refine (HIT.out wr i HB.out (by omega) (by omega)).mono ?_; rintro e w1 ⟨s1, hs1, hz1, rfl, hb1⟩
        have HB1 := Lib.hid (HB.out.trans (hb1.mono HB.out.size))
        have HS1 := Lib.hid (HS.out.below hb1 (Nat.le_refl _))
        have HJ1 := Lib.hid (HJ.out.below hb1 (by have := HJ.out.lt; omega))
        clear hb1
        go_wp2_with fail
        refine (HIT.out w1 y HB1.out HYR.out.1 HYR.out.2.1).mono ?_; rintro e w2 ⟨s2, hs2, hz2, rfl, hb2⟩
        have HB2 := Lib.hid (HB1.out.trans (hb2.mono HB1.out.size))
        have HS2 := Lib.hid (HS1.out.below hb2 (Nat.le_refl _))
        have HJ2 := Lib.hid (HJ1.out.below hb2 (by have := HJ1.out.lt; omega))
        clear hb2
        have hz3 : s1.size + 1 ≤ 9223372036854775807 := by omega
        have hz4 : s1.size + 1 + s2.size ≤ 9223372036854775807 := by omega
        go_wp2_with (at_builtin; refine wpAppS _ rfl _ _ rfl rfl rfl HS2.out (by have := HLE.out; omega) HJ2.out.lt (Below.refl _ _) ?_; intro v' w3 hs3 hb3 hB3)
        go_roundg g
        case measure => omega
        case rel => exact ⟨i + 1, by omega, by go_num, by rw [← rowsF_yes Hy.out hy0 hs1 hs2]; exact hs3, HJ2.out.below hb3 (Nat.lt_succ_self _), HB2.out.trans (hb3.mono (Nat.le_succ _))⟩
      · have hy1 : (y != 0) = false := by simp [bne, hy0]
        go_wp2_with fail
        go_roundg g
        case measure => omega
        case rel => exact ⟨i + 1, by omega, by go_num, by rw [rowsF_no Hy.out hy0]; exact HS.out, HJ.out, HB.out⟩
end Go.Proofs.YtkhoaaoddpjnpaaGreatDoor.Table
