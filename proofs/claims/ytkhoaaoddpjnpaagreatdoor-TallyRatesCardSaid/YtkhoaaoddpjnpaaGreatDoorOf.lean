/- tally.Of, walked: what happened in a script. -/
import Derived.Test.YtkhoaaoddpjnpaaGreatDoorAsked
import Derived.Deep.LoopGhost
namespace Go.Proofs.YtkhoaaoddpjnpaaGreatDoor.Of
open Go Go.RowKit Go.Proofs.YtkhoaaoddpjnpaaGreatDoor Go.Proofs.YtkhoaaoddpjnpaaGreatDoor.Mem Go.Proofs.YtkhoaaoddpjnpaaGreatDoor.Add Go.Proofs.YtkhoaaoddpjnpaaGreatDoor.Sums Go.Proofs.YtkhoaaoddpjnpaaGreatDoor.Asked

def kindOf (d : List Value) : Int := match d[9]? with
  | some (Value.int .i64 k) => k
  | _ => 0
def callOf (d : List Value) : Int := match d[1]? with
  | some (Value.int .i64 k) => k
  | _ => 0
/-- A deed's cells. -/
def Deed (d : List Value) : Prop := d.length = 10 ∧ (∀ v ∈ d, v.oneCell' = true) ∧ d[9]? = some (.int .i64 (kindOf d)) ∧ d[1]? = some (.int .i64 (callOf d))
/-- The slice at A reads as the deeds ds; it lies below block B. -/
def DS (w : World) (B : Nat) (A : Option Addr) (ds : List (List Value)) : Prop :=
  (∀ d ∈ ds, Deed d) ∧ (ds ≠ [] → ∃ b o, A = some ⟨b, o, none⟩ ∧ b < B ∧ ∀ (j : Nat) d, ds[j]? = some d → w.rangeAt b (o + j * 10) d)
/-- The slice at A reads as tellings with the errors es; it lies below block B. -/
def TS (w : World) (B : Nat) (A : Option Addr) (es : List Int) : Prop :=
  es ≠ [] → ∃ b o, A = some ⟨b, o, none⟩ ∧ b < B ∧ ∀ (j : Nat) e, es[j]? = some e → w.cell? ⟨b, o + j * 8, none⟩ = some (.int .i64 e)

def stp1 (s : List Int) (k c e : Int) : List Int := if k = 0 then askL s c e else if k = 1 ∧ e = 0 then inc s 4 else s
def stp (s : List Int) (x : (Int × Int) × Int) : List Int := if x.2 = 14 then inc (stp1 s x.1.1 x.1.2 x.2) 5 else stp1 s x.1.1 x.1.2 x.2
/-- What happened in the first i. -/
def ofL (l : List ((Int × Int) × Int)) : List Int := l.foldl stp (List.replicate 27 0)
theorem stp1_length (s : List Int) (k c e : Int) : (stp1 s k c e).length = s.length := by
  unfold stp1; (repeat' split) <;> simp [askL_length, inc_length]
theorem stp_length (s : List Int) (x : (Int × Int) × Int) : (stp s x).length = s.length := by
  unfold stp; split <;> simp [inc_length, stp1_length]
theorem foldl_length (l : List ((Int × Int) × Int)) : ∀ s : List Int, (l.foldl stp s).length = s.length := by
  induction l with
  | nil => intro s; rfl
  | cons x l ih => intro s; rw [List.foldl_cons, ih, stp_length]
theorem ofL_length (l : List ((Int × Int) × Int)) : (ofL l).length = 27 := by unfold ofL; rw [foldl_length]; rfl
/-- What the lists tell together. -/
def deeds (ds : List (List Value)) (es : List Int) : List ((Int × Int) × Int) := (ds.map fun d => (kindOf d, callOf d)).zip es
theorem ofL_snoc {l : List ((Int × Int) × Int)} {i : Nat} {x : (Int × Int) × Int} (h : l[i]? = some x) : ofL (l.take (i + 1)) = stp (ofL (l.take i)) x := by
  obtain ⟨hi, rfl⟩ := List.getElem?_eq_some_iff.1 h
  unfold ofL
  rw [List.take_succ_eq_append_getElem hi, List.foldl_append]
  rfl
theorem deeds_get {ds : List (List Value)} {es : List Int} {i : Nat} {d : List Value} {e : Int} (hd : ds[i]? = some d) (he : es[i]? = some e) : (deeds ds es)[i]? = some ((kindOf d, callOf d), e) := by
  unfold deeds
  rw [List.getElem?_zip_eq_some]
  exact ⟨by rw [List.getElem?_map, hd]; rfl, he⟩
theorem deeds_length (ds : List (List Value)) (es : List Int) : (deeds ds es).length = min ds.length es.length := by unfold deeds; simp

theorem info_deed : (Tryz.prog.info? 53).map (·.size) = some 10 := by kernel_rfl

def OfSays (w : World) (l : List ((Int × Int) × Int)) (e : Ending) (w' : World) : Prop := e = .returned (sumV (ofL l)) ∧ Below w.heap.size w w'

theorem there_new (w : World) (cs : Array Value) (t : TypeId) (n : Nat) (hn : cs.size = n) : (w.alloc (.cells cs t)).there w.heap.size 0 n := by
  intro j hj
  rw [Nat.zero_add]
  refine ⟨?_, ?_⟩
  · rw [cell_of_row _ w.heap.size j cs t (0, 0) (heap_alloc_new w _), Array.getElem?_eq_getElem (by omega)]; rfl
  · have h := heap_alloc_new w (.cells cs t)
    unfold World.frozen?
    rw [h]
    simp
theorem of_end {w W : World} {L : List ((Int × Int) × Int)} {X : List Int} {p i : Nat} (hp : L.length = p) (hx : ofL (L.take i) = X) (hi : i = p) (hb : Below w.heap.size w W) : OfSays w L (.returned (.agg (X.map (Value.int .i64)).toArray)) W := by
  subst hi; subst hp
  rw [List.take_length] at hx
  subst hx
  exact ⟨rfl, hb⟩
section
variable {X Y : List Int} {k q e : Int}
theorem stp_yes (h : stp1 X k q e = Y) (he : (e == 14) = true) : stp X ((k, q), e) = inc Y 5 := by
  unfold stp; rw [if_pos (by simpa using he)]; rw [← h]
theorem stp_no (h : stp1 X k q e = Y) (he : (e == 14) = false) : stp X ((k, q), e) = Y := by
  unfold stp; rw [if_neg (by simpa using he)]; exact h
theorem stp1_no (h : (k == 0) = false) (h1 : (k == 1) = false ∨ (e == 0) = false) : stp1 X k q e = X := by
  unfold stp1; rw [if_neg (by simpa using h), if_neg (by rintro ⟨rfl, rfl⟩; simp at h1)]
theorem stp1_step (h : (k == 0) = false) (h1 : (k == 1) = true) (h2 : (e == 0) = true) : stp1 X k q e = inc X 4 := by
  unfold stp1; rw [if_neg (by simpa using h), if_pos ⟨by simpa using h1, by simpa using h2⟩]
theorem stp1_ask (X : List Int) (q e : Int) (h : (k == 0) = true) : stp1 X k q e = askL X q e := by
  unfold stp1; rw [if_pos (by simpa using h)]
end

set_option maxRecDepth 100000 in
set_option maxHeartbeats 4000000 in
theorem of_any (A T : Option Addr) (n c m d : Nat) (ds : List (List Value)) (es : List Int) (w : World) (hn : ds.length = n) (hm : es.length = m) (fd : DS w w.heap.size A ds) (ft : TS w w.heap.size T es) (hnc : n ≤ c) (hc : c ≤ 9223372036854775807) (hmd : m ≤ d) (hd : d ≤ 9223372036854775807) :
    Calls Tryz.prog 14 #[.slice A n c, .slice T m d] w (OfSays w (deeds ds es)) := by
  obtain ⟨p, hp⟩ : ∃ p, min n m = p := ⟨_, rfl⟩
  have hpn : (p : Int) ≤ (n : Int) := by omega
  have hpc : (p : Int) ≤ (c : Int) := by omega
  have hp0 : (0 : Int) ≤ (p : Int) := by omega
  have Hp := Lib.hid hp
  have Hn := Lib.hid hn
  have Hm := Lib.hid hm
  have Fd := Lib.hid fd
  have Ft := Lib.hid ft
  clear hn hm fd ft hp
  have HL := Lib.hid (show p ≤ ds.length ∧ p ≤ es.length by rw [Hn.out, Hm.out, ← Hp.out]; omega)
  have HP := Lib.hid (show (deeds ds es).length = p by rw [deeds_length, Hn.out, Hm.out, Hp.out])
  obtain ⟨L, hL⟩ : ∃ L, deeds ds es = L := ⟨_, rfl⟩
  rw [hL] at HP
  rw [hL]
  have EL := Lib.hid hL
  clear hL
  have HZ1 := Lib.hid (show IR ((w.alloc (.cells #[.int .i64 0, .int .i64 0, .int .i64 0, .int .i64 0, .int .i64 0, .int .i64 0, .int .i64 0, .int .i64 0, .int .i64 0, .int .i64 0, .int .i64 0, .int .i64 0, .int .i64 0, .int .i64 0, .int .i64 0, .int .i64 0, .int .i64 0, .int .i64 0, .int .i64 0, .int .i64 0, .int .i64 0, .int .i64 0, .int .i64 0, .int .i64 0, .int .i64 0, .int .i64 0, .int .i64 0] 28)).alloc (.cells #[.int .i64 0, .int .i64 0, .int .i64 0, .int .i64 0, .int .i64 0, .int .i64 0, .int .i64 0, .int .i64 0, .int .i64 0, .int .i64 0, .int .i64 0, .int .i64 0, .int .i64 0, .int .i64 0, .int .i64 0, .int .i64 0, .int .i64 0, .int .i64 0, .int .i64 0, .int .i64 0, .int .i64 0, .int .i64 0, .int .i64 0, .int .i64 0, .int .i64 0, .int .i64 0, .int .i64 0] 28)) w.heap.size 28 (List.replicate 27 0) from (show IR (w.alloc (.cells #[.int .i64 0, .int .i64 0, .int .i64 0, .int .i64 0, .int .i64 0, .int .i64 0, .int .i64 0, .int .i64 0, .int .i64 0, .int .i64 0, .int .i64 0, .int .i64 0, .int .i64 0, .int .i64 0, .int .i64 0, .int .i64 0, .int .i64 0, .int .i64 0, .int .i64 0, .int .i64 0, .int .i64 0, .int .i64 0, .int .i64 0, .int .i64 0, .int .i64 0, .int .i64 0, .int .i64 0] 28)) w.heap.size 28 (List.replicate 27 0) from heap_alloc_new w _).alloc _)
  have HZ2 := Lib.hid (show IR ((w.alloc (.cells #[.int .i64 0, .int .i64 0, .int .i64 0, .int .i64 0, .int .i64 0, .int .i64 0, .int .i64 0, .int .i64 0, .int .i64 0, .int .i64 0, .int .i64 0, .int .i64 0, .int .i64 0, .int .i64 0, .int .i64 0, .int .i64 0, .int .i64 0, .int .i64 0, .int .i64 0, .int .i64 0, .int .i64 0, .int .i64 0, .int .i64 0, .int .i64 0, .int .i64 0, .int .i64 0, .int .i64 0] 28)).alloc (.cells #[.int .i64 0, .int .i64 0, .int .i64 0, .int .i64 0, .int .i64 0, .int .i64 0, .int .i64 0, .int .i64 0, .int .i64 0, .int .i64 0, .int .i64 0, .int .i64 0, .int .i64 0, .int .i64 0, .int .i64 0, .int .i64 0, .int .i64 0, .int .i64 0, .int .i64 0, .int .i64 0, .int .i64 0, .int .i64 0, .int .i64 0, .int .i64 0, .int .i64 0, .int .i64 0, .int .i64 0] 28)) (w.heap.size + 1) 28 (List.replicate 27 0) from heap_alloc2_new w _ _)
  have HB0 := Lib.hid (((Below.refl w.heap.size w).alloc (Nat.le_refl _) (.cells #[.int .i64 0, .int .i64 0, .int .i64 0, .int .i64 0, .int .i64 0, .int .i64 0, .int .i64 0, .int .i64 0, .int .i64 0, .int .i64 0, .int .i64 0, .int .i64 0, .int .i64 0, .int .i64 0, .int .i64 0, .int .i64 0, .int .i64 0, .int .i64 0, .int .i64 0, .int .i64 0, .int .i64 0, .int .i64 0, .int .i64 0, .int .i64 0, .int .i64 0, .int .i64 0, .int .i64 0] 28)).alloc (by simp) (.cells #[.int .i64 0, .int .i64 0, .int .i64 0, .int .i64 0, .int .i64 0, .int .i64 0, .int .i64 0, .int .i64 0, .int .i64 0, .int .i64 0, .int .i64 0, .int .i64 0, .int .i64 0, .int .i64 0, .int .i64 0, .int .i64 0, .int .i64 0, .int .i64 0, .int .i64 0, .int .i64 0, .int .i64 0, .int .i64 0, .int .i64 0, .int .i64 0, .int .i64 0, .int .i64 0, .int .i64 0] 28))
  have HN := Lib.hid (show p = m ∧ m < n ∨ p = n ∧ ¬ m < n by have := Hp.out; omega)
  clear Hp
  by_cases hmn : m < n
  · obtain rfl : p = m := by have := HN.out; omega
    go_enter Tryz.func14, Tryz.ntmps14
    go_wp2_with fail
    generalize (w.alloc (.cells #[.int .i64 0, .int .i64 0, .int .i64 0, .int .i64 0, .int .i64 0, .int .i64 0, .int .i64 0, .int .i64 0, .int .i64 0, .int .i64 0, .int .i64 0, .int .i64 0, .int .i64 0, .int .i64 0, .int .i64 0, .int .i64 0, .int .i64 0, .int .i64 0, .int .i64 0, .int .i64 0, .int .i64 0, .int .i64 0, .int .i64 0, .int .i64 0, .int .i64 0, .int .i64 0, .int .i64 0] 28)).alloc (.cells #[.int .i64 0, .int .i64 0, .int .i64 0, .int .i64 0, .int .i64 0, .int .i64 0, .int .i64 0, .int .i64 0, .int .i64 0, .int .i64 0, .int .i64 0, .int .i64 0, .int .i64 0, .int .i64 0, .int .i64 0, .int .i64 0, .int .i64 0, .int .i64 0, .int .i64 0, .int .i64 0, .int .i64 0, .int .i64 0, .int .i64 0, .int .i64 0, .int .i64 0, .int .i64 0, .int .i64 0] 28) = W0 at *
    go_loopg [17] p (fun g s17 wx => ∃ i : Nat, i + g = p ∧ s17 = .int .i64 i ∧ IR wx (w.heap.size + 1) 28 (ofL (L.take i)) ∧ IR wx w.heap.size 28 (List.replicate 27 0) ∧ Below w.heap.size w wx)
    case atStart => exact ⟨0, by omega, rfl, HZ2.out, HZ1.out, HB0.out⟩
    case round =>
      obtain ⟨i, hig, rfl, hx, hz, hb⟩ := hrel
      have HX := Lib.hid hx
      have HZ := Lib.hid hz
      have HB := Lib.hid hb
      have HXL := Lib.hid (ofL_length (L.take i))
      clear hx hz hb
      obtain ⟨X, hX⟩ : ∃ X, ofL (L.take i) = X := ⟨_, rfl⟩
      rw [hX] at HX HXL
      have EX := Lib.hid hX
      clear hX
      cases gk with
      | zero =>
        have hiz : ¬ ((i : Int) < (p : Int)) := by omega
        have HS := Lib.hid (show (Tryz.prog.info? 28).map (·.size) = some (X.map (Value.int .i64)).length by rw [List.length_map, HXL.out]; exact info_sum)
        have HS2 := Lib.hid (show (Tryz.prog.info? 28).map (·.size) = some (X.map (Value.int .i64)).toArray.size by rw [List.size_toArray]; exact HS.out)
        have HT := Lib.hid (show wr.there w.heap.size 0 (X.map (Value.int .i64)).toArray.size from by rw [show (X.map (Value.int .i64)).toArray.size = 27 by rw [List.size_toArray, List.length_map, HXL.out]]; exact IR.there HZ.out 27 (by simp))
        have HT2 := Lib.hid (show wr.there w.heap.size 0 (X.map (Value.int .i64)).length from by rw [List.length_map, HXL.out]; exact IR.there HZ.out 27 (by simp))
        have HO := Lib.hid (all_oneCell_toArray (cs := X.map (Value.int .i64)) (fun v hv => by obtain ⟨x, _, rfl⟩ := List.mem_map.1 hv; rfl))
        go_wp2_with (first
          | refine wpList_load_mid rfl 28 (.tmp 5) rfl (w.heap.size + 1) 0 rfl (X.map (Value.int .i64)) _ (IR.range HX.out) Tryz.underlying28 rfl HS.out ?_
          | refine wpList_store_mid rfl 28 (.tmp 4) (.tmp 55) rfl w.heap.size 0 (X.map (Value.int .i64)).toArray rfl rfl HT.out HS2.out HO.out ?_)
        refine bodyPost_ret (results_cell_mid rfl _ _ w.heap.size 0 (X.map (Value.int .i64)) _ rfl (World.rangeAt_setCells_same _ _ _ _ HT2.out) Tryz.underlying28 rfl HS.out) rfl ?_
        exact of_end HP.out EX.out (by omega) (below_setCells _ (by omega) _ _ _ HB.out)
      | succ g =>
        have hiz : (i : Int) < (p : Int) := by omega
        obtain ⟨dd, hdd⟩ : ∃ x, ds[i]? = some x := ⟨_, List.getElem?_eq_getElem (by have := HL.out.1; omega)⟩
        obtain ⟨e, he⟩ : ∃ x, es[i]? = some x := ⟨_, List.getElem?_eq_getElem (by have := HL.out.2; omega)⟩
        obtain ⟨b, o, rfl, hlt, hr⟩ := Fd.out.2 (by rintro rfl; simp at hdd)
        obtain ⟨b', o', rfl, hlt', hr'⟩ := Ft.out (by rintro rfl; simp at he)
        have ce : wr.cell? ⟨b', o' + i * 8, none⟩ = some (.int .i64 e) := (HB.out.cell (p := ⟨b', o' + i * 8, none⟩) hlt').trans (hr' i e he)
        have HD := Lib.hid (Fd.out.1 dd (List.mem_of_getElem? hdd))
        have HR := Lib.hid (range_below (hr i dd hdd) HB.out hlt)
        have HST := Lib.hid (by rw [ofL_snoc (show L[i]? = some ((kindOf dd, callOf dd), e) by rw [← EL.out]; exact deeds_get hdd he), EX.out] : ofL (L.take (i + 1)) = stp X ((kindOf dd, callOf dd), e))
        have HS := Lib.hid (show (Tryz.prog.info? 53).map (·.size) = some dd.length by rw [HD.out.1]; exact info_deed)
        have HS2 := Lib.hid (show (Tryz.prog.info? 53).map (·.size) = some dd.toArray.size by rw [List.size_toArray]; exact HS.out)
        have HO := Lib.hid (all_oneCell_toArray (cs := dd) HD.out.2.1)
        have HTh := Lib.hid (show (wr.alloc (.cells #[.int .i64 0, .int .i64 0, .string ⟨#[]⟩, .string ⟨#[]⟩, .string ⟨#[]⟩, .int .i64 0, .int .i64 0, .int .i64 0, .slice none 0 0, .int .i64 0] 53)).there wr.heap.size 0 dd.toArray.size from by rw [show dd.toArray.size = 10 by rw [List.size_toArray]; exact HD.out.1]; exact there_new wr _ _ 10 rfl)
        have HTh2 := Lib.hid (show (wr.alloc (.cells #[.int .i64 0, .int .i64 0, .string ⟨#[]⟩, .string ⟨#[]⟩, .string ⟨#[]⟩, .int .i64 0, .int .i64 0, .int .i64 0, .slice none 0 0, .int .i64 0] 53)).there wr.heap.size 0 dd.length from by rw [HD.out.1]; exact there_new wr _ _ 10 rfl)
        have HLT' := Lib.hid hlt'
        clear hdd he hlt hlt' hr hr'
        go_upto_region 5 with (first
          | refine wpList_load_mid rfl 53 (.tmp 20) rfl b (o + i * 10) rfl dd _ HR.out Tryz.underlying53 rfl HS.out ?_
          | refine wpList_store_mid rfl 53 (.tmp 7) (.tmp 21) rfl wr.heap.size 0 dd.toArray rfl rfl HTh.out HS2.out HO.out ?_)
        have HB1 := Lib.hid (below_setCells wr.heap.size (Nat.le_refl wr.heap.size) dd 0 _ ((Below.refl wr.heap.size wr).alloc (Nat.le_refl _) (.cells #[.int .i64 0, .int .i64 0, .string ⟨#[]⟩, .string ⟨#[]⟩, .string ⟨#[]⟩, .int .i64 0, .int .i64 0, .int .i64 0, .slice none 0 0, .int .i64 0] 53)))
        have HR1 := Lib.hid (World.rangeAt_setCells_same _ _ _ _ HTh2.out)
        have HS1 := Lib.hid (show ((wr.alloc (.cells #[.int .i64 0, .int .i64 0, .string ⟨#[]⟩, .string ⟨#[]⟩, .string ⟨#[]⟩, .int .i64 0, .int .i64 0, .int .i64 0, .slice none 0 0, .int .i64 0] 53)).setCells wr.heap.size 0 dd).heap.size = wr.heap.size + 1 by rw [size_setCells]; simp)
        clear HTh HTh2
        generalize (wr.alloc (.cells #[.int .i64 0, .int .i64 0, .string ⟨#[]⟩, .string ⟨#[]⟩, .string ⟨#[]⟩, .int .i64 0, .int .i64 0, .int .i64 0, .slice none 0 0, .int .i64 0] 53)).setCells wr.heap.size 0 dd = W1 at *
        have ck := HR1.out 9 _ HD.out.2.2.1
        have cc := HR1.out 1 _ HD.out.2.2.2
        rw [Nat.zero_add] at ck cc
        have ce1 : W1.cell? ⟨b', o' + i * 8, none⟩ = some (.int .i64 e) := (HB1.out.cell (p := ⟨b', o' + i * 8, none⟩) (by have := HLT'.out; have := HB.out.size; show b' < _; omega)).trans ce
        have HX1 := Lib.hid (HX.out.below HB1.out (by have := HX.out.lt; omega))
        have HZ1 := Lib.hid (HZ.out.below HB1.out (by have := HZ.out.lt; omega))
        have HBW := Lib.hid (HB.out.trans (HB1.out.mono HB.out.size))
        generalize kindOf dd = k at *
        generalize callOf dd = q at *
        clear ce
        obtain ⟨x4, E4⟩ := named (X.getD 4 0)
        have c4 := ir_get' HX1.out (by rw [HXL.out]; omega) E4
        have f4 := HX1.out.frozen 4
        have HF : ∀ W Y, IR W (w.heap.size + 1) 28 Y → Only (w.heap.size + 1) W1 W → stp1 X k q e = Y → Hid (IR W (w.heap.size + 1) 28 Y ∧ IR W w.heap.size 28 (List.replicate 27 0) ∧ Below w.heap.size w W ∧ stp1 X k q e = Y) :=
          fun W Y h1 h2 h3 => Lib.hid ⟨h1, h2.ir (by omega) HZ1.out, below_only HBW.out (by omega) h2, h3⟩
        have HF := Lib.hid HF
        go_upto_region 6 with fail
        have HL27 := Lib.hid (show ∀ k q e, (stp1 X k q e).length = 27 from fun k q e => by rw [stp1_length]; exact HXL.out)
        cases hk0 : (k == 0)
        · cases hk1 : (k == 1)
          · have HG := HF.out W1 X HX1.out (Only.refl _ _) (stp1_no hk0 (Or.inl hk1))
            have HGL := HXL
            go_upto_region 10 with fail
            obtain ⟨y5, E5⟩ := named ((X).getD 5 0)
            have c5 := ir_get' HG.out.1 (by rw [HGL.out]; omega) E5
            have f5 := HG.out.1.frozen 5
            cases he14 : (e == 14)
            · go_wp2_with fail
              go_roundg g
              case measure => omega
              case rel => exact ⟨i + 1, by omega, by go_num, by rw [HST.out, stp_no HG.out.2.2.2 he14]; exact HG.out.1, HG.out.2.1, HG.out.2.2.1⟩
            · go_wp2_with fail
              go_roundg g
              case measure => omega
              case rel => exact ⟨i + 1, by omega, by go_num, by rw [HST.out, stp_yes HG.out.2.2.2 he14]; exact ir_inc' HG.out.1 E5, HG.out.2.1.far (by simp) _, HG.out.2.2.1.setCell (by simp) _⟩
          · cases he0 : (e == 0)
            · have HG := HF.out W1 X HX1.out (Only.refl _ _) (stp1_no hk0 (Or.inr he0))
              have HGL := HXL
              go_upto_region 10 with fail
              obtain ⟨y5, E5⟩ := named ((X).getD 5 0)
              have c5 := ir_get' HG.out.1 (by rw [HGL.out]; omega) E5
              have f5 := HG.out.1.frozen 5
              cases he14 : (e == 14)
              · go_wp2_with fail
                go_roundg g
                case measure => omega
                case rel => exact ⟨i + 1, by omega, by go_num, by rw [HST.out, stp_no HG.out.2.2.2 he14]; exact HG.out.1, HG.out.2.1, HG.out.2.2.1⟩
              · go_wp2_with fail
                go_roundg g
                case measure => omega
                case rel => exact ⟨i + 1, by omega, by go_num, by rw [HST.out, stp_yes HG.out.2.2.2 he14]; exact ir_inc' HG.out.1 E5, HG.out.2.1.far (by simp) _, HG.out.2.2.1.setCell (by simp) _⟩
            · have HG := HF.out (W1.setCell ⟨w.heap.size + 1, 4, none⟩ (.int .i64 (wrap64 (x4 + 1)))) (inc X 4) (ir_inc' HX1.out E4) ((Only.refl _ _).set_ _ _) (stp1_step hk0 hk1 he0)
              have HGL := Lib.hid (show (inc X 4).length = 27 by rw [inc_length]; exact HXL.out)
              go_upto_region 10 with fail
              generalize W1.setCell ⟨w.heap.size + 1, 4, none⟩ (.int .i64 (wrap64 (x4 + 1))) = W2 at *
              obtain ⟨y5, E5⟩ := named ((inc X 4).getD 5 0)
              have c5 := ir_get' HG.out.1 (by rw [HGL.out]; omega) E5
              have f5 := HG.out.1.frozen 5
              cases he14 : (e == 14)
              · go_wp2_with fail
                go_roundg g
                case measure => omega
                case rel => exact ⟨i + 1, by omega, by go_num, by rw [HST.out, stp_no HG.out.2.2.2 he14]; exact HG.out.1, HG.out.2.1, HG.out.2.2.1⟩
              · go_wp2_with fail
                go_roundg g
                case measure => omega
                case rel => exact ⟨i + 1, by omega, by go_num, by rw [HST.out, stp_yes HG.out.2.2.2 he14]; exact ir_inc' HG.out.1 E5, HG.out.2.1.far (by simp) _, HG.out.2.2.1.setCell (by simp) _⟩
        · have CA := Lib.hid (asked_any (w.heap.size + 1) X q e W1 HX1.out HXL.out)
          have hst := stp1_ask X q e hk0
          have HST1 := Lib.hid hst
          clear hst
          go_upto_region 10 with (go_at_call 30; refine CA.out.mono ?_; rintro r W2 ⟨rfl, hA, hO⟩; have HG := HF.out W2 (askL X q e) hA hO HST1.out; clear hA hO)
          have HGL := Lib.hid (show (askL X q e).length = 27 by rw [askL_length]; exact HXL.out)
          obtain ⟨y5, E5⟩ := named ((askL X q e).getD 5 0)
          have c5 := ir_get' HG.out.1 (by rw [HGL.out]; omega) E5
          have f5 := HG.out.1.frozen 5
          cases he14 : (e == 14)
          · go_wp2_with fail
            go_roundg g
            case measure => omega
            case rel => exact ⟨i + 1, by omega, by go_num, by rw [HST.out, stp_no HG.out.2.2.2 he14]; exact HG.out.1, HG.out.2.1, HG.out.2.2.1⟩
          · go_wp2_with fail
            go_roundg g
            case measure => omega
            case rel => exact ⟨i + 1, by omega, by go_num, by rw [HST.out, stp_yes HG.out.2.2.2 he14]; exact ir_inc' HG.out.1 E5, HG.out.2.1.far (by simp) _, HG.out.2.2.1.setCell (by simp) _⟩
  · obtain rfl : p = n := by have := HN.out; omega
    go_enter Tryz.func14, Tryz.ntmps14
    go_wp2_with fail
    generalize (w.alloc (.cells #[.int .i64 0, .int .i64 0, .int .i64 0, .int .i64 0, .int .i64 0, .int .i64 0, .int .i64 0, .int .i64 0, .int .i64 0, .int .i64 0, .int .i64 0, .int .i64 0, .int .i64 0, .int .i64 0, .int .i64 0, .int .i64 0, .int .i64 0, .int .i64 0, .int .i64 0, .int .i64 0, .int .i64 0, .int .i64 0, .int .i64 0, .int .i64 0, .int .i64 0, .int .i64 0, .int .i64 0] 28)).alloc (.cells #[.int .i64 0, .int .i64 0, .int .i64 0, .int .i64 0, .int .i64 0, .int .i64 0, .int .i64 0, .int .i64 0, .int .i64 0, .int .i64 0, .int .i64 0, .int .i64 0, .int .i64 0, .int .i64 0, .int .i64 0, .int .i64 0, .int .i64 0, .int .i64 0, .int .i64 0, .int .i64 0, .int .i64 0, .int .i64 0, .int .i64 0, .int .i64 0, .int .i64 0, .int .i64 0, .int .i64 0] 28) = W0 at *
    go_loopg [17] p (fun g s17 wx => ∃ i : Nat, i + g = p ∧ s17 = .int .i64 i ∧ IR wx (w.heap.size + 1) 28 (ofL (L.take i)) ∧ IR wx w.heap.size 28 (List.replicate 27 0) ∧ Below w.heap.size w wx)
    case atStart => exact ⟨0, by omega, rfl, HZ2.out, HZ1.out, HB0.out⟩
    case round =>
      obtain ⟨i, hig, rfl, hx, hz, hb⟩ := hrel
      have HX := Lib.hid hx
      have HZ := Lib.hid hz
      have HB := Lib.hid hb
      have HXL := Lib.hid (ofL_length (L.take i))
      clear hx hz hb
      obtain ⟨X, hX⟩ : ∃ X, ofL (L.take i) = X := ⟨_, rfl⟩
      rw [hX] at HX HXL
      have EX := Lib.hid hX
      clear hX
      cases gk with
      | zero =>
        have hiz : ¬ ((i : Int) < (p : Int)) := by omega
        have HS := Lib.hid (show (Tryz.prog.info? 28).map (·.size) = some (X.map (Value.int .i64)).length by rw [List.length_map, HXL.out]; exact info_sum)
        have HS2 := Lib.hid (show (Tryz.prog.info? 28).map (·.size) = some (X.map (Value.int .i64)).toArray.size by rw [List.size_toArray]; exact HS.out)
        have HT := Lib.hid (show wr.there w.heap.size 0 (X.map (Value.int .i64)).toArray.size from by rw [show (X.map (Value.int .i64)).toArray.size = 27 by rw [List.size_toArray, List.length_map, HXL.out]]; exact IR.there HZ.out 27 (by simp))
        have HT2 := Lib.hid (show wr.there w.heap.size 0 (X.map (Value.int .i64)).length from by rw [List.length_map, HXL.out]; exact IR.there HZ.out 27 (by simp))
        have HO := Lib.hid (all_oneCell_toArray (cs := X.map (Value.int .i64)) (fun v hv => by obtain ⟨x, _, rfl⟩ := List.mem_map.1 hv; rfl))
        go_wp2_with (first
          | refine wpList_load_mid rfl 28 (.tmp 5) rfl (w.heap.size + 1) 0 rfl (X.map (Value.int .i64)) _ (IR.range HX.out) Tryz.underlying28 rfl HS.out ?_
          | refine wpList_store_mid rfl 28 (.tmp 4) (.tmp 55) rfl w.heap.size 0 (X.map (Value.int .i64)).toArray rfl rfl HT.out HS2.out HO.out ?_)
        refine bodyPost_ret (results_cell_mid rfl _ _ w.heap.size 0 (X.map (Value.int .i64)) _ rfl (World.rangeAt_setCells_same _ _ _ _ HT2.out) Tryz.underlying28 rfl HS.out) rfl ?_
        exact of_end HP.out EX.out (by omega) (below_setCells _ (by omega) _ _ _ HB.out)
      | succ g =>
        have hiz : (i : Int) < (p : Int) := by omega
        obtain ⟨dd, hdd⟩ : ∃ x, ds[i]? = some x := ⟨_, List.getElem?_eq_getElem (by have := HL.out.1; omega)⟩
        obtain ⟨e, he⟩ : ∃ x, es[i]? = some x := ⟨_, List.getElem?_eq_getElem (by have := HL.out.2; omega)⟩
        obtain ⟨b, o, rfl, hlt, hr⟩ := Fd.out.2 (by rintro rfl; simp at hdd)
        obtain ⟨b', o', rfl, hlt', hr'⟩ := Ft.out (by rintro rfl; simp at he)
        have ce : wr.cell? ⟨b', o' + i * 8, none⟩ = some (.int .i64 e) := (HB.out.cell (p := ⟨b', o' + i * 8, none⟩) hlt').trans (hr' i e he)
        have HD := Lib.hid (Fd.out.1 dd (List.mem_of_getElem? hdd))
        have HR := Lib.hid (range_below (hr i dd hdd) HB.out hlt)
        have HST := Lib.hid (by rw [ofL_snoc (show L[i]? = some ((kindOf dd, callOf dd), e) by rw [← EL.out]; exact deeds_get hdd he), EX.out] : ofL (L.take (i + 1)) = stp X ((kindOf dd, callOf dd), e))
        have HS := Lib.hid (show (Tryz.prog.info? 53).map (·.size) = some dd.length by rw [HD.out.1]; exact info_deed)
        have HS2 := Lib.hid (show (Tryz.prog.info? 53).map (·.size) = some dd.toArray.size by rw [List.size_toArray]; exact HS.out)
        have HO := Lib.hid (all_oneCell_toArray (cs := dd) HD.out.2.1)
        have HTh := Lib.hid (show (wr.alloc (.cells #[.int .i64 0, .int .i64 0, .string ⟨#[]⟩, .string ⟨#[]⟩, .string ⟨#[]⟩, .int .i64 0, .int .i64 0, .int .i64 0, .slice none 0 0, .int .i64 0] 53)).there wr.heap.size 0 dd.toArray.size from by rw [show dd.toArray.size = 10 by rw [List.size_toArray]; exact HD.out.1]; exact there_new wr _ _ 10 rfl)
        have HTh2 := Lib.hid (show (wr.alloc (.cells #[.int .i64 0, .int .i64 0, .string ⟨#[]⟩, .string ⟨#[]⟩, .string ⟨#[]⟩, .int .i64 0, .int .i64 0, .int .i64 0, .slice none 0 0, .int .i64 0] 53)).there wr.heap.size 0 dd.length from by rw [HD.out.1]; exact there_new wr _ _ 10 rfl)
        have HLT' := Lib.hid hlt'
        clear hdd he hlt hlt' hr hr'
        go_upto_region 5 with (first
          | refine wpList_load_mid rfl 53 (.tmp 20) rfl b (o + i * 10) rfl dd _ HR.out Tryz.underlying53 rfl HS.out ?_
          | refine wpList_store_mid rfl 53 (.tmp 7) (.tmp 21) rfl wr.heap.size 0 dd.toArray rfl rfl HTh.out HS2.out HO.out ?_)
        have HB1 := Lib.hid (below_setCells wr.heap.size (Nat.le_refl wr.heap.size) dd 0 _ ((Below.refl wr.heap.size wr).alloc (Nat.le_refl _) (.cells #[.int .i64 0, .int .i64 0, .string ⟨#[]⟩, .string ⟨#[]⟩, .string ⟨#[]⟩, .int .i64 0, .int .i64 0, .int .i64 0, .slice none 0 0, .int .i64 0] 53)))
        have HR1 := Lib.hid (World.rangeAt_setCells_same _ _ _ _ HTh2.out)
        have HS1 := Lib.hid (show ((wr.alloc (.cells #[.int .i64 0, .int .i64 0, .string ⟨#[]⟩, .string ⟨#[]⟩, .string ⟨#[]⟩, .int .i64 0, .int .i64 0, .int .i64 0, .slice none 0 0, .int .i64 0] 53)).setCells wr.heap.size 0 dd).heap.size = wr.heap.size + 1 by rw [size_setCells]; simp)
        clear HTh HTh2
        generalize (wr.alloc (.cells #[.int .i64 0, .int .i64 0, .string ⟨#[]⟩, .string ⟨#[]⟩, .string ⟨#[]⟩, .int .i64 0, .int .i64 0, .int .i64 0, .slice none 0 0, .int .i64 0] 53)).setCells wr.heap.size 0 dd = W1 at *
        have ck := HR1.out 9 _ HD.out.2.2.1
        have cc := HR1.out 1 _ HD.out.2.2.2
        rw [Nat.zero_add] at ck cc
        have ce1 : W1.cell? ⟨b', o' + i * 8, none⟩ = some (.int .i64 e) := (HB1.out.cell (p := ⟨b', o' + i * 8, none⟩) (by have := HLT'.out; have := HB.out.size; show b' < _; omega)).trans ce
        have HX1 := Lib.hid (HX.out.below HB1.out (by have := HX.out.lt; omega))
        have HZ1 := Lib.hid (HZ.out.below HB1.out (by have := HZ.out.lt; omega))
        have HBW := Lib.hid (HB.out.trans (HB1.out.mono HB.out.size))
        generalize kindOf dd = k at *
        generalize callOf dd = q at *
        clear ce
        obtain ⟨x4, E4⟩ := named (X.getD 4 0)
        have c4 := ir_get' HX1.out (by rw [HXL.out]; omega) E4
        have f4 := HX1.out.frozen 4
        have HF : ∀ W Y, IR W (w.heap.size + 1) 28 Y → Only (w.heap.size + 1) W1 W → stp1 X k q e = Y → Hid (IR W (w.heap.size + 1) 28 Y ∧ IR W w.heap.size 28 (List.replicate 27 0) ∧ Below w.heap.size w W ∧ stp1 X k q e = Y) :=
          fun W Y h1 h2 h3 => Lib.hid ⟨h1, h2.ir (by omega) HZ1.out, below_only HBW.out (by omega) h2, h3⟩
        have HF := Lib.hid HF
        go_upto_region 6 with fail
        have HL27 := Lib.hid (show ∀ k q e, (stp1 X k q e).length = 27 from fun k q e => by rw [stp1_length]; exact HXL.out)
        cases hk0 : (k == 0)
        · cases hk1 : (k == 1)
          · have HG := HF.out W1 X HX1.out (Only.refl _ _) (stp1_no hk0 (Or.inl hk1))
            have HGL := HXL
            go_upto_region 10 with fail
            obtain ⟨y5, E5⟩ := named ((X).getD 5 0)
            have c5 := ir_get' HG.out.1 (by rw [HGL.out]; omega) E5
            have f5 := HG.out.1.frozen 5
            cases he14 : (e == 14)
            · go_wp2_with fail
              go_roundg g
              case measure => omega
              case rel => exact ⟨i + 1, by omega, by go_num, by rw [HST.out, stp_no HG.out.2.2.2 he14]; exact HG.out.1, HG.out.2.1, HG.out.2.2.1⟩
            · go_wp2_with fail
              go_roundg g
              case measure => omega
              case rel => exact ⟨i + 1, by omega, by go_num, by rw [HST.out, stp_yes HG.out.2.2.2 he14]; exact ir_inc' HG.out.1 E5, HG.out.2.1.far (by simp) _, HG.out.2.2.1.setCell (by simp) _⟩
          · cases he0 : (e == 0)
            · have HG := HF.out W1 X HX1.out (Only.refl _ _) (stp1_no hk0 (Or.inr he0))
              have HGL := HXL
              go_upto_region 10 with fail
              obtain ⟨y5, E5⟩ := named ((X).getD 5 0)
              have c5 := ir_get' HG.out.1 (by rw [HGL.out]; omega) E5
              have f5 := HG.out.1.frozen 5
              cases he14 : (e == 14)
              · go_wp2_with fail
                go_roundg g
                case measure => omega
                case rel => exact ⟨i + 1, by omega, by go_num, by rw [HST.out, stp_no HG.out.2.2.2 he14]; exact HG.out.1, HG.out.2.1, HG.out.2.2.1⟩
              · go_wp2_with fail
                go_roundg g
                case measure => omega
                case rel => exact ⟨i + 1, by omega, by go_num, by rw [HST.out, stp_yes HG.out.2.2.2 he14]; exact ir_inc' HG.out.1 E5, HG.out.2.1.far (by simp) _, HG.out.2.2.1.setCell (by simp) _⟩
            · have HG := HF.out (W1.setCell ⟨w.heap.size + 1, 4, none⟩ (.int .i64 (wrap64 (x4 + 1)))) (inc X 4) (ir_inc' HX1.out E4) ((Only.refl _ _).set_ _ _) (stp1_step hk0 hk1 he0)
              have HGL := Lib.hid (show (inc X 4).length = 27 by rw [inc_length]; exact HXL.out)
              go_upto_region 10 with fail
              generalize W1.setCell ⟨w.heap.size + 1, 4, none⟩ (.int .i64 (wrap64 (x4 + 1))) = W2 at *
              obtain ⟨y5, E5⟩ := named ((inc X 4).getD 5 0)
              have c5 := ir_get' HG.out.1 (by rw [HGL.out]; omega) E5
              have f5 := HG.out.1.frozen 5
              cases he14 : (e == 14)
              · go_wp2_with fail
                go_roundg g
                case measure => omega
                case rel => exact ⟨i + 1, by omega, by go_num, by rw [HST.out, stp_no HG.out.2.2.2 he14]; exact HG.out.1, HG.out.2.1, HG.out.2.2.1⟩
              · go_wp2_with fail
                go_roundg g
                case measure => omega
                case rel => exact ⟨i + 1, by omega, by go_num, by rw [HST.out, stp_yes HG.out.2.2.2 he14]; exact ir_inc' HG.out.1 E5, HG.out.2.1.far (by simp) _, HG.out.2.2.1.setCell (by simp) _⟩
        · have CA := Lib.hid (asked_any (w.heap.size + 1) X q e W1 HX1.out HXL.out)
          have hst := stp1_ask X q e hk0
          have HST1 := Lib.hid hst
          clear hst
          go_upto_region 10 with (go_at_call 30; refine CA.out.mono ?_; rintro r W2 ⟨rfl, hA, hO⟩; have HG := HF.out W2 (askL X q e) hA hO HST1.out; clear hA hO)
          have HGL := Lib.hid (show (askL X q e).length = 27 by rw [askL_length]; exact HXL.out)
          obtain ⟨y5, E5⟩ := named ((askL X q e).getD 5 0)
          have c5 := ir_get' HG.out.1 (by rw [HGL.out]; omega) E5
          have f5 := HG.out.1.frozen 5
          cases he14 : (e == 14)
          · go_wp2_with fail
            go_roundg g
            case measure => omega
            case rel => exact ⟨i + 1, by omega, by go_num, by rw [HST.out, stp_no HG.out.2.2.2 he14]; exact HG.out.1, HG.out.2.1, HG.out.2.2.1⟩
          · go_wp2_with fail
            go_roundg g
            case measure => omega
            case rel => exact ⟨i + 1, by omega, by go_num, by rw [HST.out, stp_yes HG.out.2.2.2 he14]; exact ir_inc' HG.out.1 E5, HG.out.2.1.far (by simp) _, HG.out.2.2.1.setCell (by simp) _⟩
end Go.Proofs.YtkhoaaoddpjnpaaGreatDoor.Of
