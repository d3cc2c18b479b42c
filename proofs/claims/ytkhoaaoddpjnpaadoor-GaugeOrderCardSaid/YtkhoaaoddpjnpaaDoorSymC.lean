/- slices.symMergeCmpFunc over floating point numbers, the general round: walked. -/
import Derived.Test.YtkhoaaoddpjnpaaDoorSort
namespace Go.Proofs.YtkhoaaoddpjnpaaDoor.Sorts
open Go Go.RowKit Go.Proofs.YtkhoaaoddpjnpaaDoor Go.Proofs.YtkhoaaoddpjnpaaDoor.Flt Go.Proofs.YtkhoaaoddpjnpaaDoor.Cmp Go.Proofs.YtkhoaaoddpjnpaaDoor.Mem

/-- The merge does what it should on lists of at most d numbers. -/
def SymOk (d : Nat) : Prop := ∀ (g N cap a m b : Nat) (P U V S xs out : List Nat) (w : World), P ++ U ++ V ++ S = xs → P ++ ssort (U ++ V) ++ S = out → FRow w g N xs → P.length = a → a + U.length = m → m + V.length = b → Srt U → Srt V → 0 < U.length → 0 < V.length → N ≤ 100000 → U.length + V.length ≤ d →
    Calls Tryd.prog 83 #[.slice (some ⟨g, 0, none⟩) N cap, .int .i64 a, .int .i64 m, .int .i64 b, .func (.func 41) #[] #[]] w fun e w' => e = .returned (.tuple #[]) ∧ FRow w' g N out ∧ Only g w w'

/-- What the search for the cut begins with. -/
structure CutIn (a m b mid s0 r0 : Nat) : Prop where
  le : s0 ≤ r0
  lo : a ≤ s0
  hi : r0 ≤ m
  up : mid + m ≤ s0 + b
  dn : m + r0 ≤ mid + m
  left : s0 = a ∨ s0 + b = mid + m
  right : r0 = m ∨ m + r0 = mid + m

theorem cut_cross {a m b mid s0 r0 s : Nat} {U V : List Nat} (C : CutIn a m b mid s0 r0) (hU : Srt U) (hV : Srt V) (hm : a + U.length = m) (hb : m + V.length = b) (h1 : s0 ≤ s) (h2 : s ≤ r0)
    (hlo : ∀ c x y, s0 ≤ c → c < s → U[c - a]? = some x → V[mid - 1 - c]? = some y → key x ≤ key y) (hhi : ∀ c x y, s ≤ c → c < r0 → U[c - a]? = some x → V[mid - 1 - c]? = some y → key y < key x) :
    (∀ x ∈ U.take (s - a) ++ V.take (mid - s), ∀ y ∈ U.drop (s - a) ++ V.drop (mid - s), key x ≤ key y) ∧ (∀ x ∈ U.drop (s - a), ∀ y ∈ V.take (mid - s), key y < key x) := by
  have hc := C.lo; have hd := C.hi; have he := C.up; have hf := C.dn
  have strict : ∀ x ∈ U.drop (s - a), ∀ y ∈ V.take (mid - s), key y < key x := by
    intro x hx y hy
    obtain ⟨i, hi1, hi2⟩ := mem_drop_get hx
    obtain ⟨t, ht1, ht2⟩ := mem_take_get hy
    have hil := (List.getElem?_eq_some_iff.1 hi2).1
    have htl := (List.getElem?_eq_some_iff.1 ht2).1
    have hs : s < r0 := by rcases C.right with h | h <;> omega
    obtain ⟨x0, hx0⟩ : ∃ x0, U[s - a]? = some x0 := ⟨_, List.getElem?_eq_getElem (by omega)⟩
    obtain ⟨y0, hy0⟩ : ∃ y0, V[mid - 1 - s]? = some y0 := ⟨_, List.getElem?_eq_getElem (by omega)⟩
    have q := hhi s x0 y0 (Nat.le_refl _) hs hx0 hy0
    have q1 := srt_get hU hi1 hx0 hi2
    have q2 := srt_get hV (show t ≤ mid - 1 - s by omega) ht2 hy0
    omega
  refine ⟨fun x hx y hy => ?_, strict⟩
  rcases List.mem_append.1 hx with hx | hx <;> rcases List.mem_append.1 hy with hy | hy
  · obtain ⟨i, hi1, hi2⟩ := mem_take_get hx
    obtain ⟨j, hj1, hj2⟩ := mem_drop_get hy
    exact srt_get hU (by omega) hi2 hj2
  · obtain ⟨i, hi1, hi2⟩ := mem_take_get hx
    obtain ⟨t, ht1, ht2⟩ := mem_drop_get hy
    have hil := (List.getElem?_eq_some_iff.1 hi2).1
    have htl := (List.getElem?_eq_some_iff.1 ht2).1
    have hs : s0 < s := by rcases C.left with h | h <;> omega
    obtain ⟨x0, hx0⟩ : ∃ x0, U[s - 1 - a]? = some x0 := ⟨_, List.getElem?_eq_getElem (by omega)⟩
    obtain ⟨y0, hy0⟩ : ∃ y0, V[mid - 1 - (s - 1)]? = some y0 := ⟨_, List.getElem?_eq_getElem (by omega)⟩
    have q := hlo (s - 1) x0 y0 (by omega) (by omega) hx0 hy0
    have q1 := srt_get hU (show i ≤ s - 1 - a by omega) hi2 hx0
    have q2 := srt_get hV (show mid - 1 - (s - 1) ≤ t by omega) hy0 ht2
    omega
  · exact Int.le_of_lt (strict y hy x hx)
  · obtain ⟨i, hi1, hi2⟩ := mem_take_get hx
    obtain ⟨j, hj1, hj2⟩ := mem_drop_get hy
    exact srt_get hV (by omega) hi2 hj2

set_option maxHeartbeats 4000000 in
set_option maxRecDepth 100000 in
theorem symC (d : Nat) (IH : SymOk d) (g N cap a m b : Nat) (P U V S xs out : List Nat) (w : World) (hxs : P ++ U ++ V ++ S = xs) (hout : P ++ ssort (U ++ V) ++ S = out) (h : FRow w g N xs) (ha : P.length = a) (hm : a + U.length = m) (hb : m + V.length = b) (hU : Srt U) (hV : Srt V) (hU2 : 2 ≤ U.length) (hV2 : 2 ≤ V.length) (hN : N ≤ 100000) (hd : U.length + V.length ≤ d + 1) :
    Calls Tryd.prog 83 #[.slice (some ⟨g, 0, none⟩) N cap, .int .i64 a, .int .i64 m, .int .i64 b, .func (.func 41) #[] #[]] w fun e w' => e = .returned (.tuple #[]) ∧ FRow w' g N out ∧ Only g w w' := by
  have hlen := h.1
  rw [← hxs] at hlen
  simp only [List.length_append] at hlen
  have hn1 : b ≤ 100000 := by omega
  have hn2 : m + 2 ≤ b := by omega
  have hn3 : b ≤ N := by omega
  have hn4 : a + 2 ≤ m := by omega
  have ht1 : ((m : Int) - (a : Int) == 1) = false := by simp; omega
  have ht2 : ((b : Int) - (m : Int) == 1) = false := by simp; omega
  have hx : Hid (∀ t x, U[t]? = some x → xs[a + t]? = some x) := by
    intro t u hu
    have hlt := (List.getElem?_eq_some_iff.1 hu).1
    rw [← hxs, ← ha, List.append_assoc, List.append_assoc, List.getElem?_append_right (by omega)]
    have e : P.length + t - P.length = t := by omega
    rw [e, List.getElem?_append_left hlt]
    exact hu
  have hy : Hid (∀ t y, V[t]? = some y → xs[m + t]? = some y) := by
    intro t v hv
    have hlt := (List.getElem?_eq_some_iff.1 hv).1
    rw [← hxs, List.append_assoc, List.getElem?_append_right (by simp; omega)]
    have e : m + t - (P ++ U).length = t := by simp; omega
    rw [e, List.getElem?_append_left hlt]
    exact hv
  have H := Lib.hid h
  have Ha := Lib.hid ha
  have Hm := Lib.hid hm
  have Hb := Lib.hid hb
  have HU := Lib.hid hU
  have HV := Lib.hid hV
  have Hd := Lib.hid hd
  have HXS := Lib.hid hxs
  have HOUT := Lib.hid hout
  have HI := Lib.hid IH
  obtain ⟨mid, hq, hq1, hq2⟩ : ∃ mid : Nat, ((a : Int) + (b : Int)) / 2 = (mid : Int) ∧ a + 2 ≤ mid ∧ mid + 2 ≤ b := ⟨(a + b) / 2, by omega, by omega, by omega⟩
  have HQ := Lib.hid hq
  have hCI : (∃ s0 r0 : Nat, CutIn a m b mid s0 r0 ∧ ((mid < m ∧ s0 = mid + m - b ∧ r0 = mid) ∨ (¬ mid < m ∧ s0 = a ∧ r0 = m))) := by
    by_cases c : mid < m
    · exact ⟨mid + m - b, mid, ⟨by omega, by omega, by omega, by omega, by omega, .inr (by omega), .inr (by omega)⟩, .inl ⟨c, rfl, rfl⟩⟩
    · exact ⟨a, m, ⟨by omega, by omega, by omega, by omega, by omega, .inl rfl, .inl rfl⟩, .inr ⟨c, rfl, rfl⟩⟩
  obtain ⟨s0, r0, hC, hcase⟩ := hCI
  have HC := Lib.hid hC
  clear h ha hm hb hU hV hd hxs hout hlen hU2 hV2 IH hC
  rcases hcase with ⟨hc, hs0, hr0⟩ | ⟨hc, hs0, hr0⟩
  · have hcz1 : ((a : Int) + (b : Int)) / 2 < (m : Int) := by omega
    have HS0 : Hid ((mid : Int) + (m : Int) - (b : Int) = (s0 : Int)) := (show _ = _ by omega)
    have HR0 : Hid ((mid : Int) = (r0 : Int)) := (show _ = _ by omega)
    clear hq hs0 hr0 hc
    go_enter Tryd.func83, Tryd.ntmps83
    go_wp2_with fail
    rw [HQ.out]
    obtain ⟨p, hp⟩ : ∃ p : Nat, p + 1 = mid + m := ⟨mid + m - 1, by omega⟩
    have HP : Hid ((mid : Int) + (m : Int) - 1 = (p : Int)) := (show _ = _ by omega)
    rw [HP.out]
    go_loopg [20, 21] (r0 - s0) (fun k s20 s21 wx => ∃ s r : Nat, s20 = .int .i64 s ∧ s21 = .int .i64 r ∧ s0 ≤ s ∧ s ≤ r ∧ r ≤ r0 ∧ r - s ≤ k ∧ Aside ((∀ c x y, s0 ≤ c → c < s → U[c - a]? = some x → V[mid - 1 - c]? = some y → key x ≤ key y) ∧ (∀ c x y, r ≤ c → c < r0 → U[c - a]? = some x → V[mid - 1 - c]? = some y → key y < key x) ∧ FRow wx g N xs ∧ Only g w wx))
    case atStart => exact ⟨s0, r0, by rw [HS0.out], by rw [HR0.out], Nat.le_refl _, HC.out.le, Nat.le_refl _, Nat.le_refl _, fun c x y _ h => by omega, fun c x y _ h => by omega, H.out, Only.refl_ g w⟩
    case round =>
      obtain ⟨s, r, rfl, rfl, hs, hsr, hr, hk, HR⟩ := hrel
      have hc1 := HC.out.lo
      have hc2 := HC.out.hi
      have hc3 := HC.out.up
      have hc4 := HC.out.dn
      by_cases hlt : s < r
      · have hltz : (s : Int) < (r : Int) := by omega
        obtain ⟨q, hq1, hq2, hq3⟩ : ∃ q : Nat, ((s : Int) + (r : Int)) / 2 = (q : Int) ∧ s ≤ q ∧ q < r := ⟨(s + r) / 2, by omega, by omega, by omega⟩
        have HQ2 := Lib.hid hq1
        obtain ⟨t, ht⟩ : ∃ t, q = a + t := ⟨q - a, by omega⟩
        obtain ⟨z, hz⟩ : ∃ z, z + 1 + q = mid := ⟨mid - 1 - q, by omega⟩
        have HT := Lib.hid (And.intro ht hz)
        obtain ⟨x, hx1⟩ : ∃ x, U[t]? = some x := ⟨_, List.getElem?_eq_getElem (by have := Hm.out; omega)⟩
        obtain ⟨y, hy1⟩ : ∃ y, V[z]? = some y := ⟨_, List.getElem?_eq_getElem (by have := Hb.out; omega)⟩
        have hxq : xs[q]? = some x := by rw [ht]; exact hx.out t x hx1
        have hyq : xs[m + z]? = some y := hy.out z y hy1
        have c1 := HR.out.2.2.1.cell hxq
        have c2 := HR.out.2.2.1.cell hyq
        have CC := Lib.hid (compare_any y x (HR.out.2.2.1.bound hyq) (HR.out.2.2.1.bound hxq))
        have HX1 := Lib.hid hx1
        have HY1 := Lib.hid hy1
        have hpq : (p : Int) - (q : Int) = (m : Int) + (z : Int) := by omega
        have hpw : IntKind.i64.wrap ((p : Int) - (q : Int)) = (m : Int) + (z : Int) := by rw [IntKind.wrap_i64]; omega
        have hzb : (m : Int) + (z : Int) < (N : Int) := by omega
        have hz0 : (0 : Int) ≤ (m : Int) + (z : Int) := by omega
        have hzt : ((m : Int) + (z : Int)).toNat = m + z := by omega
        clear hq1 ht hz hx1 hy1 hxq hyq hp
        go_wp2_with fail
        rw [HQ2.out]
        by_cases hc : cmpF y x < 0
        · go_quiet ((go_at_call 41; exact Calls.quiet_of_same ((CC.out _).mono fun _ _ h => ⟨h.1, h.2.symm⟩)))
          go_wp2_with fail
          go_roundg (q - s)
          case measure => omega
          case rel =>
            refine ⟨s, q, rfl, rfl, hs, by omega, by omega, Nat.le_refl _, HR.out.1, ?_, HR.out.2.2.1.drewN _, HR.out.2.2.2.drewN _⟩
            intro c x' y' g1 g2 g3 g4
            have e1 := HT.out.1
            have e2 := HT.out.2
            have k1 := srt_get HU.out (show t ≤ c - a by omega) HX1.out g3
            have k2 := srt_get HV.out (show mid - 1 - c ≤ z by omega) g4 HY1.out
            have k3 := (cmpF_lt y x).1 hc
            omega
        · go_quiet ((go_at_call 41; exact Calls.quiet_of_same ((CC.out _).mono fun _ _ h => ⟨h.1, h.2.symm⟩)))
          go_wp2_with fail
          go_roundg (r - (q + 1))
          case measure => omega
          case rel =>
            refine ⟨q + 1, r, by go_num, rfl, by omega, by omega, hr, Nat.le_refl _, ?_, HR.out.2.1, HR.out.2.2.1.drewN _, HR.out.2.2.2.drewN _⟩
            intro c x' y' g1 g2 g3 g4
            have e1 := HT.out.1
            have e2 := HT.out.2
            have k1 := srt_get HU.out (show c - a ≤ t by omega) g3 HX1.out
            have k2 := srt_get HV.out (show z ≤ mid - 1 - c by omega) HY1.out g4
            have k3 : ¬ key y < key x := fun h => by have := (cmpF_lt y x).2 h; omega
            omega
      · have hltz : ¬ (s : Int) < (r : Int) := by omega
        obtain rfl : s = r := by omega
        have HX := Lib.hid (cut_cross HC.out HU.out HV.out Hm.out Hb.out hs hr HR.out.1 HR.out.2.1)
        have HF := Lib.hid HR.out.2.2.1
        have HO := Lib.hid HR.out.2.2.2
        obtain ⟨e, he⟩ : ∃ e : Nat, e + s = mid + m := ⟨mid + m - s, by omega⟩
        have HE : Hid ((mid : Int) + (m : Int) - (s : Int) = (e : Int)) := (show _ = _ by omega)
        clear HR
        have hs' := HC.out.right
        have hs'' := HC.out.left
        have HG : Hid (∃ U1 U2 V1 V2 : List Nat, U = U1 ++ U2 ∧ V = V1 ++ V2 ∧ a + U1.length = s ∧ s + U2.length = m ∧ s + V1.length = mid ∧ e + V2.length = b ∧ (Srt U1 ∧ Srt U2 ∧ Srt V1 ∧ Srt V2) ∧ ssort (U ++ V) = ssort (U1 ++ V1) ++ ssort (U2 ++ V2)) := by
          have g1 := Hm.out
          have g2 := Hb.out
          refine ⟨U.take (s - a), U.drop (s - a), V.take (mid - s), V.drop (mid - s), (List.take_append_drop _ _).symm, (List.take_append_drop _ _).symm, ?_, ?_, ?_, ?_, ⟨srt_take HU.out _, srt_drop HU.out _, srt_take HV.out _, srt_drop HV.out _⟩, ?_⟩
          · rw [List.length_take]; omega
          · rw [List.length_drop]; omega
          · rw [List.length_take]; omega
          · rw [List.length_drop]; omega
          · have k := merge_fin (U.take (s - a)) (U.drop (s - a)) (V.take (mid - s)) (V.drop (mid - s)) HX.out.1 HX.out.2
            rwa [List.take_append_drop, List.take_append_drop] at k
        obtain ⟨U1, U2, V1, V2, gU, gV, l1, l2, l3, l4, gS, gM⟩ := HG.out
        have GS := Lib.hid gS
        have GL := Lib.hid (And.intro l1 (And.intro l2 (And.intro l3 l4)))
        have GX : Hid (P ++ U1 ++ U2 ++ V1 ++ V2 ++ S = xs) := (show _ = _ by rw [← HXS.out, gU, gV]; simp)
        have GO : Hid (P ++ ssort (U1 ++ V1) ++ ssort (U2 ++ V2) ++ S = out) := (show _ = _ by rw [← HOUT.out, gM]; simp)
        have hsz : s < mid + 1 := by omega
        clear HG HX hx hy gU gV gS gM l1 l2 l3 l4 hs' hs'' H HXS HOUT hp
        by_cases hsm : s < m
        · have hsmz : (s : Int) < (m : Int) := by omega
          by_cases hme : m < e
          · -- the blocks change places
            have hmez : (m : Int) < (mid : Int) + (m : Int) - (s : Int) := by omega
            have hmez' : (s : Int) < (mid : Int) := by omega
            have hez : (mid : Int) < (mid : Int) + (m : Int) - (s : Int) := by omega
            have C1 := Lib.hid (rotate_any g N cap s m e (.func (.func 41) #[] #[]) (P ++ U1) U2 V1 (V2 ++ S) xs (P ++ U1 ++ V1 ++ U2 ++ (V2 ++ S)) wr (by rw [← GX.out]; simp) (by simp) HF.out (by rw [List.length_append, Ha.out]; exact GL.out.1) GL.out.2.1 (by have := GL.out; omega) (by have := GL.out; omega) (by have := GL.out; omega) hN)
            by_cases has : a < s
            · have hasz : (a : Int) < (s : Int) := by omega
              have C2 : Hid (∀ W, FRow W g N (P ++ U1 ++ V1 ++ U2 ++ (V2 ++ S)) → _) := fun W hW => HI.out g N cap a s mid P U1 V1 (U2 ++ (V2 ++ S)) _ (P ++ ssort (U1 ++ V1) ++ (U2 ++ (V2 ++ S))) W (by simp) rfl hW Ha.out GL.out.1 GL.out.2.2.1 GS.out.1 GS.out.2.2.1 (by have := GL.out; omega) (by have := GL.out; omega) hN (by have := GL.out; have := Hd.out; have := Hm.out; have := Hb.out; omega)
              by_cases heb : e < b
              · have hebz : (mid : Int) + (m : Int) - (s : Int) < (b : Int) := by omega
                have C3 : Hid (∀ W, FRow W g N (P ++ ssort (U1 ++ V1) ++ (U2 ++ (V2 ++ S))) → _) := fun W hW => HI.out g N cap mid e b (P ++ ssort (U1 ++ V1)) U2 V2 S _ out W (by simp) (by rw [← GO.out]) hW (by rw [List.length_append, ssort_length, List.length_append, Ha.out]; have := GL.out; omega) (by have := GL.out; omega) GL.out.2.2.2 GS.out.2.1 GS.out.2.2.2 (by have := GL.out; omega) (by have := GL.out; omega) hN (by have := GL.out; have := Hd.out; have := Hm.out; have := Hb.out; omega)
                go_wp2_with fail
                try rw [HE.out]
                refine C1.out.mono ?_; rintro e1 w1 ⟨rfl, h1, h1'⟩
                have H1 := Lib.hid h1
                clear h1
                go_wp2_with fail
                refine (C2.out w1 H1.out).mono ?_; rintro e1 w2 ⟨rfl, h2, h2'⟩
                have H2 := Lib.hid h2
                clear h2
                go_wp2_with fail
                try rw [HE.out]
                refine (C3.out w2 H2.out).mono ?_; rintro e1 w3 ⟨rfl, h3, h3'⟩
                have H3 := Lib.hid h3
                clear h3
                go_wp2_with fail
                go_end0
                exact ⟨rfl, H3.out, ((HO.out.trans_ h1').trans_ h2').trans_ h3'⟩
              · have hebz : ¬ (mid : Int) + (m : Int) - (s : Int) < (b : Int) := by omega
                go_wp2_with fail
                try rw [HE.out]
                refine C1.out.mono ?_; rintro e1 w1 ⟨rfl, h1, h1'⟩
                have H1 := Lib.hid h1
                clear h1
                go_wp2_with fail
                refine (C2.out w1 H1.out).mono ?_; rintro e1 w2 ⟨rfl, h2, h2'⟩
                have H2 := Lib.hid h2
                clear h2
                go_wp2_with fail
                go_end0
                refine ⟨rfl, ?_, (HO.out.trans_ h1').trans_ h2'⟩
                have z : V2 = [] := List.eq_nil_of_length_eq_zero (by have := GL.out; omega)
                have k := H2.out
                rw [← GO.out]
                subst z
                rw [List.append_nil, ssort_id GS.out.2.1]
                simpa using k
            · have hasz : ¬ (a : Int) < (s : Int) := by omega
              have z : U1 = [] := List.eq_nil_of_length_eq_zero (by have := GL.out; omega)
              by_cases heb : e < b
              · have hebz : (mid : Int) + (m : Int) - (s : Int) < (b : Int) := by omega
                have C3 : Hid (∀ W, FRow W g N (P ++ U1 ++ V1 ++ U2 ++ (V2 ++ S)) → _) := fun W hW => HI.out g N cap mid e b (P ++ U1 ++ V1) U2 V2 S _ (P ++ U1 ++ V1 ++ ssort (U2 ++ V2) ++ S) W (by simp) rfl hW (by rw [List.length_append, List.length_append, Ha.out]; have := GL.out; omega) (by have := GL.out; omega) GL.out.2.2.2 GS.out.2.1 GS.out.2.2.2 (by have := GL.out; omega) (by have := GL.out; omega) hN (by have := GL.out; have := Hd.out; have := Hm.out; have := Hb.out; omega)
                go_wp2_with fail
                try rw [HE.out]
                refine C1.out.mono ?_; rintro e1 w1 ⟨rfl, h1, h1'⟩
                have H1 := Lib.hid h1
                clear h1
                go_wp2_with fail
                try rw [HE.out]
                refine (C3.out w1 H1.out).mono ?_; rintro e1 w3 ⟨rfl, h3, h3'⟩
                have H3 := Lib.hid h3
                clear h3
                go_wp2_with fail
                go_end0
                refine ⟨rfl, ?_, (HO.out.trans_ h1').trans_ h3'⟩
                have k := H3.out
                rw [← GO.out]
                subst z
                rw [List.nil_append, ssort_id GS.out.2.2.1]
                simpa using k
              · have hebz : ¬ (mid : Int) + (m : Int) - (s : Int) < (b : Int) := by omega
                go_wp2_with fail
                try rw [HE.out]
                refine C1.out.mono ?_; rintro e1 w1 ⟨rfl, h1, h1'⟩
                have H1 := Lib.hid h1
                clear h1
                go_wp2_with fail
                go_end0
                refine ⟨rfl, ?_, HO.out.trans_ h1'⟩
                have z2 : V2 = [] := List.eq_nil_of_length_eq_zero (by have := GL.out; omega)
                have k := H1.out
                rw [← GO.out]
                subst z z2
                rw [List.nil_append, List.append_nil, ssort_id GS.out.2.2.1, ssort_id GS.out.2.1]
                simpa using k
          · -- nothing of the second list is ahead: s = mid
            have hmez : ¬ (m : Int) < (mid : Int) + (m : Int) - (s : Int) := by omega
            have hmez' : ¬ (s : Int) < (mid : Int) := by omega
            have hez : (mid : Int) < (mid : Int) + (m : Int) - (s : Int) := by omega
            have hebz : (mid : Int) + (m : Int) - (s : Int) < (b : Int) := by omega
            have z : V1 = [] := List.eq_nil_of_length_eq_zero (by have := GL.out; omega)
            have C3 : Hid (∀ W, FRow W g N xs → _) := fun W hW => HI.out g N cap mid e b (P ++ U1) U2 V2 S _ (P ++ U1 ++ ssort (U2 ++ V2) ++ S) W (by rw [← GX.out, z]; simp) rfl hW (by rw [List.length_append, Ha.out]; have := GL.out; omega) (by have := GL.out; omega) GL.out.2.2.2 GS.out.2.1 GS.out.2.2.2 (by have := GL.out; omega) (by have := GL.out; omega) hN (by have := GL.out; have := Hd.out; have := Hm.out; have := Hb.out; omega)
            go_wp2_with fail
            try rw [HE.out]
            refine (C3.out _ HF.out).mono ?_; rintro e1 w3 ⟨rfl, h3, h3'⟩
            have H3 := Lib.hid h3
            clear h3
            go_wp2_with fail
            go_end0
            refine ⟨rfl, ?_, HO.out.trans_ h3'⟩
            have k := H3.out
            rw [← GO.out]
            subst z
            rw [List.append_nil, ssort_id GS.out.1]
            simpa using k
        · -- the whole first list stays: s = m
          have hsmz : ¬ (s : Int) < (m : Int) := by omega
          have hez : ¬ (mid : Int) < (mid : Int) + (m : Int) - (s : Int) := by omega
          have hasz : (a : Int) < (s : Int) := by omega
          have z : U2 = [] := List.eq_nil_of_length_eq_zero (by have := GL.out; omega)
          by_cases hmm : s < mid
          · have hmmz : (s : Int) < (mid : Int) := by omega
            have C2 : Hid (∀ W, FRow W g N xs → _) := fun W hW => HI.out g N cap a s mid P U1 V1 (V2 ++ S) _ (P ++ ssort (U1 ++ V1) ++ (V2 ++ S)) W (by rw [← GX.out, z]; simp) rfl hW Ha.out GL.out.1 GL.out.2.2.1 GS.out.1 GS.out.2.2.1 (by have := GL.out; omega) (by have := GL.out; omega) hN (by have := GL.out; have := Hd.out; have := Hm.out; have := Hb.out; omega)
            go_wp2_with fail
            refine (C2.out _ HF.out).mono ?_; rintro e1 w2 ⟨rfl, h2, h2'⟩
            have H2 := Lib.hid h2
            clear h2
            go_wp2_with fail
            go_end0
            refine ⟨rfl, ?_, HO.out.trans_ h2'⟩
            have k := H2.out
            rw [← GO.out]
            subst z
            rw [List.nil_append, ssort_id GS.out.2.2.2]
            simpa using k
          · have hmmz : ¬ (s : Int) < (mid : Int) := by omega
            go_wp2_with fail
            go_end0
            refine ⟨rfl, ?_, HO.out⟩
            have z2 : V1 = [] := List.eq_nil_of_length_eq_zero (by have := GL.out; omega)
            have k := HF.out
            rw [← GX.out] at k
            rw [← GO.out]
            subst z z2
            rw [List.nil_append, List.append_nil, ssort_id GS.out.1, ssort_id GS.out.2.2.2]
            simpa using k
  · have hcz1 : ¬ ((a : Int) + (b : Int)) / 2 < (m : Int) := by omega
    have HS0 : Hid ((a : Int) = (s0 : Int)) := (show _ = _ by omega)
    have HR0 : Hid ((m : Int) = (r0 : Int)) := (show _ = _ by omega)
    clear hq hs0 hr0 hc
    go_enter Tryd.func83, Tryd.ntmps83
    go_wp2_with fail
    rw [HQ.out]
    obtain ⟨p, hp⟩ : ∃ p : Nat, p + 1 = mid + m := ⟨mid + m - 1, by omega⟩
    have HP : Hid ((mid : Int) + (m : Int) - 1 = (p : Int)) := (show _ = _ by omega)
    rw [HP.out]
    go_loopg [20, 21] (r0 - s0) (fun k s20 s21 wx => ∃ s r : Nat, s20 = .int .i64 s ∧ s21 = .int .i64 r ∧ s0 ≤ s ∧ s ≤ r ∧ r ≤ r0 ∧ r - s ≤ k ∧ Aside ((∀ c x y, s0 ≤ c → c < s → U[c - a]? = some x → V[mid - 1 - c]? = some y → key x ≤ key y) ∧ (∀ c x y, r ≤ c → c < r0 → U[c - a]? = some x → V[mid - 1 - c]? = some y → key y < key x) ∧ FRow wx g N xs ∧ Only g w wx))
    case atStart => exact ⟨s0, r0, by rw [HS0.out], by rw [HR0.out], Nat.le_refl _, HC.out.le, Nat.le_refl _, Nat.le_refl _, fun c x y _ h => by omega, fun c x y _ h => by omega, H.out, Only.refl_ g w⟩
    case round =>
      obtain ⟨s, r, rfl, rfl, hs, hsr, hr, hk, HR⟩ := hrel
      have hc1 := HC.out.lo
      have hc2 := HC.out.hi
      have hc3 := HC.out.up
      have hc4 := HC.out.dn
      by_cases hlt : s < r
      · have hltz : (s : Int) < (r : Int) := by omega
        obtain ⟨q, hq1, hq2, hq3⟩ : ∃ q : Nat, ((s : Int) + (r : Int)) / 2 = (q : Int) ∧ s ≤ q ∧ q < r := ⟨(s + r) / 2, by omega, by omega, by omega⟩
        have HQ2 := Lib.hid hq1
        obtain ⟨t, ht⟩ : ∃ t, q = a + t := ⟨q - a, by omega⟩
        obtain ⟨z, hz⟩ : ∃ z, z + 1 + q = mid := ⟨mid - 1 - q, by omega⟩
        have HT := Lib.hid (And.intro ht hz)
        obtain ⟨x, hx1⟩ : ∃ x, U[t]? = some x := ⟨_, List.getElem?_eq_getElem (by have := Hm.out; omega)⟩
        obtain ⟨y, hy1⟩ : ∃ y, V[z]? = some y := ⟨_, List.getElem?_eq_getElem (by have := Hb.out; omega)⟩
        have hxq : xs[q]? = some x := by rw [ht]; exact hx.out t x hx1
        have hyq : xs[m + z]? = some y := hy.out z y hy1
        have c1 := HR.out.2.2.1.cell hxq
        have c2 := HR.out.2.2.1.cell hyq
        have CC := Lib.hid (compare_any y x (HR.out.2.2.1.bound hyq) (HR.out.2.2.1.bound hxq))
        have HX1 := Lib.hid hx1
        have HY1 := Lib.hid hy1
        have hpq : (p : Int) - (q : Int) = (m : Int) + (z : Int) := by omega
        have hpw : IntKind.i64.wrap ((p : Int) - (q : Int)) = (m : Int) + (z : Int) := by rw [IntKind.wrap_i64]; omega
        have hzb : (m : Int) + (z : Int) < (N : Int) := by omega
        have hz0 : (0 : Int) ≤ (m : Int) + (z : Int) := by omega
        have hzt : ((m : Int) + (z : Int)).toNat = m + z := by omega
        clear hq1 ht hz hx1 hy1 hxq hyq hp
        go_wp2_with fail
        rw [HQ2.out]
        by_cases hc : cmpF y x < 0
        · go_quiet ((go_at_call 41; exact Calls.quiet_of_same ((CC.out _).mono fun _ _ h => ⟨h.1, h.2.symm⟩)))
          go_wp2_with fail
          go_roundg (q - s)
          case measure => omega
          case rel =>
            refine ⟨s, q, rfl, rfl, hs, by omega, by omega, Nat.le_refl _, HR.out.1, ?_, HR.out.2.2.1.drewN _, HR.out.2.2.2.drewN _⟩
            intro c x' y' g1 g2 g3 g4
            have e1 := HT.out.1
            have e2 := HT.out.2
            have k1 := srt_get HU.out (show t ≤ c - a by omega) HX1.out g3
            have k2 := srt_get HV.out (show mid - 1 - c ≤ z by omega) g4 HY1.out
            have k3 := (cmpF_lt y x).1 hc
            omega
        · go_quiet ((go_at_call 41; exact Calls.quiet_of_same ((CC.out _).mono fun _ _ h => ⟨h.1, h.2.symm⟩)))
          go_wp2_with fail
          go_roundg (r - (q + 1))
          case measure => omega
          case rel =>
            refine ⟨q + 1, r, by go_num, rfl, by omega, by omega, hr, Nat.le_refl _, ?_, HR.out.2.1, HR.out.2.2.1.drewN _, HR.out.2.2.2.drewN _⟩
            intro c x' y' g1 g2 g3 g4
            have e1 := HT.out.1
            have e2 := HT.out.2
            have k1 := srt_get HU.out (show c - a ≤ t by omega) g3 HX1.out
            have k2 := srt_get HV.out (show z ≤ mid - 1 - c by omega) HY1.out g4
            have k3 : ¬ key y < key x := fun h => by have := (cmpF_lt y x).2 h; omega
            omega
      · have hltz : ¬ (s : Int) < (r : Int) := by omega
        obtain rfl : s = r := by omega
        have HX := Lib.hid (cut_cross HC.out HU.out HV.out Hm.out Hb.out hs hr HR.out.1 HR.out.2.1)
        have HF := Lib.hid HR.out.2.2.1
        have HO := Lib.hid HR.out.2.2.2
        obtain ⟨e, he⟩ : ∃ e : Nat, e + s = mid + m := ⟨mid + m - s, by omega⟩
        have HE : Hid ((mid : Int) + (m : Int) - (s : Int) = (e : Int)) := (show _ = _ by omega)
        clear HR
        have hs' := HC.out.right
        have hs'' := HC.out.left
        have HG : Hid (∃ U1 U2 V1 V2 : List Nat, U = U1 ++ U2 ∧ V = V1 ++ V2 ∧ a + U1.length = s ∧ s + U2.length = m ∧ s + V1.length = mid ∧ e + V2.length = b ∧ (Srt U1 ∧ Srt U2 ∧ Srt V1 ∧ Srt V2) ∧ ssort (U ++ V) = ssort (U1 ++ V1) ++ ssort (U2 ++ V2)) := by
          have g1 := Hm.out
          have g2 := Hb.out
          refine ⟨U.take (s - a), U.drop (s - a), V.take (mid - s), V.drop (mid - s), (List.take_append_drop _ _).symm, (List.take_append_drop _ _).symm, ?_, ?_, ?_, ?_, ⟨srt_take HU.out _, srt_drop HU.out _, srt_take HV.out _, srt_drop HV.out _⟩, ?_⟩
          · rw [List.length_take]; omega
          · rw [List.length_drop]; omega
          · rw [List.length_take]; omega
          · rw [List.length_drop]; omega
          · have k := merge_fin (U.take (s - a)) (U.drop (s - a)) (V.take (mid - s)) (V.drop (mid - s)) HX.out.1 HX.out.2
            rwa [List.take_append_drop, List.take_append_drop] at k
        obtain ⟨U1, U2, V1, V2, gU, gV, l1, l2, l3, l4, gS, gM⟩ := HG.out
        have GS := Lib.hid gS
        have GL := Lib.hid (And.intro l1 (And.intro l2 (And.intro l3 l4)))
        have GX : Hid (P ++ U1 ++ U2 ++ V1 ++ V2 ++ S = xs) := (show _ = _ by rw [← HXS.out, gU, gV]; simp)
        have GO : Hid (P ++ ssort (U1 ++ V1) ++ ssort (U2 ++ V2) ++ S = out) := (show _ = _ by rw [← HOUT.out, gM]; simp)
        have hsz : s < mid + 1 := by omega
        clear HG HX hx hy gU gV gS gM l1 l2 l3 l4 hs' hs'' H HXS HOUT hp
        by_cases hsm : s < m
        · have hsmz : (s : Int) < (m : Int) := by omega
          by_cases hme : m < e
          · -- the blocks change places
            have hmez : (m : Int) < (mid : Int) + (m : Int) - (s : Int) := by omega
            have hmez' : (s : Int) < (mid : Int) := by omega
            have hez : (mid : Int) < (mid : Int) + (m : Int) - (s : Int) := by omega
            have C1 := Lib.hid (rotate_any g N cap s m e (.func (.func 41) #[] #[]) (P ++ U1) U2 V1 (V2 ++ S) xs (P ++ U1 ++ V1 ++ U2 ++ (V2 ++ S)) wr (by rw [← GX.out]; simp) (by simp) HF.out (by rw [List.length_append, Ha.out]; exact GL.out.1) GL.out.2.1 (by have := GL.out; omega) (by have := GL.out; omega) (by have := GL.out; omega) hN)
            by_cases has : a < s
            · have hasz : (a : Int) < (s : Int) := by omega
              have C2 : Hid (∀ W, FRow W g N (P ++ U1 ++ V1 ++ U2 ++ (V2 ++ S)) → _) := fun W hW => HI.out g N cap a s mid P U1 V1 (U2 ++ (V2 ++ S)) _ (P ++ ssort (U1 ++ V1) ++ (U2 ++ (V2 ++ S))) W (by simp) rfl hW Ha.out GL.out.1 GL.out.2.2.1 GS.out.1 GS.out.2.2.1 (by have := GL.out; omega) (by have := GL.out; omega) hN (by have := GL.out; have := Hd.out; have := Hm.out; have := Hb.out; omega)
              by_cases heb : e < b
              · have hebz : (mid : Int) + (m : Int) - (s : Int) < (b : Int) := by omega
                have C3 : Hid (∀ W, FRow W g N (P ++ ssort (U1 ++ V1) ++ (U2 ++ (V2 ++ S))) → _) := fun W hW => HI.out g N cap mid e b (P ++ ssort (U1 ++ V1)) U2 V2 S _ out W (by simp) (by rw [← GO.out]) hW (by rw [List.length_append, ssort_length, List.length_append, Ha.out]; have := GL.out; omega) (by have := GL.out; omega) GL.out.2.2.2 GS.out.2.1 GS.out.2.2.2 (by have := GL.out; omega) (by have := GL.out; omega) hN (by have := GL.out; have := Hd.out; have := Hm.out; have := Hb.out; omega)
                go_wp2_with fail
                try rw [HE.out]
                refine C1.out.mono ?_; rintro e1 w1 ⟨rfl, h1, h1'⟩
                have H1 := Lib.hid h1
                clear h1
                go_wp2_with fail
                refine (C2.out w1 H1.out).mono ?_; rintro e1 w2 ⟨rfl, h2, h2'⟩
                have H2 := Lib.hid h2
                clear h2
                go_wp2_with fail
                try rw [HE.out]
                refine (C3.out w2 H2.out).mono ?_; rintro e1 w3 ⟨rfl, h3, h3'⟩
                have H3 := Lib.hid h3
                clear h3
                go_wp2_with fail
                go_end0
                exact ⟨rfl, H3.out, ((HO.out.trans_ h1').trans_ h2').trans_ h3'⟩
              · have hebz : ¬ (mid : Int) + (m : Int) - (s : Int) < (b : Int) := by omega
                go_wp2_with fail
                try rw [HE.out]
                refine C1.out.mono ?_; rintro e1 w1 ⟨rfl, h1, h1'⟩
                have H1 := Lib.hid h1
                clear h1
                go_wp2_with fail
                refine (C2.out w1 H1.out).mono ?_; rintro e1 w2 ⟨rfl, h2, h2'⟩
                have H2 := Lib.hid h2
                clear h2
                go_wp2_with fail
                go_end0
                refine ⟨rfl, ?_, (HO.out.trans_ h1').trans_ h2'⟩
                have z : V2 = [] := List.eq_nil_of_length_eq_zero (by have := GL.out; omega)
                have k := H2.out
                rw [← GO.out]
                subst z
                rw [List.append_nil, ssort_id GS.out.2.1]
                simpa using k
            · have hasz : ¬ (a : Int) < (s : Int) := by omega
              have z : U1 = [] := List.eq_nil_of_length_eq_zero (by have := GL.out; omega)
              by_cases heb : e < b
              · have hebz : (mid : Int) + (m : Int) - (s : Int) < (b : Int) := by omega
                have C3 : Hid (∀ W, FRow W g N (P ++ U1 ++ V1 ++ U2 ++ (V2 ++ S)) → _) := fun W hW => HI.out g N cap mid e b (P ++ U1 ++ V1) U2 V2 S _ (P ++ U1 ++ V1 ++ ssort (U2 ++ V2) ++ S) W (by simp) rfl hW (by rw [List.length_append, List.length_append, Ha.out]; have := GL.out; omega) (by have := GL.out; omega) GL.out.2.2.2 GS.out.2.1 GS.out.2.2.2 (by have := GL.out; omega) (by have := GL.out; omega) hN (by have := GL.out; have := Hd.out; have := Hm.out; have := Hb.out; omega)
                go_wp2_with fail
                try rw [HE.out]
                refine C1.out.mono ?_; rintro e1 w1 ⟨rfl, h1, h1'⟩
                have H1 := Lib.hid h1
                clear h1
                go_wp2_with fail
                try rw [HE.out]
                refine (C3.out w1 H1.out).mono ?_; rintro e1 w3 ⟨rfl, h3, h3'⟩
                have H3 := Lib.hid h3
                clear h3
                go_wp2_with fail
                go_end0
                refine ⟨rfl, ?_, (HO.out.trans_ h1').trans_ h3'⟩
                have k := H3.out
                rw [← GO.out]
                subst z
                rw [List.nil_append, ssort_id GS.out.2.2.1]
                simpa using k
              · have hebz : ¬ (mid : Int) + (m : Int) - (s : Int) < (b : Int) := by omega
                go_wp2_with fail
                try rw [HE.out]
                refine C1.out.mono ?_; rintro e1 w1 ⟨rfl, h1, h1'⟩
                have H1 := Lib.hid h1
                clear h1
                go_wp2_with fail
                go_end0
                refine ⟨rfl, ?_, HO.out.trans_ h1'⟩
                have z2 : V2 = [] := List.eq_nil_of_length_eq_zero (by have := GL.out; omega)
                have k := H1.out
                rw [← GO.out]
                subst z z2
                rw [List.nil_append, List.append_nil, ssort_id GS.out.2.2.1, ssort_id GS.out.2.1]
                simpa using k
          · -- nothing of the second list is ahead: s = mid
            have hmez : ¬ (m : Int) < (mid : Int) + (m : Int) - (s : Int) := by omega
            have hmez' : ¬ (s : Int) < (mid : Int) := by omega
            have hez : (mid : Int) < (mid : Int) + (m : Int) - (s : Int) := by omega
            have hebz : (mid : Int) + (m : Int) - (s : Int) < (b : Int) := by omega
            have z : V1 = [] := List.eq_nil_of_length_eq_zero (by have := GL.out; omega)
            have C3 : Hid (∀ W, FRow W g N xs → _) := fun W hW => HI.out g N cap mid e b (P ++ U1) U2 V2 S _ (P ++ U1 ++ ssort (U2 ++ V2) ++ S) W (by rw [← GX.out, z]; simp) rfl hW (by rw [List.length_append, Ha.out]; have := GL.out; omega) (by have := GL.out; omega) GL.out.2.2.2 GS.out.2.1 GS.out.2.2.2 (by have := GL.out; omega) (by have := GL.out; omega) hN (by have := GL.out; have := Hd.out; have := Hm.out; have := Hb.out; omega)
            go_wp2_with fail
            try rw [HE.out]
            refine (C3.out _ HF.out).mono ?_; rintro e1 w3 ⟨rfl, h3, h3'⟩
            have H3 := Lib.hid h3
            clear h3
            go_wp2_with fail
            go_end0
            refine ⟨rfl, ?_, HO.out.trans_ h3'⟩
            have k := H3.out
            rw [← GO.out]
            subst z
            rw [List.append_nil, ssort_id GS.out.1]
            simpa using k
        · -- the whole first list stays: s = m
          have hsmz : ¬ (s : Int) < (m : Int) := by omega
          have hez : ¬ (mid : Int) < (mid : Int) + (m : Int) - (s : Int) := by omega
          have hasz : (a : Int) < (s : Int) := by omega
          have z : U2 = [] := List.eq_nil_of_length_eq_zero (by have := GL.out; omega)
          by_cases hmm : s < mid
          · have hmmz : (s : Int) < (mid : Int) := by omega
            have C2 : Hid (∀ W, FRow W g N xs → _) := fun W hW => HI.out g N cap a s mid P U1 V1 (V2 ++ S) _ (P ++ ssort (U1 ++ V1) ++ (V2 ++ S)) W (by rw [← GX.out, z]; simp) rfl hW Ha.out GL.out.1 GL.out.2.2.1 GS.out.1 GS.out.2.2.1 (by have := GL.out; omega) (by have := GL.out; omega) hN (by have := GL.out; have := Hd.out; have := Hm.out; have := Hb.out; omega)
            go_wp2_with fail
            refine (C2.out _ HF.out).mono ?_; rintro e1 w2 ⟨rfl, h2, h2'⟩
            have H2 := Lib.hid h2
            clear h2
            go_wp2_with fail
            go_end0
            refine ⟨rfl, ?_, HO.out.trans_ h2'⟩
            have k := H2.out
            rw [← GO.out]
            subst z
            rw [List.nil_append, ssort_id GS.out.2.2.2]
            simpa using k
          · have hmmz : ¬ (s : Int) < (mid : Int) := by omega
            go_wp2_with fail
            go_end0
            refine ⟨rfl, ?_, HO.out⟩
            have z2 : V1 = [] := List.eq_nil_of_length_eq_zero (by have := GL.out; omega)
            have k := HF.out
            rw [← GX.out] at k
            rw [← GO.out]
            subst z z2
            rw [List.nil_append, List.append_nil, ssort_id GS.out.1, ssort_id GS.out.2.2.2]
            simpa using k
end Go.Proofs.YtkhoaaoddpjnpaaDoor.Sorts
