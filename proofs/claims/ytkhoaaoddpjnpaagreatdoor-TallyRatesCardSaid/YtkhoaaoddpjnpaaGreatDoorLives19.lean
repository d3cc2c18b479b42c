/- The law's own first look at layer 19: no deeds, and one: it answers true and changes nothing that was there. -/
import Derived.Test.YtkhoaaoddpjnpaaGreatDoorOf
import Derived.Test.YtkhoaaoddpjnpaaGreatDoorTable
namespace Go.Proofs.YtkhoaaoddpjnpaaGreatDoor.Lives19
open Go Go.RowKit Go.Proofs.YtkhoaaoddpjnpaaGreatDoor Go.Proofs.YtkhoaaoddpjnpaaGreatDoor.Flt Go.Proofs.YtkhoaaoddpjnpaaGreatDoor.Cmp Go.Proofs.YtkhoaaoddpjnpaaGreatDoor.Mem Go.Proofs.YtkhoaaoddpjnpaaGreatDoor.Add Go.Proofs.YtkhoaaoddpjnpaaGreatDoor.Sums Go.Proofs.YtkhoaaoddpjnpaaGreatDoor.Ratio Go.Proofs.YtkhoaaoddpjnpaaGreatDoor.Str Go.Proofs.YtkhoaaoddpjnpaaGreatDoor.Asked Go.Proofs.YtkhoaaoddpjnpaaGreatDoor.Of Go.Proofs.YtkhoaaoddpjnpaaGreatDoor.Table

theorem nan_of_key (r : Nat) (h : key r = -18446744073709551616) : nan r = true := by
  cases hn : nan r
  · unfold key at h
    rw [if_neg (by simp [hn])] at h
    have hr : rung r < 9223372036854775808 := Nat.mod_lt _ (by decide)
    split at h <;> omega
  · rfl
def nanS : ByteArray := ⟨#[110, 97, 110]⟩
theorem show_nan : ShowsAt 28 (-18446744073709551616) nanS := by
  intro r w hk hr
  have hn := Lib.hid (nan_of_key r hk)
  have C := Lib.hid (mnan_any r w)
  rw [hn.out] at C
  clear hk
  unfold nanS
  go_enter Tryz.func28, Tryz.ntmps28
  go_wp2_with fail
  refine C.out.mono ?_; rintro e w' ⟨rfl, rfl⟩
  go_wp2_with fail
  go_ret
  exact ⟨rfl, Below.refl _ _⟩
theorem nought_key : rkey 0 0 = -18446744073709551616 := by decide +kernel
def nansS : ByteArray := ⟨#[110, 97, 110, 32, 110, 97, 110, 32, 110, 97, 110, 32, 110, 97, 110]⟩

theorem table0 (w : World) : Calls Tryz.prog 13 #[.agg #[.int .i64 0, .int .i64 0, .int .i64 0, .int .i64 0, .int .i64 0, .int .i64 0, .int .i64 0, .int .i64 0, .int .i64 0, .int .i64 0, .int .i64 0, .int .i64 0, .int .i64 0, .int .i64 0, .int .i64 0, .int .i64 0, .int .i64 0, .int .i64 0, .int .i64 0, .int .i64 0, .int .i64 0, .int .i64 0, .int .i64 0, .int .i64 0, .int .i64 0, .int .i64 0, .int .i64 0]] w (TableSays w [nansS]) := by
  have h := table_any (List.replicate 27 0) rfl nanS nanS nanS nanS (by decide) (by decide) (by decide) (by decide) (by rw [show (List.replicate 27 (0 : Int)).getD 1 0 = 0 from rfl, show (List.replicate 27 (0 : Int)).getD 0 0 = 0 from rfl, nought_key]; exact show_nan)
    (by rw [show (List.replicate 27 (0 : Int)).getD 2 0 = 0 from rfl, show (List.replicate 27 (0 : Int)).getD 0 0 = 0 from rfl, nought_key]; exact show_nan)
    (by rw [show (List.replicate 27 (0 : Int)).getD 3 0 = 0 from rfl, show (List.replicate 27 (0 : Int)).getD 0 0 = 0 from rfl, nought_key]; exact show_nan)
    (by rw [show (List.replicate 27 (0 : Int)).getD 4 0 = 0 from rfl, show (List.replicate 27 (0 : Int)).getD 8 0 = 0 from rfl, nought_key]; exact show_nan) w
    (fun y hy h0 => by
      obtain rfl : y = 0 := List.eq_of_mem_replicate (List.mem_of_mem_drop hy)
      cases h0)
  have e : rowsF ((List.replicate 27 (0 : Int)).drop 6) 21 ++ [rateLine nanS nanS nanS nanS] = [nansS] := by decide +kernel
  rw [e] at h
  exact h

def deed1 : List Value := [.int .i64 0, .int .i64 4, .string ⟨#[]⟩, .string ⟨#[]⟩, .string ⟨#[]⟩, .int .i64 0, .int .i64 0, .int .i64 0, .slice none 0 0, .int .i64 0]
theorem deed1_is : Deed deed1 := ⟨rfl, by intro v hv; simp [deed1] at hv; rcases hv with rfl | rfl | rfl | rfl | rfl | rfl | rfl | rfl | rfl | rfl <;> rfl, rfl, rfl⟩

theorem of1 (w : World) : Calls Tryz.prog 14 #[.slice (some ⟨w.heap.size, 0, none⟩) 1 1, .slice (some ⟨w.heap.size + 1, 0, none⟩) 1 1] ((w.alloc (.cells #[.int .i64 0, .int .i64 4, .string ⟨#[]⟩, .string ⟨#[]⟩, .string ⟨#[]⟩, .int .i64 0, .int .i64 0, .int .i64 0, .slice none 0 0, .int .i64 0] 53)).alloc (.cells #[.int .i64 0, .int .i64 0, .string ⟨#[]⟩, .int .i64 0, .int .i64 0, .int .i64 0, .int .i64 0, .slice none 0 0] 60))
    fun e w' => e = .returned (.agg #[.int .i64 1, .int .i64 1, .int .i64 0, .int .i64 0, .int .i64 0, .int .i64 0, .int .i64 0, .int .i64 0, .int .i64 0, .int .i64 0, .int .i64 1, .int .i64 0, .int .i64 0, .int .i64 0, .int .i64 0, .int .i64 0, .int .i64 0, .int .i64 0, .int .i64 0, .int .i64 0, .int .i64 0, .int .i64 0, .int .i64 0, .int .i64 0, .int .i64 0, .int .i64 0, .int .i64 0]) ∧ Below ((w.alloc (.cells #[.int .i64 0, .int .i64 4, .string ⟨#[]⟩, .string ⟨#[]⟩, .string ⟨#[]⟩, .int .i64 0, .int .i64 0, .int .i64 0, .slice none 0 0, .int .i64 0] 53)).alloc (.cells #[.int .i64 0, .int .i64 0, .string ⟨#[]⟩, .int .i64 0, .int .i64 0, .int .i64 0, .int .i64 0, .slice none 0 0] 60)).heap.size ((w.alloc (.cells #[.int .i64 0, .int .i64 4, .string ⟨#[]⟩, .string ⟨#[]⟩, .string ⟨#[]⟩, .int .i64 0, .int .i64 0, .int .i64 0, .slice none 0 0, .int .i64 0] 53)).alloc (.cells #[.int .i64 0, .int .i64 0, .string ⟨#[]⟩, .int .i64 0, .int .i64 0, .int .i64 0, .int .i64 0, .slice none 0 0] 60)) w' := by
  have h1 : ((w.alloc (.cells #[.int .i64 0, .int .i64 4, .string ⟨#[]⟩, .string ⟨#[]⟩, .string ⟨#[]⟩, .int .i64 0, .int .i64 0, .int .i64 0, .slice none 0 0, .int .i64 0] 53)).alloc (.cells #[.int .i64 0, .int .i64 0, .string ⟨#[]⟩, .int .i64 0, .int .i64 0, .int .i64 0, .int .i64 0, .slice none 0 0] 60)).heap[w.heap.size]? = some (.cells #[.int .i64 0, .int .i64 4, .string ⟨#[]⟩, .string ⟨#[]⟩, .string ⟨#[]⟩, .int .i64 0, .int .i64 0, .int .i64 0, .slice none 0 0, .int .i64 0] 53 (0, 0)) :=
    (Below.heap_alloc (w.alloc (.cells #[.int .i64 0, .int .i64 4, .string ⟨#[]⟩, .string ⟨#[]⟩, .string ⟨#[]⟩, .int .i64 0, .int .i64 0, .int .i64 0, .slice none 0 0, .int .i64 0] 53)) _ w.heap.size (by simp)).trans (heap_alloc_new w _)
  have h2 : ((w.alloc (.cells #[.int .i64 0, .int .i64 4, .string ⟨#[]⟩, .string ⟨#[]⟩, .string ⟨#[]⟩, .int .i64 0, .int .i64 0, .int .i64 0, .slice none 0 0, .int .i64 0] 53)).alloc (.cells #[.int .i64 0, .int .i64 0, .string ⟨#[]⟩, .int .i64 0, .int .i64 0, .int .i64 0, .int .i64 0, .slice none 0 0] 60)).heap[w.heap.size + 1]? = some (.cells #[.int .i64 0, .int .i64 0, .string ⟨#[]⟩, .int .i64 0, .int .i64 0, .int .i64 0, .int .i64 0, .slice none 0 0] 60 (0, 0)) := heap_alloc2_new w _ _
  have hz : ((w.alloc (.cells #[.int .i64 0, .int .i64 4, .string ⟨#[]⟩, .string ⟨#[]⟩, .string ⟨#[]⟩, .int .i64 0, .int .i64 0, .int .i64 0, .slice none 0 0, .int .i64 0] 53)).alloc (.cells #[.int .i64 0, .int .i64 0, .string ⟨#[]⟩, .int .i64 0, .int .i64 0, .int .i64 0, .int .i64 0, .slice none 0 0] 60)).heap.size = w.heap.size + 2 := by simp
  generalize (w.alloc (.cells #[.int .i64 0, .int .i64 4, .string ⟨#[]⟩, .string ⟨#[]⟩, .string ⟨#[]⟩, .int .i64 0, .int .i64 0, .int .i64 0, .slice none 0 0, .int .i64 0] 53)).alloc (.cells #[.int .i64 0, .int .i64 0, .string ⟨#[]⟩, .int .i64 0, .int .i64 0, .int .i64 0, .int .i64 0, .slice none 0 0] 60) = W at *
  have e : sumV (ofL (deeds [deed1] [0])) = .agg #[.int .i64 1, .int .i64 1, .int .i64 0, .int .i64 0, .int .i64 0, .int .i64 0, .int .i64 0, .int .i64 0, .int .i64 0, .int .i64 0, .int .i64 1, .int .i64 0, .int .i64 0, .int .i64 0, .int .i64 0, .int .i64 0, .int .i64 0, .int .i64 0, .int .i64 0, .int .i64 0, .int .i64 0, .int .i64 0, .int .i64 0, .int .i64 0, .int .i64 0, .int .i64 0, .int .i64 0] := by
    have e0 : ofL (deeds [deed1] [0]) = [1, 1, 0, 0, 0, 0, 0, 0, 0, 0, 1, 0, 0, 0, 0, 0, 0, 0, 0, 0, 0, 0, 0, 0, 0, 0, 0] := by decide +kernel
    rw [e0]; rfl
  have hDS : DS W W.heap.size (some ⟨w.heap.size, 0, none⟩) [deed1] := by
    refine ⟨fun d hd => ?_, fun _ => ⟨w.heap.size, 0, rfl, by omega, fun j d hj => ?_⟩⟩
    · have hd' : d = deed1 := by simpa using hd
      rw [hd']; exact deed1_is
    · cases j with
      | zero =>
        cases hj
        intro k v hv
        rw [cell_of_row W w.heap.size _ _ _ _ h1]
        simpa [deed1] using hv
      | succ j => simp at hj
  have hTS : TS W W.heap.size (some ⟨w.heap.size + 1, 0, none⟩) [0] := by
    refine fun _ => ⟨w.heap.size + 1, 0, rfl, by omega, fun j d hj => ?_⟩
    cases j with
    | zero =>
      cases hj
      rw [cell_of_row W (w.heap.size + 1) _ _ _ _ h2]; rfl
    | succ j => simp at hj
  have h := of_any (some ⟨w.heap.size, 0, none⟩) (some ⟨w.heap.size + 1, 0, none⟩) 1 1 1 1 [deed1] [0] W rfl rfl hDS hTS (Nat.le_refl _) (by omega) (Nat.le_refl _) (by omega)
  refine h.mono fun e' w' ⟨he, hb⟩ => ⟨by rw [he, e], hb⟩

theorem two_below (w : World) (a b : Obj) : Below w.heap.size w ((w.alloc a).alloc b) := ((Below.refl _ _).alloc (Nat.le_refl _) a).alloc (by simp) b
theorem two_size (w : World) (a b : Obj) : ((w.alloc a).alloc b).heap.size = w.heap.size + 2 := by simp
set_option maxRecDepth 100000 in
set_option maxHeartbeats 1000000 in
theorem lives_any (w : World) : Calls Tryz.prog 4 #[] w fun e w' => e = .returned (.bool true) ∧ Below w.heap.size w w' := by
  go_enter Tryz.func4, Tryz.ntmps4
  go_wp2_with fail
  refine (table0 _).mono ?_; rintro e w1 ⟨v, rfl, hs, hb⟩
  obtain ⟨g, cap, rfl, hcap, _, hBg, hg, hcell⟩ := hs.reads (by simp)
  have hc := hcell 0 nansS rfl
  have Hc := Lib.hid hc
  have HB := Lib.hid hb
  have HG := Lib.hid hg
  clear hcell hs hb hg hc hcap hBg
  go_wp2_with fail
  have hbn := two_below w1 (.cells #[.int .i64 0, .int .i64 4, .string ⟨#[]⟩, .string ⟨#[]⟩, .string ⟨#[]⟩, .int .i64 0, .int .i64 0, .int .i64 0, .slice none 0 0, .int .i64 0] 53) (.cells #[.int .i64 0, .int .i64 0, .string ⟨#[]⟩, .int .i64 0, .int .i64 0, .int .i64 0, .int .i64 0, .slice none 0 0] 60)
  have hzn := two_size w1 (.cells #[.int .i64 0, .int .i64 4, .string ⟨#[]⟩, .string ⟨#[]⟩, .string ⟨#[]⟩, .int .i64 0, .int .i64 0, .int .i64 0, .slice none 0 0, .int .i64 0] 53) (.cells #[.int .i64 0, .int .i64 0, .string ⟨#[]⟩, .int .i64 0, .int .i64 0, .int .i64 0, .int .i64 0, .slice none 0 0] 60)
  have OF := Lib.hid (of1 w1)
  generalize (w1.alloc (.cells #[.int .i64 0, .int .i64 4, .string ⟨#[]⟩, .string ⟨#[]⟩, .string ⟨#[]⟩, .int .i64 0, .int .i64 0, .int .i64 0, .slice none 0 0, .int .i64 0] 53)).alloc (.cells #[.int .i64 0, .int .i64 0, .string ⟨#[]⟩, .int .i64 0, .int .i64 0, .int .i64 0, .int .i64 0, .slice none 0 0] 60) = W2 at *
  have HB1 := Lib.hid (HB.out.trans (hbn.mono HB.out.size))
  have HC1 := Lib.hid ((hbn.cell (p := ⟨g, 0 + 0, none⟩) HG.out).trans Hc.out)
  have HG1 := Lib.hid (show g < W2.heap.size by have := HG.out; omega)
  clear hbn hzn
  refine OF.out.mono ?_; rintro e w3 ⟨rfl, hb3⟩
  have HB3 := Lib.hid (HB1.out.trans (hb3.mono HB1.out.size))
  have hc3 : w3.cell? ⟨g, 0, none⟩ = some (.string ⟨#[110, 97, 110, 32, 110, 97, 110, 32, 110, 97, 110, 32, 110, 97, 110]⟩) := (hb3.cell (p := ⟨g, 0, none⟩) HG1.out).trans HC1.out
  have HG3 := Lib.hid (Nat.lt_of_lt_of_le HG1.out hb3.size)
  clear hb3
  have HTh := Lib.hid (there_new w3 #[.int .i64 0, .int .i64 0, .int .i64 0, .int .i64 0, .int .i64 0, .int .i64 0, .int .i64 0, .int .i64 0, .int .i64 0, .int .i64 0, .int .i64 0, .int .i64 0, .int .i64 0, .int .i64 0, .int .i64 0, .int .i64 0, .int .i64 0, .int .i64 0, .int .i64 0, .int .i64 0, .int .i64 0, .int .i64 0, .int .i64 0, .int .i64 0, .int .i64 0, .int .i64 0, .int .i64 0] 28 27 rfl)
  go_upto_region 3 with (refine wpList_store_mid rfl 28 (.tmp 2) (.tmp 10) rfl w3.heap.size 0 #[.int .i64 1, .int .i64 1, .int .i64 0, .int .i64 0, .int .i64 0, .int .i64 0, .int .i64 0, .int .i64 0, .int .i64 0, .int .i64 0, .int .i64 1, .int .i64 0, .int .i64 0, .int .i64 0, .int .i64 0, .int .i64 0, .int .i64 0, .int .i64 0, .int .i64 0, .int .i64 0, .int .i64 0, .int .i64 0, .int .i64 0, .int .i64 0, .int .i64 0, .int .i64 0, .int .i64 0] ?_ ?_ ?_ ?_ ?_ ?_; (focus rfl); (focus simp [Act.eval]); (focus exact HTh.out); (focus exact info_sum); (focus exact all_oneCell_toArray (by simp [Value.oneCell'])))
  have HR := Lib.hid (World.rangeAt_setCells_same (w3.alloc (.cells #[.int .i64 0, .int .i64 0, .int .i64 0, .int .i64 0, .int .i64 0, .int .i64 0, .int .i64 0, .int .i64 0, .int .i64 0, .int .i64 0, .int .i64 0, .int .i64 0, .int .i64 0, .int .i64 0, .int .i64 0, .int .i64 0, .int .i64 0, .int .i64 0, .int .i64 0, .int .i64 0, .int .i64 0, .int .i64 0, .int .i64 0, .int .i64 0, .int .i64 0, .int .i64 0, .int .i64 0] 28)) w3.heap.size 0 [.int .i64 1, .int .i64 1, .int .i64 0, .int .i64 0, .int .i64 0, .int .i64 0, .int .i64 0, .int .i64 0, .int .i64 0, .int .i64 0, .int .i64 1, .int .i64 0, .int .i64 0, .int .i64 0, .int .i64 0, .int .i64 0, .int .i64 0, .int .i64 0, .int .i64 0, .int .i64 0, .int .i64 0, .int .i64 0, .int .i64 0, .int .i64 0, .int .i64 0, .int .i64 0, .int .i64 0] HTh.out)
  have HB4 := Lib.hid (below_setCells w3.heap.size (Nat.le_refl w3.heap.size) [.int .i64 1, .int .i64 1, .int .i64 0, .int .i64 0, .int .i64 0, .int .i64 0, .int .i64 0, .int .i64 0, .int .i64 0, .int .i64 0, .int .i64 1, .int .i64 0, .int .i64 0, .int .i64 0, .int .i64 0, .int .i64 0, .int .i64 0, .int .i64 0, .int .i64 0, .int .i64 0, .int .i64 0, .int .i64 0, .int .i64 0, .int .i64 0, .int .i64 0, .int .i64 0, .int .i64 0] 0 _ ((Below.refl w3.heap.size w3).alloc (Nat.le_refl _) (.cells #[.int .i64 0, .int .i64 0, .int .i64 0, .int .i64 0, .int .i64 0, .int .i64 0, .int .i64 0, .int .i64 0, .int .i64 0, .int .i64 0, .int .i64 0, .int .i64 0, .int .i64 0, .int .i64 0, .int .i64 0, .int .i64 0, .int .i64 0, .int .i64 0, .int .i64 0, .int .i64 0, .int .i64 0, .int .i64 0, .int .i64 0, .int .i64 0, .int .i64 0, .int .i64 0, .int .i64 0] 28)))
  generalize (w3.alloc (.cells #[.int .i64 0, .int .i64 0, .int .i64 0, .int .i64 0, .int .i64 0, .int .i64 0, .int .i64 0, .int .i64 0, .int .i64 0, .int .i64 0, .int .i64 0, .int .i64 0, .int .i64 0, .int .i64 0, .int .i64 0, .int .i64 0, .int .i64 0, .int .i64 0, .int .i64 0, .int .i64 0, .int .i64 0, .int .i64 0, .int .i64 0, .int .i64 0, .int .i64 0, .int .i64 0, .int .i64 0] 28)).setCells w3.heap.size 0 [.int .i64 1, .int .i64 1, .int .i64 0, .int .i64 0, .int .i64 0, .int .i64 0, .int .i64 0, .int .i64 0, .int .i64 0, .int .i64 0, .int .i64 1, .int .i64 0, .int .i64 0, .int .i64 0, .int .i64 0, .int .i64 0, .int .i64 0, .int .i64 0, .int .i64 0, .int .i64 0, .int .i64 0, .int .i64 0, .int .i64 0, .int .i64 0, .int .i64 0, .int .i64 0, .int .i64 0] = W4 at *
  have a0 := HR.out 0 _ rfl
  have a1 := HR.out 1 _ rfl
  have a10 := HR.out 10 _ rfl
  have hc4 := (HB4.out.cell (p := ⟨g, 0, none⟩) HG3.out).trans hc3
  have HBE := Lib.hid (HB3.out.trans (HB4.out.mono HB3.out.size))
  clear hc3
  simp only [Nat.zero_add] at a0 a1 a10
  trace_state
  go_wp2_with fail
  go_ret
  exact ⟨rfl, HBE.out⟩
end Go.Proofs.YtkhoaaoddpjnpaaGreatDoor.Lives19
