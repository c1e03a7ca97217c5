/- The document's example answers true. -/
import Derived.Test.YtannjecmfbhkeaaBox
namespace Go.Proofs.Ytannjecmfbhkeaa
open Go Go.RowKit Go.Lib Go.Maps

set_option maxHeartbeats 1000000 in
theorem clash_calls (w : World) : Calls Try.prog 11 #[] w fun e w' => e = .returned (.bool true) ∧ Below w.heap.size w w' := by
  have K := K9.start w
  go_enter Try.func11, Try.ntmps11
  go_wp2_with fail
  refine (TxNew_L (fun _ => 9) 1 _).mono ?_
  rintro e w1 ⟨o1, pm, bo, bd, rfl, hM, s1⟩
  replace K := K.step s1 (by decide)
  clear s1
  go_wp2_with fail
  refine (HNew_L o1 2 _ pm).mono ?_
  rintro e w2 ⟨o2, ph, rfl, hH, s1⟩
  replace K := K.step s1 (by decide)
  replace hM := hM.keep s1 (by decide)
  clear s1
  go_wp2_with fail
  refine (Begin_L o2 1 _ pm bo bd _ hM).mono ?_
  rintro e w3 ⟨rfl, hM0, s1⟩
  replace K := K.step s1 (by decide)
  replace hH := hH.keep s1 (by decide)
  replace hM := hM0
  clear s1 hM0
  go_wp2_with fail
  refine (Now_L o2 1 3 _ pm bo bd _ hM).mono ?_
  rintro e w4 ⟨o4, a_hv, c_hv, rfl, hv, s1⟩
  replace K := K.step s1 (by decide)
  replace hM := hM.keep s1 (by decide)
  replace hH := hH.keep s1 (by decide)
  clear s1
  go_wp2_with fail
  obtain ⟨o5, w5, vb, hw, hvb, hb, s1⟩ := VBox.new (hv (begN []))
  dsimp only at hw
  rw [hw, hvb]
  clear hw hvb
  replace K := K.step s1 (by decide)
  replace hM := hM.keep s1 (by decide)
  replace hH := hH.keep s1 (by decide)
  clear s1
  go_wp2_with fail
  refine (Begin_L o5 1 _ pm bo bd _ hM).mono ?_
  rintro e w6 ⟨rfl, hM0, s1⟩
  replace K := K.step s1 (by decide)
  replace hH := hH.keep s1 (by decide)
  replace hb := hb.keep s1 (by decide)
  replace hM := hM0
  clear s1 hM0
  go_wp2_with fail
  refine (Now_L o5 1 4 _ pm bo bd _ hM).mono ?_
  rintro e w7 ⟨o7, a_hu, c_hu, rfl, hu, s1⟩
  replace K := K.step s1 (by decide)
  replace hM := hM.keep s1 (by decide)
  replace hH := hH.keep s1 (by decide)
  replace hb := hb.keep s1 (by decide)
  clear s1
  have hb0 := hb.c0
  have hb1 := hb.c1
  have hb2 := hb.c2
  dsimp only at hb0 hb1 hb2
  have hb3 := World.block_lt_of_cell? _ _ hb0
  dsimp only at hb3
  go_wp2_with fail
  clear hb0 hb1 hb2 hb3
  obtain ⟨o8, w8, vc, hw, hvb, hc, s1⟩ := VBox.new (hu (begN (begT [])))
  dsimp only at hw
  rw [hw, hvb]
  clear hw hvb
  replace K := K.step s1 (by decide)
  replace hM := hM.keep s1 (by decide)
  replace hH := hH.keep s1 (by decide)
  replace hb := hb.keep s1 (by decide)
  clear s1
  refine (Insert_L (r := (5, ⟨#[]⟩)) (hM := hM) (hH := hH) (hij := (by decide)) (hv := hb.vw) (ho := by decide) (hr := by decide) (hlim := by decide)).mono ?_
  rintro e w9 ⟨rfl, o9, a_hH, c_hH, hH0, s1⟩
  rw [show insE _ _ _ _ = 0 from by decide]
  replace K := K.step s1 (by decide)
  replace hM := hM.keep s1 (by decide)
  replace hb := hb.keep s1 (by decide)
  replace hc := hc.keep s1 (by decide)
  replace hH := hH0
  clear s1 hH0
  have hc0 := hc.c0
  have hc1 := hc.c1
  have hc2 := hc.c2
  dsimp only at hc0 hc1 hc2
  have hc3 := World.block_lt_of_cell? _ _ hc0
  dsimp only at hc3
  go_wp2_with fail
  clear hc0 hc1 hc2 hc3
  refine (Insert_L (r := (5, ⟨#[]⟩)) (hM := hM) (hH := hH) (hij := (by decide)) (hv := hc.vw) (ho := by decide) (hr := by decide) (hlim := by decide)).mono ?_
  rintro e w10 ⟨rfl, o10, a_hH, c_hH, hH0, s1⟩
  rw [show insE _ _ _ _ = 6 from by decide]
  replace K := K.step s1 (by decide)
  replace hM := hM.keep s1 (by decide)
  replace hb := hb.keep s1 (by decide)
  replace hc := hc.keep s1 (by decide)
  replace hH := hH0
  clear s1 hH0
  have hb0 := hb.c0
  have hb1 := hb.c1
  have hb2 := hb.c2
  dsimp only at hb0 hb1 hb2
  have hb3 := World.block_lt_of_cell? _ _ hb0
  dsimp only at hb3
  go_wp2_with fail
  clear hb0 hb1 hb2 hb3
  refine (Scan_L (q := 5) (hM := hM) (hH := hH) (hij := (by decide)) (hv := hb.vw)).mono ?_
  rintro e w11 ⟨o11, a_hx, c_hx, rfl, hx, s1⟩
  rw [show (scanL _ _ _).length = 1 from (length_sortS _).trans (by decide)]
  replace K := K.step s1 (by decide)
  replace hM := hM.keep s1 (by decide)
  replace hH := hH.keep s1 (by decide)
  replace hb := hb.keep s1 (by decide)
  replace hc := hc.keep s1 (by decide)
  clear s1
  have hc0 := hc.c0
  have hc1 := hc.c1
  have hc2 := hc.c2
  dsimp only at hc0 hc1 hc2
  have hc3 := World.block_lt_of_cell? _ _ hc0
  dsimp only at hc3
  go_wp2_with fail
  clear hc0 hc1 hc2 hc3
  refine (Scan_L (q := 6) (hM := hM) (hH := hH) (hij := (by decide)) (hv := hc.vw)).mono ?_
  rintro e w12 ⟨o12, a_hy, c_hy, rfl, hy, s1⟩
  rw [show (scanL _ _ _).length = 0 from (length_sortS _).trans (by decide)]
  replace K := K.step s1 (by decide)
  replace hM := hM.keep s1 (by decide)
  replace hH := hH.keep s1 (by decide)
  replace hb := hb.keep s1 (by decide)
  replace hc := hc.keep s1 (by decide)
  replace hx := hx.keep s1 (by decide)
  clear s1
  go_wp2_with fail
  go_ret
  exact ⟨rfl, K.bel⟩
end Go.Proofs.Ytannjecmfbhkeaa
