/- HeapFirst: of two that write one row the second one is told so. -/
import Derived.Test.YtannjecmfbhkeaaU8
namespace Go.Proofs.Ytannjecmfbhkeaa
open Go Go.RowKit Go.Lib Go.Maps

set_option maxHeartbeats 8000000 in
set_option maxRecDepth 100000 in
theorem HeapFirst_walk (key how what fin : Int) (w : World) (wk : wfI key) (h0 : 0 ≤ how) (h1 : how < 256) (g0 : 0 ≤ what) (g1 : what < 256) (f0 : 0 ≤ fin) (f1 : fin < 256) :
    Calls Try.prog 6 #[.int .i64 key, .int .u8 how, .int .u8 what, .int .u8 fin] w fun e w' => e = .returned (.bool true) ∧ Below w.heap.size w w' := by
  have K0 := K9.start w
  have WK := Lib.hid wk
  clear wk
  go_enter Try.func6, Try.ntmps6
  go_wp2_with fail
  refine (clash_calls _).mono ?_
  rintro e w0 ⟨rfl, hb⟩
  have K := K0.step (Below.stp hb 0 _ 9) (by decide)
  clear K0 hb
  go_wp2_with fail
  refine (TxNew_L (lab (fun _ => 9) w.heap.size 9) 1 _).mono ?_
  rintro e w1 ⟨o1, pm, bo, bd, rfl, hM, s1⟩
  replace K := K.step s1 (by decide)
  clear s1
  go_wp2_with fail
  refine (HNew_L o1 2 _ pm).mono ?_
  rintro e w2 ⟨o2, ph, rfl, hH, s1⟩
  replace K := K.step s1 (by decide)
  replace hM := hM.keep s1 (by decide)
  clear s1
  go_wp2_with fail
  refine (Begin_L o2 1 _ pm bo bd _ hM).mono ?_
  rintro e w3 ⟨he, hM0, s1⟩
  obtain rfl : e = .returned (.tuple #[.int .i64 1, .int .i64 0]) := he
  replace K := K.step s1 (by decide)
  replace hH := hH.keep s1 (by decide)
  replace hM : MgrL o2 1 w3 pm bo bd [1] := hM0
  clear s1 hM0
  go_wp2_with fail
  refine (Now_L o2 1 3 _ pm bo bd _ hM).mono ?_
  rintro e w4 ⟨o4, a_hu, c_hu, he, hv0, s1⟩
  obtain rfl : e = .returned (.agg #[.int .i64 2, .slice a_hu 1 c_hu]) := he
  replace K := K.step s1 (by decide)
  replace hM := hM.keep s1 (by decide)
  replace hH := hH.keep s1 (by decide)
  have hu : ViewL o4 3 w4 ⟨2, [1], 1⟩ a_hu c_hu := hv0 1
  clear s1 hv0
  go_wp2_with fail
  refine (Insert_L (r := (key, ⟨#[97]⟩)) (hM := hM) (hH := hH) (hij := by decide) (hv := hu) (ho := by decide) (hr := WK.out) (hlim := by decide)).mono ?_
  rintro e w5 ⟨rfl, o5, a_hH, c_hH, hH0, s1⟩
  rw [show insE _ _ _ _ = 0 from by simp [insE, findI, idxI, othersB, blocksB, stOf]]
  rw [show insV _ _ _ _ = [⟨key, ⟨#[97]⟩, 1, 0⟩] from by simp [insE, insV, findI, idxI, othersB, blocksB, stOf]] at hH0
  replace K := K.step s1 (by decide)
  replace hM := hM.keep s1 (by decide)
  replace hu := hu.keep s1 (by decide)
  replace hH := hH0
  clear s1 hH0
  go_wp2_with fail
  refine (Commit_L o5 1 _ pm bo bd _ (1) hM (by decide)).mono ?_
  rintro e w6 ⟨he, hM0, s1⟩
  obtain rfl : e = .returned (.int .i64 0) := he
  replace K := K.step s1 (by decide)
  replace hH := hH.keep s1 (by decide)
  replace hu := hu.keep s1 (by decide)
  replace hM : MgrL o5 1 w6 pm bo bd [2] := hM0
  clear s1 hM0
  go_wp2_with fail
  refine (Begin_L o5 1 _ pm bo bd _ hM).mono ?_
  rintro e w7 ⟨he, hM0, s1⟩
  obtain rfl : e = .returned (.tuple #[.int .i64 2, .int .i64 0]) := he
  replace K := K.step s1 (by decide)
  replace hH := hH.keep s1 (by decide)
  replace hu := hu.keep s1 (by decide)
  replace hM : MgrL o5 1 w7 pm bo bd [2, 1] := hM0
  clear s1 hM0
  go_wp2_with fail
  refine (Now_L o5 1 4 _ pm bo bd _ hM).mono ?_
  rintro e w8 ⟨o8, a_hv, c_hv, he, hv0, s1⟩
  obtain rfl : e = .returned (.agg #[.int .i64 3, .slice a_hv 1 c_hv]) := he
  replace K := K.step s1 (by decide)
  replace hM := hM.keep s1 (by decide)
  replace hH := hH.keep s1 (by decide)
  replace hu := hu.keep s1 (by decide)
  have hv : ViewL o8 4 w8 ⟨3, [2], 2⟩ a_hv c_hv := hv0 2
  clear s1 hv0
  go_wp2_with fail
  obtain ⟨o9, w9, vb, hw, hvb, hb, s1⟩ := VBox.new hv
  dsimp only [List.length] at hw
  rw [hw, hvb]
  clear hw hvb
  replace K := K.step s1 (by decide)
  replace hM := hM.keep s1 (by decide)
  replace hH := hH.keep s1 (by decide)
  replace hu := hu.keep s1 (by decide)
  replace hv := hv.keep s1 (by decide)
  clear s1
  refine (Begin_L o9 1 _ pm bo bd _ hM).mono ?_
  rintro e w10 ⟨he, hM0, s1⟩
  obtain rfl : e = .returned (.tuple #[.int .i64 3, .int .i64 0]) := he
  replace K := K.step s1 (by decide)
  replace hH := hH.keep s1 (by decide)
  replace hu := hu.keep s1 (by decide)
  replace hv := hv.keep s1 (by decide)
  replace hb := hb.keep s1 (by decide)
  replace hM : MgrL o9 1 w10 pm bo bd [2, 1, 1] := hM0
  clear s1 hM0
  have hb0 := hb.c0
  have hb1 := hb.c1
  have hb2 := hb.c2
  dsimp only at hb0 hb1 hb2
  have hb3 := World.block_lt_of_cell? _ _ hb0
  dsimp only at hb3
  go_wp2_with fail
  clear hb0 hb1 hb2 hb3
  refine (Now_L o9 1 5 _ pm bo bd _ hM).mono ?_
  rintro e w11 ⟨o11, a_hw, c_hw, he, hv0, s1⟩
  obtain rfl : e = .returned (.agg #[.int .i64 4, .slice a_hw 2 c_hw]) := he
  replace K := K.step s1 (by decide)
  replace hM := hM.keep s1 (by decide)
  replace hH := hH.keep s1 (by decide)
  replace hu := hu.keep s1 (by decide)
  replace hv := hv.keep s1 (by decide)
  replace hb := hb.keep s1 (by decide)
  have hw : ViewL o11 5 w11 ⟨4, [2, 3], 3⟩ a_hw c_hw := hv0 3
  clear s1 hv0
  have hb0 := hb.c0
  have hb1 := hb.c1
  have hb2 := hb.c2
  dsimp only at hb0 hb1 hb2
  have hb3 := World.block_lt_of_cell? _ _ hb0
  dsimp only at hb3
  go_wp2_with fail
  · skip
    clear hb0 hb1 hb2 hb3
    obtain ⟨o12, w12, vc, hw, hvb, hc, s1⟩ := VBox.new hw
    dsimp only [List.length] at hw
    rw [hw, hvb]
    clear hw hvb
    replace K := K.step s1 (by decide)
    replace hM := hM.keep s1 (by decide)
    replace hH := hH.keep s1 (by decide)
    replace hu := hu.keep s1 (by decide)
    replace hv := hv.keep s1 (by decide)
    replace hb := hb.keep s1 (by decide)
    replace hw := hw.keep s1 (by decide)
    clear s1
    refine (Update_L (r := (key, ⟨#[98]⟩)) (hM := hM) (hH := hH) (hij := by decide) (hv := hb.vw) (ho := by decide) (hr := WK.out) (hlim := by simp)).mono ?_
    rintro e w13 ⟨rfl, o13, a_hH, c_hH, hH0, s1⟩
    rw [show killE _ _ _ _ = 0 from by simp [killE, findI, idxI, visB, didB, seesB, othersB, stOf]]
    rw [show updV _ _ _ _ = [⟨key, ⟨#[97]⟩, 1, 2⟩, ⟨key, ⟨#[98]⟩, 2, 0⟩] from by simp [killE, killV, updV, setD, findI, idxI, visB, didB, seesB, othersB, stOf, List.modify_zero_cons]] at hH0
    replace K := K.step s1 (by decide)
    replace hM := hM.keep s1 (by decide)
    replace hu := hu.keep s1 (by decide)
    replace hv := hv.keep s1 (by decide)
    replace hb := hb.keep s1 (by decide)
    replace hw := hw.keep s1 (by decide)
    replace hc := hc.keep s1 (by decide)
    replace hH := hH0
    clear s1 hH0
    have hb0 := hb.c0
    have hb1 := hb.c1
    have hb2 := hb.c2
    dsimp only at hb0 hb1 hb2
    have hb3 := World.block_lt_of_cell? _ _ hb0
    dsimp only at hb3
    have hc0 := hc.c0
    have hc1 := hc.c1
    have hc2 := hc.c2
    dsimp only at hc0 hc1 hc2
    have hc3 := World.block_lt_of_cell? _ _ hc0
    dsimp only at hc3
    go_wp2_with fail
    clear hb0 hb1 hb2 hb3
    clear hc0 hc1 hc2 hc3
    · skip
      refine (Commit_L o13 1 _ pm bo bd _ (2) hM (by decide)).mono ?_
      rintro e w14 ⟨he, hM0, s1⟩
      obtain rfl : e = .returned (.int .i64 0) := he
      replace K := K.step s1 (by decide)
      replace hH := hH.keep s1 (by decide)
      replace hu := hu.keep s1 (by decide)
      replace hv := hv.keep s1 (by decide)
      replace hb := hb.keep s1 (by decide)
      replace hw := hw.keep s1 (by decide)
      replace hc := hc.keep s1 (by decide)
      replace hM : MgrL o13 1 w14 pm bo bd [2, 2, 1] := hM0
      clear s1 hM0
      have hb0 := hb.c0
      have hb1 := hb.c1
      have hb2 := hb.c2
      dsimp only at hb0 hb1 hb2
      have hb3 := World.block_lt_of_cell? _ _ hb0
      dsimp only at hb3
      have hc0 := hc.c0
      have hc1 := hc.c1
      have hc2 := hc.c2
      dsimp only at hc0 hc1 hc2
      have hc3 := World.block_lt_of_cell? _ _ hc0
      dsimp only at hc3
      go_wp2_with fail
      clear hb0 hb1 hb2 hb3
      clear hc0 hc1 hc2 hc3
      · skip
        refine (Update_L (r := (key, ⟨#[99]⟩)) (hM := hM) (hH := hH) (hij := by decide) (hv := hc.vw) (ho := by decide) (hr := WK.out) (hlim := by simp)).mono ?_
        rintro e w15 ⟨rfl, o15, a_hH, c_hH, hH0, s1⟩
        rw [show killE _ _ _ _ = 6 from by simp [killE, findI, idxI, visB, didB, seesB, othersB, stOf]]
        rw [show updV _ _ _ _ = [⟨key, ⟨#[97]⟩, 1, 2⟩, ⟨key, ⟨#[98]⟩, 2, 0⟩] from by simp [killE, updV, findI, idxI, visB, didB, seesB, othersB, stOf]] at hH0
        replace K := K.step s1 (by decide)
        replace hM := hM.keep s1 (by decide)
        replace hu := hu.keep s1 (by decide)
        replace hv := hv.keep s1 (by decide)
        replace hb := hb.keep s1 (by decide)
        replace hw := hw.keep s1 (by decide)
        replace hc := hc.keep s1 (by decide)
        replace hH := hH0
        clear s1 hH0
        have hb0 := hb.c0
        have hb1 := hb.c1
        have hb2 := hb.c2
        dsimp only at hb0 hb1 hb2
        have hb3 := World.block_lt_of_cell? _ _ hb0
        dsimp only at hb3
        have hc0 := hc.c0
        have hc1 := hc.c1
        have hc2 := hc.c2
        dsimp only at hc0 hc1 hc2
        have hc3 := World.block_lt_of_cell? _ _ hc0
        dsimp only at hc3
        go_wp2_with fail
        clear hb0 hb1 hb2 hb3
        clear hc0 hc1 hc2 hc3
        refine (HGet_L (key := key) (hM := hM) (hH := hH) (hij := by decide) (hv := hc.vw)).mono ?_
        rintro e w16 ⟨rfl, o16, s1⟩
        rw [show getR _ _ _ _ = some (key, ⟨#[97]⟩) from by simp [visB, didB, seesB, stOf, getR, Vr.row]]
        replace K := K.step s1 (by decide)
        clear s1
        dsimp only [getV, encR]
        go_wp2
        go_ret
        exact ⟨rfl, K.bel.alloc K.bel.size _⟩
      · skip
        refine (Delete_L (key := key) (hM := hM) (hH := hH) (hij := by decide) (hv := hc.vw) (ho := by decide)).mono ?_
        rintro e w15 ⟨rfl, o15, a_hH, c_hH, hH0, s1⟩
        rw [show killE _ _ _ _ = 6 from by simp [killE, findI, idxI, visB, didB, seesB, othersB, stOf]]
        rw [show killV _ _ _ _ = [⟨key, ⟨#[97]⟩, 1, 2⟩, ⟨key, ⟨#[98]⟩, 2, 0⟩] from by simp [killE, killV, findI, idxI, visB, didB, seesB, othersB, stOf]] at hH0
        replace K := K.step s1 (by decide)
        replace hM := hM.keep s1 (by decide)
        replace hu := hu.keep s1 (by decide)
        replace hv := hv.keep s1 (by decide)
        replace hb := hb.keep s1 (by decide)
        replace hw := hw.keep s1 (by decide)
        replace hc := hc.keep s1 (by decide)
        replace hH := hH0
        clear s1 hH0
        have hb0 := hb.c0
        have hb1 := hb.c1
        have hb2 := hb.c2
        dsimp only at hb0 hb1 hb2
        have hb3 := World.block_lt_of_cell? _ _ hb0
        dsimp only at hb3
        have hc0 := hc.c0
        have hc1 := hc.c1
        have hc2 := hc.c2
        dsimp only at hc0 hc1 hc2
        have hc3 := World.block_lt_of_cell? _ _ hc0
        dsimp only at hc3
        go_wp2_with fail
        clear hb0 hb1 hb2 hb3
        clear hc0 hc1 hc2 hc3
        refine (HGet_L (key := key) (hM := hM) (hH := hH) (hij := by decide) (hv := hc.vw)).mono ?_
        rintro e w16 ⟨rfl, o16, s1⟩
        rw [show getR _ _ _ _ = some (key, ⟨#[97]⟩) from by simp [visB, didB, seesB, stOf, getR, Vr.row]]
        replace K := K.step s1 (by decide)
        clear s1
        dsimp only [getV, encR]
        go_wp2
        go_ret
        exact ⟨rfl, K.bel.alloc K.bel.size _⟩
      · skip
        refine (Truncate_L (q := 6) (hM := hM) (hH := hH) (hij := by decide) (hkj := by decide) (hv := hc.vw) (ho := by decide)).mono ?_
        rintro e w15 ⟨o15, ar, cr, a_hH, c_hH, rfl, hR, hH0, s1⟩
        rw [show truncE _ _ _ = 6 from by simp [truncE, visB, didB, seesB, othersB, stOf]]
        have TV : truncV [2, 2, 1] ⟨4, [2, 3], 3⟩ ([⟨key, ⟨#[97]⟩, 1, 2⟩, ⟨key, ⟨#[98]⟩, 2, 0⟩]) = [⟨key, ⟨#[97]⟩, 1, 2⟩, ⟨key, ⟨#[98]⟩, 2, 0⟩] := by
          unfold truncV truncL
          rw [if_neg (by simp [truncE, visB, didB, seesB, othersB, stOf])]
          rfl
        rw [TV] at hH0
        replace K := K.step s1 (by decide)
        replace hM := hM.keep s1 (by decide)
        replace hu := hu.keep s1 (by decide)
        replace hv := hv.keep s1 (by decide)
        replace hb := hb.keep s1 (by decide)
        replace hw := hw.keep s1 (by decide)
        replace hc := hc.keep s1 (by decide)
        replace hH := hH0
        clear s1 hH0 hR TV
        have hb0 := hb.c0
        have hb1 := hb.c1
        have hb2 := hb.c2
        dsimp only at hb0 hb1 hb2
        have hb3 := World.block_lt_of_cell? _ _ hb0
        dsimp only at hb3
        have hc0 := hc.c0
        have hc1 := hc.c1
        have hc2 := hc.c2
        dsimp only at hc0 hc1 hc2
        have hc3 := World.block_lt_of_cell? _ _ hc0
        dsimp only at hc3
        go_wp2_with fail
        clear hb0 hb1 hb2 hb3
        clear hc0 hc1 hc2 hc3
        refine (HGet_L (key := key) (hM := hM) (hH := hH) (hij := by decide) (hv := hc.vw)).mono ?_
        rintro e w16 ⟨rfl, o16, s1⟩
        rw [show getR _ _ _ _ = some (key, ⟨#[97]⟩) from by simp [visB, didB, seesB, stOf, getR, Vr.row]]
        replace K := K.step s1 (by decide)
        clear s1
        dsimp only [getV, encR]
        go_wp2
        go_ret
        exact ⟨rfl, K.bel.alloc K.bel.size _⟩
    · skip
      refine (Abort_L o13 1 _ pm bo bd _ (2) hM (by decide)).mono ?_
      rintro e w14 ⟨he, hM0, s1⟩
      obtain rfl : e = .returned (.int .i64 0) := he
      replace K := K.step s1 (by decide)
      replace hH := hH.keep s1 (by decide)
      replace hu := hu.keep s1 (by decide)
      replace hv := hv.keep s1 (by decide)
      replace hb := hb.keep s1 (by decide)
      replace hw := hw.keep s1 (by decide)
      replace hc := hc.keep s1 (by decide)
      replace hM : MgrL o13 1 w14 pm bo bd [2, 3, 1] := hM0
      clear s1 hM0
      have hb0 := hb.c0
      have hb1 := hb.c1
      have hb2 := hb.c2
      dsimp only at hb0 hb1 hb2
      have hb3 := World.block_lt_of_cell? _ _ hb0
      dsimp only at hb3
      have hc0 := hc.c0
      have hc1 := hc.c1
      have hc2 := hc.c2
      dsimp only at hc0 hc1 hc2
      have hc3 := World.block_lt_of_cell? _ _ hc0
      dsimp only at hc3
      go_wp2_with fail
      clear hb0 hb1 hb2 hb3
      clear hc0 hc1 hc2 hc3
      · skip
        refine (Update_L (r := (key, ⟨#[99]⟩)) (hM := hM) (hH := hH) (hij := by decide) (hv := hc.vw) (ho := by decide) (hr := WK.out) (hlim := by simp)).mono ?_
        rintro e w15 ⟨rfl, o15, a_hH, c_hH, hH0, s1⟩
        rw [show killE _ _ _ _ = 0 from by simp [killE, findI, idxI, visB, didB, seesB, othersB, stOf]]
        rw [show updV _ _ _ _ = [⟨key, ⟨#[97]⟩, 1, 3⟩, ⟨key, ⟨#[98]⟩, 2, 0⟩, ⟨key, ⟨#[99]⟩, 3, 0⟩] from by simp [killE, killV, updV, setD, findI, idxI, visB, didB, seesB, othersB, stOf, List.modify_zero_cons]] at hH0
        replace K := K.step s1 (by decide)
        replace hM := hM.keep s1 (by decide)
        replace hu := hu.keep s1 (by decide)
        replace hv := hv.keep s1 (by decide)
        replace hb := hb.keep s1 (by decide)
        replace hw := hw.keep s1 (by decide)
        replace hc := hc.keep s1 (by decide)
        replace hH := hH0
        clear s1 hH0
        have hb0 := hb.c0
        have hb1 := hb.c1
        have hb2 := hb.c2
        dsimp only at hb0 hb1 hb2
        have hb3 := World.block_lt_of_cell? _ _ hb0
        dsimp only at hb3
        have hc0 := hc.c0
        have hc1 := hc.c1
        have hc2 := hc.c2
        dsimp only at hc0 hc1 hc2
        have hc3 := World.block_lt_of_cell? _ _ hc0
        dsimp only at hc3
        go_wp2_with fail
        clear hb0 hb1 hb2 hb3
        clear hc0 hc1 hc2 hc3
        refine (HGet_L (key := key) (hM := hM) (hH := hH) (hij := by decide) (hv := hc.vw)).mono ?_
        rintro e w16 ⟨rfl, o16, s1⟩
        rw [show getR _ _ _ _ = some (key, ⟨#[99]⟩) from by simp [visB, didB, seesB, stOf, getR, Vr.row]]
        replace K := K.step s1 (by decide)
        clear s1
        dsimp only [getV, encR]
        go_wp2
        go_ret
        exact ⟨rfl, K.bel.alloc K.bel.size _⟩
      · skip
        refine (Delete_L (key := key) (hM := hM) (hH := hH) (hij := by decide) (hv := hc.vw) (ho := by decide)).mono ?_
        rintro e w15 ⟨rfl, o15, a_hH, c_hH, hH0, s1⟩
        rw [show killE _ _ _ _ = 0 from by simp [killE, findI, idxI, visB, didB, seesB, othersB, stOf]]
        rw [show killV _ _ _ _ = [⟨key, ⟨#[97]⟩, 1, 3⟩, ⟨key, ⟨#[98]⟩, 2, 0⟩] from by simp [killE, killV, setD, findI, idxI, visB, didB, seesB, othersB, stOf, List.modify_zero_cons]] at hH0
        replace K := K.step s1 (by decide)
        replace hM := hM.keep s1 (by decide)
        replace hu := hu.keep s1 (by decide)
        replace hv := hv.keep s1 (by decide)
        replace hb := hb.keep s1 (by decide)
        replace hw := hw.keep s1 (by decide)
        replace hc := hc.keep s1 (by decide)
        replace hH := hH0
        clear s1 hH0
        have hb0 := hb.c0
        have hb1 := hb.c1
        have hb2 := hb.c2
        dsimp only at hb0 hb1 hb2
        have hb3 := World.block_lt_of_cell? _ _ hb0
        dsimp only at hb3
        have hc0 := hc.c0
        have hc1 := hc.c1
        have hc2 := hc.c2
        dsimp only at hc0 hc1 hc2
        have hc3 := World.block_lt_of_cell? _ _ hc0
        dsimp only at hc3
        go_wp2_with fail
        clear hb0 hb1 hb2 hb3
        clear hc0 hc1 hc2 hc3
        refine (HGet_L (key := key) (hM := hM) (hH := hH) (hij := by decide) (hv := hc.vw)).mono ?_
        rintro e w16 ⟨rfl, o16, s1⟩
        rw [show getR _ _ _ _ = none from by simp [visB, didB, seesB, stOf, getR]]
        replace K := K.step s1 (by decide)
        clear s1
        dsimp only [getV, encR]
        go_wp2
        go_ret
        exact ⟨rfl, K.bel.alloc K.bel.size _⟩
      · skip
        refine (Truncate_L (q := 6) (hM := hM) (hH := hH) (hij := by decide) (hkj := by decide) (hv := hc.vw) (ho := by decide)).mono ?_
        rintro e w15 ⟨o15, ar, cr, a_hH, c_hH, rfl, hR, hH0, s1⟩
        rw [show truncE _ _ _ = 0 from by simp [truncE, visB, didB, seesB, othersB, stOf]]
        have TL : truncL [2, 3, 1] ⟨4, [2, 3], 3⟩ ([⟨key, ⟨#[97]⟩, 1, 2⟩, ⟨key, ⟨#[98]⟩, 2, 0⟩]) = [(key, ⟨#[97]⟩)] := by
          unfold truncL scanL visL
          rw [if_pos (by simp [truncE, visB, didB, seesB, othersB, stOf])]
          rw [show (([⟨key, ⟨#[97]⟩, 1, 2⟩, ⟨key, ⟨#[98]⟩, 2, 0⟩] : List Vr).filter (visB [2, 3, 1] ⟨4, [2, 3], 3⟩)).map Vr.row = [(key, ⟨#[97]⟩)] from by simp [visB, didB, seesB, stOf, Vr.row]]
          exact sortS_of_srt (by simp [Srt])
        have TV : truncV [2, 3, 1] ⟨4, [2, 3], 3⟩ ([⟨key, ⟨#[97]⟩, 1, 2⟩, ⟨key, ⟨#[98]⟩, 2, 0⟩]) = [⟨key, ⟨#[97]⟩, 1, 3⟩, ⟨key, ⟨#[98]⟩, 2, 0⟩] := by
          unfold truncV
          rw [TL]
          simp [killAll, killE, killV, setD, findI, idxI, visB, didB, seesB, othersB, stOf, List.modify_zero_cons]
        rw [TV] at hH0
        replace K := K.step s1 (by decide)
        replace hM := hM.keep s1 (by decide)
        replace hu := hu.keep s1 (by decide)
        replace hv := hv.keep s1 (by decide)
        replace hb := hb.keep s1 (by decide)
        replace hw := hw.keep s1 (by decide)
        replace hc := hc.keep s1 (by decide)
        replace hH := hH0
        clear s1 hH0 hR TV TL
        have hb0 := hb.c0
        have hb1 := hb.c1
        have hb2 := hb.c2
        dsimp only at hb0 hb1 hb2
        have hb3 := World.block_lt_of_cell? _ _ hb0
        dsimp only at hb3
        have hc0 := hc.c0
        have hc1 := hc.c1
        have hc2 := hc.c2
        dsimp only at hc0 hc1 hc2
        have hc3 := World.block_lt_of_cell? _ _ hc0
        dsimp only at hc3
        go_wp2_with fail
        clear hb0 hb1 hb2 hb3
        clear hc0 hc1 hc2 hc3
        refine (HGet_L (key := key) (hM := hM) (hH := hH) (hij := by decide) (hv := hc.vw)).mono ?_
        rintro e w16 ⟨rfl, o16, s1⟩
        rw [show getR _ _ _ _ = none from by simp [visB, didB, seesB, stOf, getR]]
        replace K := K.step s1 (by decide)
        clear s1
        dsimp only [getV, encR]
        go_wp2
        go_ret
        exact ⟨rfl, K.bel.alloc K.bel.size _⟩
    · skip
      refine (Update_L (r := (key, ⟨#[99]⟩)) (hM := hM) (hH := hH) (hij := by decide) (hv := hc.vw) (ho := by decide) (hr := WK.out) (hlim := by simp)).mono ?_
      rintro e w14 ⟨rfl, o14, a_hH, c_hH, hH0, s1⟩
      rw [show killE _ _ _ _ = 6 from by simp [killE, findI, idxI, visB, didB, seesB, othersB, stOf]]
      rw [show updV _ _ _ _ = [⟨key, ⟨#[97]⟩, 1, 2⟩, ⟨key, ⟨#[98]⟩, 2, 0⟩] from by simp [killE, updV, findI, idxI, visB, didB, seesB, othersB, stOf]] at hH0
      replace K := K.step s1 (by decide)
      replace hM := hM.keep s1 (by decide)
      replace hu := hu.keep s1 (by decide)
      replace hv := hv.keep s1 (by decide)
      replace hb := hb.keep s1 (by decide)
      replace hw := hw.keep s1 (by decide)
      replace hc := hc.keep s1 (by decide)
      replace hH := hH0
      clear s1 hH0
      have hb0 := hb.c0
      have hb1 := hb.c1
      have hb2 := hb.c2
      dsimp only at hb0 hb1 hb2
      have hb3 := World.block_lt_of_cell? _ _ hb0
      dsimp only at hb3
      have hc0 := hc.c0
      have hc1 := hc.c1
      have hc2 := hc.c2
      dsimp only at hc0 hc1 hc2
      have hc3 := World.block_lt_of_cell? _ _ hc0
      dsimp only at hc3
      go_wp2_with fail
      clear hb0 hb1 hb2 hb3
      clear hc0 hc1 hc2 hc3
      refine (HGet_L (key := key) (hM := hM) (hH := hH) (hij := by decide) (hv := hc.vw)).mono ?_
      rintro e w15 ⟨rfl, o15, s1⟩
      rw [show getR _ _ _ _ = some (key, ⟨#[97]⟩) from by simp [visB, didB, seesB, stOf, getR, Vr.row]]
      replace K := K.step s1 (by decide)
      clear s1
      dsimp only [getV, encR]
      go_wp2
      go_ret
      exact ⟨rfl, K.bel.alloc K.bel.size _⟩
    · skip
      refine (Delete_L (key := key) (hM := hM) (hH := hH) (hij := by decide) (hv := hc.vw) (ho := by decide)).mono ?_
      rintro e w14 ⟨rfl, o14, a_hH, c_hH, hH0, s1⟩
      rw [show killE _ _ _ _ = 6 from by simp [killE, findI, idxI, visB, didB, seesB, othersB, stOf]]
      rw [show killV _ _ _ _ = [⟨key, ⟨#[97]⟩, 1, 2⟩, ⟨key, ⟨#[98]⟩, 2, 0⟩] from by simp [killE, killV, findI, idxI, visB, didB, seesB, othersB, stOf]] at hH0
      replace K := K.step s1 (by decide)
      replace hM := hM.keep s1 (by decide)
      replace hu := hu.keep s1 (by decide)
      replace hv := hv.keep s1 (by decide)
      replace hb := hb.keep s1 (by decide)
      replace hw := hw.keep s1 (by decide)
      replace hc := hc.keep s1 (by decide)
      replace hH := hH0
      clear s1 hH0
      have hb0 := hb.c0
      have hb1 := hb.c1
      have hb2 := hb.c2
      dsimp only at hb0 hb1 hb2
      have hb3 := World.block_lt_of_cell? _ _ hb0
      dsimp only at hb3
      have hc0 := hc.c0
      have hc1 := hc.c1
      have hc2 := hc.c2
      dsimp only at hc0 hc1 hc2
      have hc3 := World.block_lt_of_cell? _ _ hc0
      dsimp only at hc3
      go_wp2_with fail
      clear hb0 hb1 hb2 hb3
      clear hc0 hc1 hc2 hc3
      refine (HGet_L (key := key) (hM := hM) (hH := hH) (hij := by decide) (hv := hc.vw)).mono ?_
      rintro e w15 ⟨rfl, o15, s1⟩
      rw [show getR _ _ _ _ = some (key, ⟨#[97]⟩) from by simp [visB, didB, seesB, stOf, getR, Vr.row]]
      replace K := K.step s1 (by decide)
      clear s1
      dsimp only [getV, encR]
      go_wp2
      go_ret
      exact ⟨rfl, K.bel.alloc K.bel.size _⟩
    · skip
      refine (Truncate_L (q := 6) (hM := hM) (hH := hH) (hij := by decide) (hkj := by decide) (hv := hc.vw) (ho := by decide)).mono ?_
      rintro e w14 ⟨o14, ar, cr, a_hH, c_hH, rfl, hR, hH0, s1⟩
      rw [show truncE _ _ _ = 6 from by simp [truncE, visB, didB, seesB, othersB, stOf]]
      have TV : truncV [2, 1, 1] ⟨4, [2, 3], 3⟩ ([⟨key, ⟨#[97]⟩, 1, 2⟩, ⟨key, ⟨#[98]⟩, 2, 0⟩]) = [⟨key, ⟨#[97]⟩, 1, 2⟩, ⟨key, ⟨#[98]⟩, 2, 0⟩] := by
        unfold truncV truncL
        rw [if_neg (by simp [truncE, visB, didB, seesB, othersB, stOf])]
        rfl
      rw [TV] at hH0
      replace K := K.step s1 (by decide)
      replace hM := hM.keep s1 (by decide)
      replace hu := hu.keep s1 (by decide)
      replace hv := hv.keep s1 (by decide)
      replace hb := hb.keep s1 (by decide)
      replace hw := hw.keep s1 (by decide)
      replace hc := hc.keep s1 (by decide)
      replace hH := hH0
      clear s1 hH0 hR TV
      have hb0 := hb.c0
      have hb1 := hb.c1
      have hb2 := hb.c2
      dsimp only at hb0 hb1 hb2
      have hb3 := World.block_lt_of_cell? _ _ hb0
      dsimp only at hb3
      have hc0 := hc.c0
      have hc1 := hc.c1
      have hc2 := hc.c2
      dsimp only at hc0 hc1 hc2
      have hc3 := World.block_lt_of_cell? _ _ hc0
      dsimp only at hc3
      go_wp2_with fail
      clear hb0 hb1 hb2 hb3
      clear hc0 hc1 hc2 hc3
      refine (HGet_L (key := key) (hM := hM) (hH := hH) (hij := by decide) (hv := hc.vw)).mono ?_
      rintro e w15 ⟨rfl, o15, s1⟩
      rw [show getR _ _ _ _ = some (key, ⟨#[97]⟩) from by simp [visB, didB, seesB, stOf, getR, Vr.row]]
      replace K := K.step s1 (by decide)
      clear s1
      dsimp only [getV, encR]
      go_wp2
      go_ret
      exact ⟨rfl, K.bel.alloc K.bel.size _⟩
  · skip
    clear hb0 hb1 hb2 hb3
    obtain ⟨o12, w12, vc, hw, hvb, hc, s1⟩ := VBox.new hw
    dsimp only [List.length] at hw
    rw [hw, hvb]
    clear hw hvb
    replace K := K.step s1 (by decide)
    replace hM := hM.keep s1 (by decide)
    replace hH := hH.keep s1 (by decide)
    replace hu := hu.keep s1 (by decide)
    replace hv := hv.keep s1 (by decide)
    replace hb := hb.keep s1 (by decide)
    replace hw := hw.keep s1 (by decide)
    clear s1
    refine (Delete_L (key := key) (hM := hM) (hH := hH) (hij := by decide) (hv := hb.vw) (ho := by decide)).mono ?_
    rintro e w13 ⟨rfl, o13, a_hH, c_hH, hH0, s1⟩
    rw [show killE _ _ _ _ = 0 from by simp [killE, findI, idxI, visB, didB, seesB, othersB, stOf]]
    rw [show killV _ _ _ _ = [⟨key, ⟨#[97]⟩, 1, 2⟩] from by simp [killE, killV, setD, findI, idxI, visB, didB, seesB, othersB, stOf, List.modify_zero_cons]] at hH0
    replace K := K.step s1 (by decide)
    replace hM := hM.keep s1 (by decide)
    replace hu := hu.keep s1 (by decide)
    replace hv := hv.keep s1 (by decide)
    replace hb := hb.keep s1 (by decide)
    replace hw := hw.keep s1 (by decide)
    replace hc := hc.keep s1 (by decide)
    replace hH := hH0
    clear s1 hH0
    have hb0 := hb.c0
    have hb1 := hb.c1
    have hb2 := hb.c2
    dsimp only at hb0 hb1 hb2
    have hb3 := World.block_lt_of_cell? _ _ hb0
    dsimp only at hb3
    have hc0 := hc.c0
    have hc1 := hc.c1
    have hc2 := hc.c2
    dsimp only at hc0 hc1 hc2
    have hc3 := World.block_lt_of_cell? _ _ hc0
    dsimp only at hc3
    go_wp2_with fail
    clear hb0 hb1 hb2 hb3
    clear hc0 hc1 hc2 hc3
    · skip
      refine (Commit_L o13 1 _ pm bo bd _ (2) hM (by decide)).mono ?_
      rintro e w14 ⟨he, hM0, s1⟩
      obtain rfl : e = .returned (.int .i64 0) := he
      replace K := K.step s1 (by decide)
      replace hH := hH.keep s1 (by decide)
      replace hu := hu.keep s1 (by decide)
      replace hv := hv.keep s1 (by decide)
      replace hb := hb.keep s1 (by decide)
      replace hw := hw.keep s1 (by decide)
      replace hc := hc.keep s1 (by decide)
      replace hM : MgrL o13 1 w14 pm bo bd [2, 2, 1] := hM0
      clear s1 hM0
      have hb0 := hb.c0
      have hb1 := hb.c1
      have hb2 := hb.c2
      dsimp only at hb0 hb1 hb2
      have hb3 := World.block_lt_of_cell? _ _ hb0
      dsimp only at hb3
      have hc0 := hc.c0
      have hc1 := hc.c1
      have hc2 := hc.c2
      dsimp only at hc0 hc1 hc2
      have hc3 := World.block_lt_of_cell? _ _ hc0
      dsimp only at hc3
      go_wp2_with fail
      clear hb0 hb1 hb2 hb3
      clear hc0 hc1 hc2 hc3
      · skip
        refine (Update_L (r := (key, ⟨#[99]⟩)) (hM := hM) (hH := hH) (hij := by decide) (hv := hc.vw) (ho := by decide) (hr := WK.out) (hlim := by simp)).mono ?_
        rintro e w15 ⟨rfl, o15, a_hH, c_hH, hH0, s1⟩
        rw [show killE _ _ _ _ = 6 from by simp [killE, findI, idxI, visB, didB, seesB, othersB, stOf]]
        rw [show updV _ _ _ _ = [⟨key, ⟨#[97]⟩, 1, 2⟩] from by simp [killE, updV, findI, idxI, visB, didB, seesB, othersB, stOf]] at hH0
        replace K := K.step s1 (by decide)
        replace hM := hM.keep s1 (by decide)
        replace hu := hu.keep s1 (by decide)
        replace hv := hv.keep s1 (by decide)
        replace hb := hb.keep s1 (by decide)
        replace hw := hw.keep s1 (by decide)
        replace hc := hc.keep s1 (by decide)
        replace hH := hH0
        clear s1 hH0
        have hb0 := hb.c0
        have hb1 := hb.c1
        have hb2 := hb.c2
        dsimp only at hb0 hb1 hb2
        have hb3 := World.block_lt_of_cell? _ _ hb0
        dsimp only at hb3
        have hc0 := hc.c0
        have hc1 := hc.c1
        have hc2 := hc.c2
        dsimp only at hc0 hc1 hc2
        have hc3 := World.block_lt_of_cell? _ _ hc0
        dsimp only at hc3
        go_wp2_with fail
        clear hb0 hb1 hb2 hb3
        clear hc0 hc1 hc2 hc3
        refine (HGet_L (key := key) (hM := hM) (hH := hH) (hij := by decide) (hv := hc.vw)).mono ?_
        rintro e w16 ⟨rfl, o16, s1⟩
        rw [show getR _ _ _ _ = some (key, ⟨#[97]⟩) from by simp [visB, didB, seesB, stOf, getR, Vr.row]]
        replace K := K.step s1 (by decide)
        clear s1
        dsimp only [getV, encR]
        go_wp2
        go_ret
        exact ⟨rfl, K.bel.alloc K.bel.size _⟩
      · skip
        refine (Delete_L (key := key) (hM := hM) (hH := hH) (hij := by decide) (hv := hc.vw) (ho := by decide)).mono ?_
        rintro e w15 ⟨rfl, o15, a_hH, c_hH, hH0, s1⟩
        rw [show killE _ _ _ _ = 6 from by simp [killE, findI, idxI, visB, didB, seesB, othersB, stOf]]
        rw [show killV _ _ _ _ = [⟨key, ⟨#[97]⟩, 1, 2⟩] from by simp [killE, killV, findI, idxI, visB, didB, seesB, othersB, stOf]] at hH0
        replace K := K.step s1 (by decide)
        replace hM := hM.keep s1 (by decide)
        replace hu := hu.keep s1 (by decide)
        replace hv := hv.keep s1 (by decide)
        replace hb := hb.keep s1 (by decide)
        replace hw := hw.keep s1 (by decide)
        replace hc := hc.keep s1 (by decide)
        replace hH := hH0
        clear s1 hH0
        have hb0 := hb.c0
        have hb1 := hb.c1
        have hb2 := hb.c2
        dsimp only at hb0 hb1 hb2
        have hb3 := World.block_lt_of_cell? _ _ hb0
        dsimp only at hb3
        have hc0 := hc.c0
        have hc1 := hc.c1
        have hc2 := hc.c2
        dsimp only at hc0 hc1 hc2
        have hc3 := World.block_lt_of_cell? _ _ hc0
        dsimp only at hc3
        go_wp2_with fail
        clear hb0 hb1 hb2 hb3
        clear hc0 hc1 hc2 hc3
        refine (HGet_L (key := key) (hM := hM) (hH := hH) (hij := by decide) (hv := hc.vw)).mono ?_
        rintro e w16 ⟨rfl, o16, s1⟩
        rw [show getR _ _ _ _ = some (key, ⟨#[97]⟩) from by simp [visB, didB, seesB, stOf, getR, Vr.row]]
        replace K := K.step s1 (by decide)
        clear s1
        dsimp only [getV, encR]
        go_wp2
        go_ret
        exact ⟨rfl, K.bel.alloc K.bel.size _⟩
      · skip
        refine (Truncate_L (q := 6) (hM := hM) (hH := hH) (hij := by decide) (hkj := by decide) (hv := hc.vw) (ho := by decide)).mono ?_
        rintro e w15 ⟨o15, ar, cr, a_hH, c_hH, rfl, hR, hH0, s1⟩
        rw [show truncE _ _ _ = 6 from by simp [truncE, visB, didB, seesB, othersB, stOf]]
        have TV : truncV [2, 2, 1] ⟨4, [2, 3], 3⟩ ([⟨key, ⟨#[97]⟩, 1, 2⟩]) = [⟨key, ⟨#[97]⟩, 1, 2⟩] := by
          unfold truncV truncL
          rw [if_neg (by simp [truncE, visB, didB, seesB, othersB, stOf])]
          rfl
        rw [TV] at hH0
        replace K := K.step s1 (by decide)
        replace hM := hM.keep s1 (by decide)
        replace hu := hu.keep s1 (by decide)
        replace hv := hv.keep s1 (by decide)
        replace hb := hb.keep s1 (by decide)
        replace hw := hw.keep s1 (by decide)
        replace hc := hc.keep s1 (by decide)
        replace hH := hH0
        clear s1 hH0 hR TV
        have hb0 := hb.c0
        have hb1 := hb.c1
        have hb2 := hb.c2
        dsimp only at hb0 hb1 hb2
        have hb3 := World.block_lt_of_cell? _ _ hb0
        dsimp only at hb3
        have hc0 := hc.c0
        have hc1 := hc.c1
        have hc2 := hc.c2
        dsimp only at hc0 hc1 hc2
        have hc3 := World.block_lt_of_cell? _ _ hc0
        dsimp only at hc3
        go_wp2_with fail
        clear hb0 hb1 hb2 hb3
        clear hc0 hc1 hc2 hc3
        refine (HGet_L (key := key) (hM := hM) (hH := hH) (hij := by decide) (hv := hc.vw)).mono ?_
        rintro e w16 ⟨rfl, o16, s1⟩
        rw [show getR _ _ _ _ = some (key, ⟨#[97]⟩) from by simp [visB, didB, seesB, stOf, getR, Vr.row]]
        replace K := K.step s1 (by decide)
        clear s1
        dsimp only [getV, encR]
        go_wp2
        go_ret
        exact ⟨rfl, K.bel.alloc K.bel.size _⟩
    · skip
      refine (Abort_L o13 1 _ pm bo bd _ (2) hM (by decide)).mono ?_
      rintro e w14 ⟨he, hM0, s1⟩
      obtain rfl : e = .returned (.int .i64 0) := he
      replace K := K.step s1 (by decide)
      replace hH := hH.keep s1 (by decide)
      replace hu := hu.keep s1 (by decide)
      replace hv := hv.keep s1 (by decide)
      replace hb := hb.keep s1 (by decide)
      replace hw := hw.keep s1 (by decide)
      replace hc := hc.keep s1 (by decide)
      replace hM : MgrL o13 1 w14 pm bo bd [2, 3, 1] := hM0
      clear s1 hM0
      have hb0 := hb.c0
      have hb1 := hb.c1
      have hb2 := hb.c2
      dsimp only at hb0 hb1 hb2
      have hb3 := World.block_lt_of_cell? _ _ hb0
      dsimp only at hb3
      have hc0 := hc.c0
      have hc1 := hc.c1
      have hc2 := hc.c2
      dsimp only at hc0 hc1 hc2
      have hc3 := World.block_lt_of_cell? _ _ hc0
      dsimp only at hc3
      go_wp2_with fail
      clear hb0 hb1 hb2 hb3
      clear hc0 hc1 hc2 hc3
      · skip
        refine (Update_L (r := (key, ⟨#[99]⟩)) (hM := hM) (hH := hH) (hij := by decide) (hv := hc.vw) (ho := by decide) (hr := WK.out) (hlim := by simp)).mono ?_
        rintro e w15 ⟨rfl, o15, a_hH, c_hH, hH0, s1⟩
        rw [show killE _ _ _ _ = 0 from by simp [killE, findI, idxI, visB, didB, seesB, othersB, stOf]]
        rw [show updV _ _ _ _ = [⟨key, ⟨#[97]⟩, 1, 3⟩, ⟨key, ⟨#[99]⟩, 3, 0⟩] from by simp [killE, killV, updV, setD, findI, idxI, visB, didB, seesB, othersB, stOf, List.modify_zero_cons]] at hH0
        replace K := K.step s1 (by decide)
        replace hM := hM.keep s1 (by decide)
        replace hu := hu.keep s1 (by decide)
        replace hv := hv.keep s1 (by decide)
        replace hb := hb.keep s1 (by decide)
        replace hw := hw.keep s1 (by decide)
        replace hc := hc.keep s1 (by decide)
        replace hH := hH0
        clear s1 hH0
        have hb0 := hb.c0
        have hb1 := hb.c1
        have hb2 := hb.c2
        dsimp only at hb0 hb1 hb2
        have hb3 := World.block_lt_of_cell? _ _ hb0
        dsimp only at hb3
        have hc0 := hc.c0
        have hc1 := hc.c1
        have hc2 := hc.c2
        dsimp only at hc0 hc1 hc2
        have hc3 := World.block_lt_of_cell? _ _ hc0
        dsimp only at hc3
        go_wp2_with fail
        clear hb0 hb1 hb2 hb3
        clear hc0 hc1 hc2 hc3
        refine (HGet_L (key := key) (hM := hM) (hH := hH) (hij := by decide) (hv := hc.vw)).mono ?_
        rintro e w16 ⟨rfl, o16, s1⟩
        rw [show getR _ _ _ _ = some (key, ⟨#[99]⟩) from by simp [visB, didB, seesB, stOf, getR, Vr.row]]
        replace K := K.step s1 (by decide)
        clear s1
        dsimp only [getV, encR]
        go_wp2
        go_ret
        exact ⟨rfl, K.bel.alloc K.bel.size _⟩
      · skip
        refine (Delete_L (key := key) (hM := hM) (hH := hH) (hij := by decide) (hv := hc.vw) (ho := by decide)).mono ?_
        rintro e w15 ⟨rfl, o15, a_hH, c_hH, hH0, s1⟩
        rw [show killE _ _ _ _ = 0 from by simp [killE, findI, idxI, visB, didB, seesB, othersB, stOf]]
        rw [show killV _ _ _ _ = [⟨key, ⟨#[97]⟩, 1, 3⟩] from by simp [killE, killV, setD, findI, idxI, visB, didB, seesB, othersB, stOf, List.modify_zero_cons]] at hH0
        replace K := K.step s1 (by decide)
        replace hM := hM.keep s1 (by decide)
        replace hu := hu.keep s1 (by decide)
        replace hv := hv.keep s1 (by decide)
        replace hb := hb.keep s1 (by decide)
        replace hw := hw.keep s1 (by decide)
        replace hc := hc.keep s1 (by decide)
        replace hH := hH0
        clear s1 hH0
        have hb0 := hb.c0
        have hb1 := hb.c1
        have hb2 := hb.c2
        dsimp only at hb0 hb1 hb2
        have hb3 := World.block_lt_of_cell? _ _ hb0
        dsimp only at hb3
        have hc0 := hc.c0
        have hc1 := hc.c1
        have hc2 := hc.c2
        dsimp only at hc0 hc1 hc2
        have hc3 := World.block_lt_of_cell? _ _ hc0
        dsimp only at hc3
        go_wp2_with fail
        clear hb0 hb1 hb2 hb3
        clear hc0 hc1 hc2 hc3
        refine (HGet_L (key := key) (hM := hM) (hH := hH) (hij := by decide) (hv := hc.vw)).mono ?_
        rintro e w16 ⟨rfl, o16, s1⟩
        rw [show getR _ _ _ _ = none from by simp [visB, didB, seesB, stOf, getR]]
        replace K := K.step s1 (by decide)
        clear s1
        dsimp only [getV, encR]
        go_wp2
        go_ret
        exact ⟨rfl, K.bel.alloc K.bel.size _⟩
      · skip
        refine (Truncate_L (q := 6) (hM := hM) (hH := hH) (hij := by decide) (hkj := by decide) (hv := hc.vw) (ho := by decide)).mono ?_
        rintro e w15 ⟨o15, ar, cr, a_hH, c_hH, rfl, hR, hH0, s1⟩
        rw [show truncE _ _ _ = 0 from by simp [truncE, visB, didB, seesB, othersB, stOf]]
        have TL : truncL [2, 3, 1] ⟨4, [2, 3], 3⟩ ([⟨key, ⟨#[97]⟩, 1, 2⟩]) = [(key, ⟨#[97]⟩)] := by
          unfold truncL scanL visL
          rw [if_pos (by simp [truncE, visB, didB, seesB, othersB, stOf])]
          rw [show (([⟨key, ⟨#[97]⟩, 1, 2⟩] : List Vr).filter (visB [2, 3, 1] ⟨4, [2, 3], 3⟩)).map Vr.row = [(key, ⟨#[97]⟩)] from by simp [visB, didB, seesB, stOf, Vr.row]]
          exact sortS_of_srt (by simp [Srt])
        have TV : truncV [2, 3, 1] ⟨4, [2, 3], 3⟩ ([⟨key, ⟨#[97]⟩, 1, 2⟩]) = [⟨key, ⟨#[97]⟩, 1, 3⟩] := by
          unfold truncV
          rw [TL]
          simp [killAll, killE, killV, setD, findI, idxI, visB, didB, seesB, othersB, stOf, List.modify_zero_cons]
        rw [TV] at hH0
        replace K := K.step s1 (by decide)
        replace hM := hM.keep s1 (by decide)
        replace hu := hu.keep s1 (by decide)
        replace hv := hv.keep s1 (by decide)
        replace hb := hb.keep s1 (by decide)
        replace hw := hw.keep s1 (by decide)
        replace hc := hc.keep s1 (by decide)
        replace hH := hH0
        clear s1 hH0 hR TV TL
        have hb0 := hb.c0
        have hb1 := hb.c1
        have hb2 := hb.c2
        dsimp only at hb0 hb1 hb2
        have hb3 := World.block_lt_of_cell? _ _ hb0
        dsimp only at hb3
        have hc0 := hc.c0
        have hc1 := hc.c1
        have hc2 := hc.c2
        dsimp only at hc0 hc1 hc2
        have hc3 := World.block_lt_of_cell? _ _ hc0
        dsimp only at hc3
        go_wp2_with fail
        clear hb0 hb1 hb2 hb3
        clear hc0 hc1 hc2 hc3
        refine (HGet_L (key := key) (hM := hM) (hH := hH) (hij := by decide) (hv := hc.vw)).mono ?_
        rintro e w16 ⟨rfl, o16, s1⟩
        rw [show getR _ _ _ _ = none from by simp [visB, didB, seesB, stOf, getR]]
        replace K := K.step s1 (by decide)
        clear s1
        dsimp only [getV, encR]
        go_wp2
        go_ret
        exact ⟨rfl, K.bel.alloc K.bel.size _⟩
    · skip
      refine (Update_L (r := (key, ⟨#[99]⟩)) (hM := hM) (hH := hH) (hij := by decide) (hv := hc.vw) (ho := by decide) (hr := WK.out) (hlim := by simp)).mono ?_
      rintro e w14 ⟨rfl, o14, a_hH, c_hH, hH0, s1⟩
      rw [show killE _ _ _ _ = 6 from by simp [killE, findI, idxI, visB, didB, seesB, othersB, stOf]]
      rw [show updV _ _ _ _ = [⟨key, ⟨#[97]⟩, 1, 2⟩] from by simp [killE, updV, findI, idxI, visB, didB, seesB, othersB, stOf]] at hH0
      replace K := K.step s1 (by decide)
      replace hM := hM.keep s1 (by decide)
      replace hu := hu.keep s1 (by decide)
      replace hv := hv.keep s1 (by decide)
      replace hb := hb.keep s1 (by decide)
      replace hw := hw.keep s1 (by decide)
      replace hc := hc.keep s1 (by decide)
      replace hH := hH0
      clear s1 hH0
      have hb0 := hb.c0
      have hb1 := hb.c1
      have hb2 := hb.c2
      dsimp only at hb0 hb1 hb2
      have hb3 := World.block_lt_of_cell? _ _ hb0
      dsimp only at hb3
      have hc0 := hc.c0
      have hc1 := hc.c1
      have hc2 := hc.c2
      dsimp only at hc0 hc1 hc2
      have hc3 := World.block_lt_of_cell? _ _ hc0
      dsimp only at hc3
      go_wp2_with fail
      clear hb0 hb1 hb2 hb3
      clear hc0 hc1 hc2 hc3
      refine (HGet_L (key := key) (hM := hM) (hH := hH) (hij := by decide) (hv := hc.vw)).mono ?_
      rintro e w15 ⟨rfl, o15, s1⟩
      rw [show getR _ _ _ _ = some (key, ⟨#[97]⟩) from by simp [visB, didB, seesB, stOf, getR, Vr.row]]
      replace K := K.step s1 (by decide)
      clear s1
      dsimp only [getV, encR]
      go_wp2
      go_ret
      exact ⟨rfl, K.bel.alloc K.bel.size _⟩
    · skip
      refine (Delete_L (key := key) (hM := hM) (hH := hH) (hij := by decide) (hv := hc.vw) (ho := by decide)).mono ?_
      rintro e w14 ⟨rfl, o14, a_hH, c_hH, hH0, s1⟩
      rw [show killE _ _ _ _ = 6 from by simp [killE, findI, idxI, visB, didB, seesB, othersB, stOf]]
      rw [show killV _ _ _ _ = [⟨key, ⟨#[97]⟩, 1, 2⟩] from by simp [killE, killV, findI, idxI, visB, didB, seesB, othersB, stOf]] at hH0
      replace K := K.step s1 (by decide)
      replace hM := hM.keep s1 (by decide)
      replace hu := hu.keep s1 (by decide)
      replace hv := hv.keep s1 (by decide)
      replace hb := hb.keep s1 (by decide)
      replace hw := hw.keep s1 (by decide)
      replace hc := hc.keep s1 (by decide)
      replace hH := hH0
      clear s1 hH0
      have hb0 := hb.c0
      have hb1 := hb.c1
      have hb2 := hb.c2
      dsimp only at hb0 hb1 hb2
      have hb3 := World.block_lt_of_cell? _ _ hb0
      dsimp only at hb3
      have hc0 := hc.c0
      have hc1 := hc.c1
      have hc2 := hc.c2
      dsimp only at hc0 hc1 hc2
      have hc3 := World.block_lt_of_cell? _ _ hc0
      dsimp only at hc3
      go_wp2_with fail
      clear hb0 hb1 hb2 hb3
      clear hc0 hc1 hc2 hc3
      refine (HGet_L (key := key) (hM := hM) (hH := hH) (hij := by decide) (hv := hc.vw)).mono ?_
      rintro e w15 ⟨rfl, o15, s1⟩
      rw [show getR _ _ _ _ = some (key, ⟨#[97]⟩) from by simp [visB, didB, seesB, stOf, getR, Vr.row]]
      replace K := K.step s1 (by decide)
      clear s1
      dsimp only [getV, encR]
      go_wp2
      go_ret
      exact ⟨rfl, K.bel.alloc K.bel.size _⟩
    · skip
      refine (Truncate_L (q := 6) (hM := hM) (hH := hH) (hij := by decide) (hkj := by decide) (hv := hc.vw) (ho := by decide)).mono ?_
      rintro e w14 ⟨o14, ar, cr, a_hH, c_hH, rfl, hR, hH0, s1⟩
      rw [show truncE _ _ _ = 6 from by simp [truncE, visB, didB, seesB, othersB, stOf]]
      have TV : truncV [2, 1, 1] ⟨4, [2, 3], 3⟩ ([⟨key, ⟨#[97]⟩, 1, 2⟩]) = [⟨key, ⟨#[97]⟩, 1, 2⟩] := by
        unfold truncV truncL
        rw [if_neg (by simp [truncE, visB, didB, seesB, othersB, stOf])]
        rfl
      rw [TV] at hH0
      replace K := K.step s1 (by decide)
      replace hM := hM.keep s1 (by decide)
      replace hu := hu.keep s1 (by decide)
      replace hv := hv.keep s1 (by decide)
      replace hb := hb.keep s1 (by decide)
      replace hw := hw.keep s1 (by decide)
      replace hc := hc.keep s1 (by decide)
      replace hH := hH0
      clear s1 hH0 hR TV
      have hb0 := hb.c0
      have hb1 := hb.c1
      have hb2 := hb.c2
      dsimp only at hb0 hb1 hb2
      have hb3 := World.block_lt_of_cell? _ _ hb0
      dsimp only at hb3
      have hc0 := hc.c0
      have hc1 := hc.c1
      have hc2 := hc.c2
      dsimp only at hc0 hc1 hc2
      have hc3 := World.block_lt_of_cell? _ _ hc0
      dsimp only at hc3
      go_wp2_with fail
      clear hb0 hb1 hb2 hb3
      clear hc0 hc1 hc2 hc3
      refine (HGet_L (key := key) (hM := hM) (hH := hH) (hij := by decide) (hv := hc.vw)).mono ?_
      rintro e w15 ⟨rfl, o15, s1⟩
      rw [show getR _ _ _ _ = some (key, ⟨#[97]⟩) from by simp [visB, didB, seesB, stOf, getR, Vr.row]]
      replace K := K.step s1 (by decide)
      clear s1
      dsimp only [getV, encR]
      go_wp2
      go_ret
      exact ⟨rfl, K.bel.alloc K.bel.size _⟩
end Go.Proofs.Ytannjecmfbhkeaa
