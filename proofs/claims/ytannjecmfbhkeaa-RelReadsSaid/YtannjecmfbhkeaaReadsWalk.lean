/- RelReads: Get, and Scan, change nothing. -/
import Derived.Test.YtannjecmfbhkeaaApartWalk
namespace Go.Proofs.Ytannjecmfbhkeaa
open Go Go.RowKit Go.Lib Go.Maps
def RdA (w : World) (pm bo bd pr : Nat) (aR : Option Addr) (cR : Nat) (phs : List Nat) (vb : Nat) (va : Option Addr) (vc : Nat) (k : Nat) (W : World) : Prop :=
  ∃ own V, (∀ j : Nat, Un (V j) ∧ (V j).length ≤ k) ∧ ApS w pm bo bd pr aR cR phs vb va vc own V W
set_option maxHeartbeats 16000000 in
set_option maxRecDepth 100000 in
theorem RelReads_walk (a0 : Option Addr) (n0 c0 : Nat) (kind key table : Int) (w : World) (h0 : Act8In w a0 n0) (k0 : 0 ≤ kind) (k1 : kind < 256) (y0 : 0 ≤ key) (y1 : key < 256) (t0 : 0 ≤ table) (t1 : table < 256) :
    Calls Try.prog 10 #[.slice a0 n0 c0, .int .u8 kind, .int .u8 key, .int .u8 table] w fun e w' => e = .returned (.bool true) ∧ Below w.heap.size w w' := by
  have K0 := K9.start w
  have H0 := Lib.hid h0
  clear h0
  go_enter Try.func10, Try.ntmps10
  go_wp2_with fail
  refine (row8_calls _).mono ?_
  rintro e w0 ⟨rfl, hb⟩
  have K := K0.step (Below.stp hb 0 _ 9) (by decide)
  clear K0 hb
  go_wp2_with fail
  refine (small8_calls _ a0 n0 c0 (K.acts8 H0.out)).mono ?_
  rintro e w01 ⟨b0, rfl, hb0, rfl⟩
  cases b0
  · clear hb0
    go_wp2_with fail
    refine (row8_calls _).mono ?_
    rintro e w1 ⟨rfl, hb⟩
    go_wp2
    go_ret
    exact ⟨rfl, K.bel.trans (hb.mono K.bel.size)⟩
  have hn0 := hb0 rfl
  clear hb0
  go_wp2_with fail
  refine (TxNew_L (lab (fun _ => 9) w.heap.size 9) 1 _).mono ?_
  rintro e w1 ⟨o1, pm, bo, bd, rfl, hM, s1⟩
  replace K := K.step s1 (by decide)
  clear s1
  go_wp2_with fail
  refine (RNew_L o1 8 (by decide) _ pm 3 3 (by decide) (by decide) rfl).mono ?_
  rintro e w2 ⟨pr, o2, phs, aR, cR, rfl, hl, hR, hV, s1⟩
  replace K := K.step s1 (by decide)
  replace hM := hM.keep s1 (by decide)
  have HL := Lib.hid hl
  clear s1 hl
  go_wp2_with fail
  refine (Begin_L o2 1 _ pm bo bd _ hM).mono ?_
  rintro e w3 ⟨he, hM0, s1⟩
  obtain rfl : e = .returned (.tuple #[.int .i64 1, .int .i64 0]) := he
  replace K := K.step s1 (by decide)
  replace hR := hR.keep s1 (by decide)
  replace hV := hV.keep s1 (by decide)
  replace hM : MgrL o2 1 w3 pm bo bd [1] := hM0
  clear s1 hM0
  go_wp2_with fail
  refine (Now_L o2 1 3 _ pm bo bd _ hM).mono ?_
  rintro e w4 ⟨o4, av, cv, he, hv0, s1⟩
  obtain rfl : e = .returned (.agg #[.int .i64 2, .slice av 1 cv]) := he
  replace K := K.step s1 (by decide)
  replace hM := hM.keep s1 (by decide)
  replace hR := hR.keep s1 (by decide)
  replace hV := hV.keep s1 (by decide)
  have hv : ViewL o4 3 w4 ⟨2, [1], 1⟩ av cv := hv0 1
  clear s1 hv0
  go_wp2_with fail
  obtain ⟨o5, w5, vb, hw, hvb, hb, s1⟩ := VBox.new hv
  dsimp only [List.length] at hw
  rw [hw, hvb]
  clear hw hvb
  replace K := K.step s1 (by decide)
  replace hM := hM.keep s1 (by decide)
  replace hR := hR.keep s1 (by decide)
  replace hV := hV.keep s1 (by decide)
  clear s1
  have HI : Hid (RdA w pm bo bd pr aR cR phs vb av cv 0 w5) := ⟨o5, fun _ => [], fun j => ⟨Un.nil, Nat.le_refl _⟩, ⟨K, hM, hR, hV, hb⟩⟩
  clear K hM hR hV hb hv
  go_loopw [14] (fun vi W => ∃ k : Nat, vi = .int .i64 k ∧ k ≤ n0 ∧ Hid (RdA w pm bo bd pr aR cR phs vb av cv k W)) (fun vi _ => n0 - (RowKit.intOf vi).toNat)
  case atStart => exact ⟨0, rfl, Nat.zero_le _, HI⟩
  case round =>
    clear HI
    obtain ⟨k, rfl, hk, hI⟩ := hrel
    by_cases hlt : k < n0
    · have hltz : (k : Int) < (n0 : Int) := by omega
      obtain ⟨own, V, hVk, S⟩ := hI.out
      obtain ⟨x, rfl, hx⟩ := H0.out.at hlt
      obtain ⟨d, qq, kd, tb, z, s, f0, f1, f2, f3, f4, f5, _, hqq, hkd, _, hwz, hs⟩ := hx.bel S.K.bel
      obtain ⟨q, hq⟩ : ∃ q : Nat, qq % 3 = q := ⟨(qq % 3).toNat, by omega⟩
      have q3 : q < 3 := by omega
      obtain ⟨p, hp⟩ : ∃ p, phs[q]? = some p := ⟨_, List.getElem?_eq_getElem (by rw [HL.out]; omega)⟩
      have hw2 := wfI_iff.1 hwz
      have hbd : -5 < z.tmod 5 ∧ z.tmod 5 < 5 := tmod_bd z 5 (by decide)
      obtain ⟨kd0, kd1⟩ := hkd
      obtain ⟨qq0, qq1⟩ := hqq
      have hb0 := S.b.c0
      have hb1 := S.b.c1
      have hb2 := S.b.c2
      dsimp only at hb0 hb1 hb2
      have HVK := Lib.hid hVk
      have HS := Lib.hid S
      have HP := Lib.hid hp
      have HQ := Lib.hid hq
      have HSZ : s.size ≤ 9223372036854775807 := by unfold maxLen at hs; omega
      clear hI hVk S hp hx hwz f0 f3 hs hq
      by_cases hbig : s.size ≤ 40 ∨ 3 ≤ 1 + kd % 4
      · go_wp2_with fail
        go_still_tail 29, (by kernel_rfl)
        change wpList _ _ _ _ _ wr.drew
        have hg : Gr wr wr.drew := Gr.drew wr
        generalize wr.drew = w5 at hg
        have S := HS.out.gr hg
        clear HS hg
        go_wp2_with fail
        rw [HQ.out]
        refine (Run_L (q := 6) (i := 1) (k := 3) (kr := 8) (1 + kd % 4) q p (z.tmod 5, s) S.R S.V S.M (by decide) S.b.vw (by decide) HP.out (by omega) (by omega) hbig HSZ (by decide) (wfI_iff.2 (by show _ ≤ z.tmod 5 ∧ z.tmod 5 ≤ _; omega)) (by have := (HVK.out q).2; omega)).mono ?_
        rintro e w6 ⟨o6, ar, cr, rfl, _, hV6, s1⟩
        have HI2 : Hid (RdA w pm bo bd pr aR cR phs vb av cv (k + 1) w6) := ⟨o6, _, fun j => by
          by_cases e : j = q
          · simp only [e, if_true]
            have := runR_len (t := [1]) (v := vw1) (vs := V q) (kind := 1 + kd % 4) (r := (z.tmod 5, s))
            have h2 := (HVK.out q).2
            exact ⟨(HVK.out q).1.run _ (by omega) (by omega), by omega⟩
          · simp only [e, if_false]
            exact ⟨(HVK.out j).1, by have := (HVK.out j).2; omega⟩, S.ran hV6 s1⟩
        generalize (runR [1] vw1 (V q) (1 + kd % 4) (z.tmod 5, s)) = X
        clear hV6 s1 hb0 hb1 hb2 S
        go_wp2
        go_roundw
        case rel => exact ⟨k + 1, by go_num, by omega, HI2⟩
        case measure => simp [RowKit.intOf]; omega
      · have HBG := Lib.hid hbig
        clear hbig
        go_wp2_with fail
        go_still_tail 29, (by kernel_rfl)
        change wpList _ _ _ _ _ wr.drew
        have hg : Gr wr wr.drew := Gr.drew wr
        generalize wr.drew = w5 at hg
        have S := HS.out.gr hg
        clear HS hg
        go_wp2_with fail
        refine (Run_bad own 8 w5 pr aR cR phs S.R ⟨2, [1], 1⟩ av cv (1 + kd % 4) (qq % 3) (z.tmod 5, s) (by omega) (by omega) (by unfold badS; have := HBG.out; simp only; omega) HSZ).mono ?_
        rintro e w6 ⟨rfl, hg⟩
        have HI2 : Hid (RdA w pm bo bd pr aR cR phs vb av cv (k + 1) w6) := ⟨own, V, fun j => ⟨(HVK.out j).1, by have := (HVK.out j).2; omega⟩, S.gr hg⟩
        clear hg hb0 hb1 hb2 S
        go_wp2
        go_roundw
        case rel => exact ⟨k + 1, by go_num, by omega, HI2⟩
        case measure => simp [RowKit.intOf]; omega
    · have hltz : ¬ (k : Int) < (n0 : Int) := by omega
      obtain ⟨own, V, hVk, S⟩ := hI.out
      obtain ⟨q, hq⟩ : ∃ q : Nat, table % 3 = q := ⟨(table % 3).toNat, by omega⟩
      have q3 : q < 3 := by omega
      have q0z : 0 ≤ table % 3 := by omega
      obtain ⟨p, hp⟩ : ∃ p, phs[q]? = some p := ⟨_, List.getElem?_eq_getElem (by rw [HL.out]; omega)⟩
      obtain ⟨y, hy⟩ : ∃ y : Int, key % 6 = y := ⟨_, rfl⟩
      have hy0 : 0 ≤ y := by omega
      have hy6 : y < 6 := by omega
      have hb0 := S.b.c0
      have hb1 := S.b.c1
      have hb2 := S.b.c2
      dsimp only at hb0 hb1 hb2
      have HU := Lib.hid (hVk q).1
      have hvl := (hVk q).2
      have HP := Lib.hid hp
      clear hI hVk hp
      go_wp2_with fail
      refine (Run_L (q := 6) (i := 1) (k := 3) (kr := 8) 6 q p ((0 : Int), ⟨#[]⟩) S.R S.V S.M (by decide) S.b.vw (by decide) HP.out (by decide) (by decide) (Or.inl (by decide)) (by decide) (by decide) (by decide) (by omega)).mono ?_
      rintro e w6 ⟨o6, aW, cW, rfl, hW, hV6, s1⟩
      rw [runR_six] at hV6 hW ⊢
      simp only [put_same] at hV6
      dsimp only at hW ⊢
      replace S := S.ran hV6 s1
      clear hV6 s1 hb0 hb1 hb2
      have hb0 := S.b.c0
      have hb1 := S.b.c1
      have hb2 := S.b.c2
      dsimp only at hb0 hb1 hb2
      go_wp2_with fail
      refine (RHeap_calls _ 8 w6 pr aR cR phs S.R q p HP.out).mono ?_
      rintro e w' ⟨rfl, rfl⟩
      go_wp2_with fail
      obtain ⟨aH, cH, hH⟩ := S.V q p HP.out
      refine (HLen_calls w6 pm bo bd [1] p aH cH (V q) (hH.hp S.M (by omega))).mono ?_
      rintro e w' ⟨rfl, rfl⟩
      clear hH
      go_wp2_with fail
      clear hb0 hb1 hb2
      cases hget : getR [1] vw1 (V q) y with
      | none =>
        have X5 : runR [1] vw1 (V q) 5 (y, ⟨#[]⟩) = ([], 4, V q) := by unfold runR; simp [hget]
        have HNO := Lib.hid (HU.out.gone hget)
        have R5 := Run_L (q := 7) (i := 1) (k := 3) (kr := 8) 5 q p (y, ⟨#[]⟩) S.R S.V S.M (by decide) S.b.vw (by decide) HP.out (by decide) (by decide) (Or.inl (show ByteArray.size ⟨#[]⟩ ≤ 40 by decide)) (show ByteArray.size ⟨#[]⟩ ≤ 9223372036854775807 by decide) (by decide) (wfI_iff.2 (by show _ ≤ y ∧ y ≤ _; omega)) (by omega)
        rw [X5] at R5
        clear X5 hget
        refine R5.mono ?_
        clear R5
        rintro e w7 ⟨o7, aG, cG, rfl, hG, hV7, s1⟩
        simp only [put_same] at hV7
        replace S := S.ran hV7 s1
        replace hW := hW.keep s1 (by omega)
        clear hV7 s1
        dsimp only at hG ⊢
        have hb0 := S.b.c0
        have hb1 := S.b.c1
        have hb2 := S.b.c2
        dsimp only at hb0 hb1 hb2
        go_wp2_with fail
        clear hb0 hb1 hb2
        refine (Run_L (q := 9) (i := 1) (k := 3) (kr := 8) 6 q p (kind, ⟨#[]⟩) S.R S.V S.M (by decide) S.b.vw (by decide) HP.out (by decide) (by decide) (Or.inl (show ByteArray.size ⟨#[]⟩ ≤ 40 by decide)) (show ByteArray.size ⟨#[]⟩ ≤ 9223372036854775807 by decide) (by decide) (wfI_iff.2 (by show _ ≤ kind ∧ kind ≤ _; omega)) (by omega)).mono ?_
        rintro e w8 ⟨o8, aI, cI, rfl, hJ, hV8, s1⟩
        rw [runR_six] at hV8 hJ ⊢
        simp only [put_same] at hV8
        dsimp only at hJ ⊢
        replace S := S.ran hV8 s1
        replace hW := hW.keep s1 (by omega)
        replace hG := hG.keep s1 (by omega)
        clear hV8 s1
        have ND := Lib.hid HU.out.scan_nd
        have SLL := scanL_len (t := [1]) (v := vw1) (vs := V q)
        generalize scanL [1] vw1 (V q) = SC at hW hJ HNO ND SLL ⊢
        have HK := Lib.hid (And.intro S (And.intro hW (And.intro hG hJ)))
        clear S hW hG hJ
        go_wp2
        go_loopw [23, 24] (fun vf vi W => ∃ k : Nat, vi = .int .i64 k ∧ k ≤ SC.length ∧ vf = .int .i64 (0 : Int) ∧ Hid (Gr w8 W)) (fun _ vi _ => SC.length - (RowKit.intOf vi).toNat)
        case atStart => exact ⟨0, rfl, Nat.zero_le _, rfl, Gr.refl _⟩
        case round =>
          obtain ⟨k, rfl, hk, rfl, hI⟩ := hrel
          by_cases hlt : k < SC.length
          · have hltz : (k : Int) < (SC.length : Int) := by omega
            obtain ⟨x, hx⟩ : ∃ x, SC[k]? = some x := ⟨_, List.getElem?_eq_getElem hlt⟩
            obtain ⟨gW, rfl, d0, d1⟩ := RowRow.at (HK.out.2.1.ok.gr hI.out) hx
            have mixed : Try.prog.follows .mixedOrders = true := by kernel_rfl
            have he := HNO.out x (List.mem_of_getElem? hx)
            obtain ⟨xk, xt⟩ := x
            dsimp only at he d0 d1
            have hyk : (xk == y) = false := by simpa using he
            clear hx he d1
            go_wp2
            go_roundw
            case rel => exact ⟨k + 1, by go_num, by omega, rfl, hI.out⟩
            case measure => simp [RowKit.intOf]; omega
          · have hltz : ¬ (k : Int) < (SC.length : Int) := by omega
            obtain ⟨S, hW, hG, hJ⟩ := HK.out
            replace S := S.gr hI.out
            go_wp2_with fail
            refine (r7Rows_same wr aW aI cW cI SC (by omega) (hW.ok.gr hI.out) (hJ.ok.gr hI.out)).mono ?_
            rintro e w9 ⟨rfl, hg⟩
            replace S := S.gr hg
            clear hW hG hJ hg
            go_wp2_with fail
            refine (RHeap_calls _ 8 w9 pr aR cR phs S.R q p HP.out).mono ?_
            rintro e w' ⟨rfl, rfl⟩
            obtain ⟨aH, cH, hH⟩ := S.V q p HP.out
            have HLN := Lib.hid (HLen_calls w9 pm bo bd [1] p aH cH (V q) (hH.hp S.M (by omega)))
            have HB := Lib.hid S.K.bel
            clear hH S
            go_wp2_with fail
            refine HLN.out.mono ?_
            rintro e w' ⟨rfl, rfl⟩
            go_wp2
            go_ret
            exact ⟨rfl, HB.out⟩
      | some g =>
        obtain ⟨gk, gt⟩ := g
        have X5 : runR [1] vw1 (V q) 5 (y, ⟨#[]⟩) = ([(gk, gt)], 0, V q) := by unfold runR; simp [hget]
        have HIN := Lib.hid (HU.out.has hget)
        have HEQ : Hid (∀ x ∈ scanL [1] vw1 (V q), x.1 = y → x = (gk, gt)) := fun x hx e => by have h := HU.out.got hx; rw [e, hget] at h; cases h; rfl
        have R5 := Run_L (q := 7) (i := 1) (k := 3) (kr := 8) 5 q p (y, ⟨#[]⟩) S.R S.V S.M (by decide) S.b.vw (by decide) HP.out (by decide) (by decide) (Or.inl (show ByteArray.size ⟨#[]⟩ ≤ 40 by decide)) (show ByteArray.size ⟨#[]⟩ ≤ 9223372036854775807 by decide) (by decide) (wfI_iff.2 (by show _ ≤ y ∧ y ≤ _; omega)) (by omega)
        rw [X5] at R5
        clear X5 hget
        refine R5.mono ?_
        clear R5
        rintro e w7 ⟨o7, aG, cG, rfl, hG, hV7, s1⟩
        simp only [put_same] at hV7
        replace S := S.ran hV7 s1
        replace hW := hW.keep s1 (by omega)
        clear hV7 s1
        dsimp only at hG ⊢
        have hb0 := S.b.c0
        have hb1 := S.b.c1
        have hb2 := S.b.c2
        dsimp only at hb0 hb1 hb2
        go_wp2_with fail
        clear hb0 hb1 hb2
        refine (Run_L (q := 9) (i := 1) (k := 3) (kr := 8) 6 q p (kind, ⟨#[]⟩) S.R S.V S.M (by decide) S.b.vw (by decide) HP.out (by decide) (by decide) (Or.inl (show ByteArray.size ⟨#[]⟩ ≤ 40 by decide)) (show ByteArray.size ⟨#[]⟩ ≤ 9223372036854775807 by decide) (by decide) (wfI_iff.2 (by show _ ≤ kind ∧ kind ≤ _; omega)) (by omega)).mono ?_
        rintro e w8 ⟨o8, aI, cI, rfl, hJ, hV8, s1⟩
        rw [runR_six] at hV8 hJ ⊢
        simp only [put_same] at hV8
        dsimp only at hJ ⊢
        replace S := S.ran hV8 s1
        replace hW := hW.keep s1 (by omega)
        replace hG := hG.keep s1 (by omega)
        clear hV8 s1
        have ND := Lib.hid HU.out.scan_nd
        have SLL := scanL_len (t := [1]) (v := vw1) (vs := V q)
        generalize scanL [1] vw1 (V q) = SC at hW hJ HIN HEQ ND SLL ⊢
        have HK := Lib.hid (And.intro S (And.intro hW (And.intro hG hJ)))
        clear S hW hG hJ
        go_wp2
        go_loopw [23, 24] (fun vf vi W => ∃ k : Nat, vi = .int .i64 k ∧ k ≤ SC.length ∧ vf = .int .i64 (cntK y SC k : Int) ∧ Hid (Gr w8 W)) (fun _ vi _ => SC.length - (RowKit.intOf vi).toNat)
        case atStart => exact ⟨0, rfl, Nat.zero_le _, rfl, Gr.refl _⟩
        case round =>
          obtain ⟨k, rfl, hk, rfl, hI⟩ := hrel
          by_cases hlt : k < SC.length
          · have hltz : (k : Int) < (SC.length : Int) := by omega
            obtain ⟨x, hx⟩ : ∃ x, SC[k]? = some x := ⟨_, List.getElem?_eq_getElem hlt⟩
            obtain ⟨gW, rfl, d0, d1⟩ := RowRow.at (HK.out.2.1.ok.gr hI.out) hx
            have mixed : Try.prog.follows .mixedOrders = true := by kernel_rfl
            by_cases he : x.1 = y
            · obtain rfl := HEQ.out x (List.mem_of_getElem? hx) he
              have CN := Lib.hid (cnt_succ (key := y) hx)
              have CL := cnt_le y ND.out k
              obtain ⟨gG, rfl, g0, g1⟩ := RowRow.at (HK.out.2.2.1.ok.gr hI.out) (k := 0) (x := (gk, gt)) rfl
              have k0 : ∀ n os, (Sort.grow (wr.drewN n) os).cell? ⟨gW, k * 2, none⟩ = some (.int .i64 gk) := fun n os => (Gr.grow wr n os).cell d0
              have k1 : ∀ n os, (Sort.grow (wr.drewN n) os).cell? ⟨gW, k * 2 + 1, none⟩ = some (.string gt) := fun n os => (Gr.grow wr n os).cell d1
              have k2 : ∀ n os, (Sort.grow (wr.drewN n) os).cell? ⟨gG, 0, none⟩ = some (.int .i64 gk) := fun n os => (Gr.grow wr n os).cell (by simpa using g0)
              have k3 : ∀ n os, (Sort.grow (wr.drewN n) os).cell? ⟨gG, 1, none⟩ = some (.string gt) := fun n os => (Gr.grow wr n os).cell (by simpa using g1)
              dsimp only at he d0 d1
              have HE2 := Lib.hid he
              have hyk : (gk == y) = true := by simp [he]
              clear hx he g0 g1
              go_wp2_with fail
              (refine wp_region_quiet_grown mixed (by kernel_rfl) ?_; (repeat (first | go_big_quiet_step (fail) | quiet_step (fail))); refine wpQuiet_nil ?_; intro _ hw'; obtain ⟨⟨nq, osq⟩, hw''⟩ := hw'; subst hw'')
              go_wp2
              go_roundw
              case rel => exact ⟨k + 1, by go_num, by omega, by rw [CN.out, if_pos HE2.out]; go_num, hI.out.trans (Gr.grow _ _ _)⟩
              case measure => simp [RowKit.intOf]; omega
            · have CN := Lib.hid (cnt_succ (key := y) hx)
              obtain ⟨xk, xt⟩ := x
              dsimp only at he d0 d1
              have hyk : (xk == y) = false := by simpa using he
              have HE2 := Lib.hid he
              clear hx he d1
              go_wp2
              go_roundw
              case rel => exact ⟨k + 1, by go_num, by omega, by rw [CN.out, if_neg HE2.out]; rfl, hI.out⟩
              case measure => simp [RowKit.intOf]; omega
          · have hltz : ¬ (k : Int) < (SC.length : Int) := by omega
            have c1 : (cntK y SC k : Int) = 1 := by have := cnt_some ND.out HIN.out.1 HIN.out.2 (i := k) (by omega); omega
            rw [c1]
            clear c1
            obtain ⟨S, hW, hG, hJ⟩ := HK.out
            replace S := S.gr hI.out
            go_wp2_with fail
            refine (r7Rows_same wr aW aI cW cI SC (by omega) (hW.ok.gr hI.out) (hJ.ok.gr hI.out)).mono ?_
            rintro e w9 ⟨rfl, hg⟩
            replace S := S.gr hg
            clear hW hG hJ hg
            go_wp2_with fail
            refine (RHeap_calls _ 8 w9 pr aR cR phs S.R q p HP.out).mono ?_
            rintro e w' ⟨rfl, rfl⟩
            obtain ⟨aH, cH, hH⟩ := S.V q p HP.out
            have HLN := Lib.hid (HLen_calls w9 pm bo bd [1] p aH cH (V q) (hH.hp S.M (by omega)))
            have HB := Lib.hid S.K.bel
            clear hH S
            go_wp2_with fail
            refine HLN.out.mono ?_
            rintro e w' ⟨rfl, rfl⟩
            go_wp2
            go_ret
            exact ⟨rfl, HB.out⟩
end Go.Proofs.Ytannjecmfbhkeaa
