/- HeapSnap: a transaction sees what was there when it began, and its own, whatever others do. -/
import Derived.Test.YtannjecmfbhkeaaSnapPure
import Derived.Test.YtannjecmfbhkeaaSmall2
import Derived.Test.YtannjecmfbhkeaaU8
import Derived.Test.YtannjecmfbhkeaaTruncates
import Derived.StillTailTactics
import Derived.RegionTactic

namespace Go.Proofs.Ytannjecmfbhkeaa
open Go Go.RowKit Go.Lib Go.Maps
def SnF (w : World) (pm bo bd ph vb : Nat) (va : Option Addr) (vc : Nat) (k : Nat) (W : World) : Prop :=
  ∃ own vs aH cH, Fst vs ∧ vs.length ≤ k ∧ K9 w own W ∧ MgrL own 1 W pm bo bd [1] ∧ HeapL own 2 W ph pm aH cH vs ∧ VBox own 3 W vb ⟨2, [1], 1⟩ va vc
def SnW (w : World) (pm bo bd ph vb : Nat) (va : Option Addr) (vc : Nat) (S : List Rw) (aS : Option Addr) (cS : Nat) (k : Nat) (W : World) : Prop :=
  ∃ own t vs aH cH, SnT t k ∧ Snp vs ∧ sortS kyR (oldL vs) = S ∧ vs.length ≤ 80 + k ∧ K9 w own W ∧ MgrL own 1 W pm bo bd t ∧ HeapL own 2 W ph pm aH cH vs ∧ VBox own 4 W vb ⟨3, [2], 2⟩ va vc ∧ RowL own 6 W aS cS S
set_option maxHeartbeats 16000000 in
set_option maxRecDepth 100000 in
theorem HeapSnap_walk (a0 : Option Addr) (n0 c0 : Nat) (a1 : Option Addr) (n1 c1 : Nat) (w : World) (h0 : ActIn w a0 n0) (h1 : ActIn w a1 n1) :
    Calls Try.prog 4 #[.slice a0 n0 c0, .slice a1 n1 c1] w fun e w' => e = .returned (.bool true) ∧ Below w.heap.size w w' := by
  have K0 := K9.start w
  have H0 := Lib.hid h0
  have H1 := Lib.hid h1
  clear h0 h1
  go_enter Try.func4, Try.ntmps4
  go_wp2_with fail
  refine (clash_calls _).mono ?_
  rintro e w0 ⟨rfl, hb⟩
  have K := K0.step (Below.stp hb 0 _ 9) (by decide)
  clear K0 hb
  go_wp2_with fail
  refine (small7_calls _ a0 n0 c0 (K.acts H0.out)).mono ?_
  rintro e w01 ⟨b0, rfl, hb0, rfl⟩
  cases b0
  · clear hb0
    go_wp2_with fail
    refine (clash_calls _).mono ?_
    rintro e w1 ⟨rfl, hb⟩
    go_wp2
    go_ret
    exact ⟨rfl, K.bel.trans (hb.mono K.bel.size)⟩
  have hn0 := hb0 rfl
  clear hb0
  go_wp2_with fail
  refine (small7_calls _ a1 n1 c1 (K.acts H1.out)).mono ?_
  rintro e w02 ⟨b1, rfl, hb1, rfl⟩
  cases b1
  · clear hb1
    go_wp2_with fail
    refine (clash_calls _).mono ?_
    rintro e w1 ⟨rfl, hb⟩
    go_wp2
    go_ret
    exact ⟨rfl, K.bel.trans (hb.mono K.bel.size)⟩
  have hn1 := hb1 rfl
  clear hb1
  go_wp2_with fail
  refine (TxNew_L (lab (fun _ => 9) w.heap.size 9) 1 _).mono ?_
  rintro e w1 ⟨o1, pm, bo, bd, rfl, hM, s1⟩
  replace K := K.step s1 (by decide)
  clear s1
  go_wp2_with fail
  refine (HNew_L o1 2 _ pm).mono ?_
  rintro e w2 ⟨o2, ph, rfl, hH, s1⟩
  replace K := K.step s1 (by decide)
  replace hM := hM.keep s1 (by decide)
  clear s1
  go_wp2_with fail
  refine (Begin_L o2 1 _ pm bo bd _ hM).mono ?_
  rintro e w3 ⟨he, hM0, s1⟩
  obtain rfl : e = .returned (.tuple #[.int .i64 1, .int .i64 0]) := he
  replace K := K.step s1 (by decide)
  replace hH := hH.keep s1 (by decide)
  replace hM : MgrL o2 1 w3 pm bo bd [1] := hM0
  clear s1 hM0
  go_wp2_with fail
  refine (Now_L o2 1 3 _ pm bo bd _ hM).mono ?_
  rintro e w4 ⟨o4, a_hv, c_hv, he, hv0, s1⟩
  obtain rfl : e = .returned (.agg #[.int .i64 2, .slice a_hv 1 c_hv]) := he
  replace K := K.step s1 (by decide)
  replace hM := hM.keep s1 (by decide)
  replace hH := hH.keep s1 (by decide)
  have hv : ViewL o4 3 w4 ⟨2, [1], 1⟩ a_hv c_hv := hv0 1
  clear s1 hv0
  go_wp2_with fail
  obtain ⟨o5, w5, vb, hw, hvb, hb, s1⟩ := VBox.new hv
  dsimp only [List.length] at hw
  rw [hw, hvb]
  clear hw hvb
  replace K := K.step s1 (by decide)
  replace hM := hM.keep s1 (by decide)
  replace hH := hH.keep s1 (by decide)
  replace hv := hv.keep s1 (by decide)
  clear s1
  have HI : Hid (SnF w pm bo bd ph vb a_hv c_hv 0 w5) := ⟨_, [], _, _, Fst.nil, Nat.le_refl _, K, hM, hH, hb⟩
  clear K hM hH hb hv
  go_loopw [10] (fun vi W => ∃ k : Nat, vi = .int .i64 k ∧ k ≤ n0 ∧ Hid (SnF w pm bo bd ph vb a_hv c_hv k W)) (fun vi _ => n0 - (RowKit.intOf vi).toNat)
  case atStart => exact ⟨0, rfl, Nat.zero_le _, HI⟩
  case round =>
    obtain ⟨k, rfl, hk, hI⟩ := hrel
    by_cases hlt : k < n0
    · have hltz : (k : Int) < (n0 : Int) := by omega
      obtain ⟨own, vs, aH, cH, hT, hl, K, hM, hH, hb⟩ := hI.out
      obtain ⟨x, rfl, hx⟩ := H0.out.at hlt
      obtain ⟨d, q, z, s, _, _, e2, e3, _, _, hwz, _⟩ := K.act hx
      have hw2 := wfI_iff.1 hwz
      have hbd : -9 < z.tmod 9 ∧ z.tmod 9 < 9 := tmod_bd z 9 (by decide)
      have hb0 := hb.c0
      have hb1 := hb.c1
      have hb2 := hb.c2
      dsimp only at hb0 hb1 hb2
      have HK := Lib.hid (And.intro K (And.intro hM (And.intro hH hb)))
      have HT := Lib.hid hT
      clear hI hx K hM hH hb hwz hT
      go_wp2_with fail
      go_still_tail 14, (by kernel_rfl)
      change wpList _ _ _ _ _ wr.drew
      have hg : Gr wr wr.drew := Gr.drew wr
      generalize wr.drew = w5 at hg
      have s1 := hg.stp 0 own
      obtain ⟨K, hM, hH, hb⟩ := HK.out
      replace K := K.step s1 (by decide)
      replace hM := hM.keep s1 (by decide)
      replace hH := hH.keep s1 (by decide)
      replace hb := hb.keep s1 (by decide)
      clear s1 hg HK
      go_wp2_with fail
      refine (Insert_L (r := (z.tmod 9, s)) (hM := hM) (hH := hH) (hij := by decide) (hv := hb.vw) (ho := by decide) (hr := wfI_iff.2 (by show _ ≤ z.tmod 9 ∧ z.tmod 9 ≤ _; omega)) (hlim := by omega)).mono ?_
      rintro e w6 ⟨rfl, o6, aH2, cH2, hH0, s1⟩
      have hI := HT.out.ins (t := [1]) (mx := 2) (op := [1]) (r := (z.tmod 9, s))
      have HI2 : Hid (SnF w pm bo bd ph vb a_hv c_hv (k + 1) w6) := ⟨_, _, _, _, hI.1, Nat.le_trans hI.2 (by omega), K.step s1 (by decide), hM.keep s1 (by decide), hH0, hb.keep s1 (by decide)⟩
      clear K hM hH hb s1 hH0 hI HT hl
      go_wp2
      go_roundw
      case rel => exact ⟨k + 1, by go_num, by omega, HI2⟩
      case measure => simp [RowKit.intOf]; omega
    · have hltz : ¬ (k : Int) < (n0 : Int) := by omega
      obtain ⟨own, vs, aH, cH, hT, hl, K, hM, hH, hb⟩ := hI.out
      have HT := Lib.hid hT
      clear hI hT
      have hb0 := hb.c0
      have hb1 := hb.c1
      have hb2 := hb.c2
      dsimp only at hb0 hb1 hb2
      have hb3 := World.block_lt_of_cell? _ _ hb0
      dsimp only at hb3
      go_wp2_with fail
      clear hb0 hb1 hb2 hb3
      refine (Commit_L own 1 _ pm bo bd _ (1) hM (by decide)).mono ?_
      rintro e w21 ⟨he, hM0, s1⟩
      obtain rfl : e = .returned (.int .i64 0) := he
      replace K := K.step s1 (by decide)
      replace hH := hH.keep s1 (by decide)
      replace hb := hb.keep s1 (by decide)
      replace hM : MgrL own 1 w21 pm bo bd [2] := hM0
      clear s1 hM0
      have hb0 := hb.c0
      have hb1 := hb.c1
      have hb2 := hb.c2
      dsimp only at hb0 hb1 hb2
      have hb3 := World.block_lt_of_cell? _ _ hb0
      dsimp only at hb3
      go_wp2_with fail
      clear hb0 hb1 hb2 hb3
      refine (Begin_L own 1 _ pm bo bd _ hM).mono ?_
      rintro e w22 ⟨he, hM0, s1⟩
      obtain rfl : e = .returned (.tuple #[.int .i64 2, .int .i64 0]) := he
      replace K := K.step s1 (by decide)
      replace hH := hH.keep s1 (by decide)
      replace hb := hb.keep s1 (by decide)
      replace hM : MgrL own 1 w22 pm bo bd [2, 1] := hM0
      clear s1 hM0
      have hb0 := hb.c0
      have hb1 := hb.c1
      have hb2 := hb.c2
      dsimp only at hb0 hb1 hb2
      have hb3 := World.block_lt_of_cell? _ _ hb0
      dsimp only at hb3
      go_wp2_with fail
      clear hb0 hb1 hb2 hb3
      refine (Now_L own 1 4 _ pm bo bd _ hM).mono ?_
      rintro e w23 ⟨o23, a_hw, c_hw, he, hv0, s1⟩
      obtain rfl : e = .returned (.agg #[.int .i64 3, .slice a_hw 1 c_hw]) := he
      replace K := K.step s1 (by decide)
      replace hM := hM.keep s1 (by decide)
      replace hH := hH.keep s1 (by decide)
      replace hb := hb.keep s1 (by decide)
      have hw : ViewL o23 4 w23 ⟨3, [2], 2⟩ a_hw c_hw := hv0 2
      clear s1 hv0
      have hb0 := hb.c0
      have hb1 := hb.c1
      have hb2 := hb.c2
      dsimp only at hb0 hb1 hb2
      have hb3 := World.block_lt_of_cell? _ _ hb0
      dsimp only at hb3
      go_wp2_with fail
      clear hb0 hb1 hb2 hb3
      obtain ⟨o24, w24, vc, hw, hvb, hc, s1⟩ := VBox.new hw
      dsimp only [List.length] at hw
      rw [hw, hvb]
      clear hw hvb
      replace K := K.step s1 (by decide)
      replace hM := hM.keep s1 (by decide)
      replace hH := hH.keep s1 (by decide)
      replace hb := hb.keep s1 (by decide)
      replace hw := hw.keep s1 (by decide)
      clear s1
      clear hb hw
      refine (Scan_L (q := 6) (hM := hM) (hH := hH) (hij := by decide) (hv := hc.vw)).mono ?_
      rintro e w25 ⟨o25, aS, cS, rfl, hS, s1⟩
      replace K := K.step s1 (by decide)
      replace hM := hM.keep s1 (by decide)
      replace hH := hH.keep s1 (by decide)
      replace hc := hc.keep s1 (by decide)
      clear s1
      have SL := scanL_len (t := [2, 1]) (v := ⟨3, [2], 2⟩) (vs := vs)
      have SE := snp_scan (t := [2, 1]) HT.out.snp rfl
      generalize scanL [2, 1] ⟨3, [2], 2⟩ vs = S at hS SL SE ⊢
      have HI : Hid (SnW w pm bo bd ph vc a_hw c_hw S aS cS 0 w25) := ⟨_, _, vs, _, _, SnT.start, HT.out.snp, SE.symm, by omega, K, hM, hH, hc, hS⟩
      clear K hM hH hc hS SE
      go_wp2
      go_loopw [15] (fun vi W => ∃ k : Nat, vi = .int .i64 k ∧ k ≤ n1 ∧ Hid (SnW w pm bo bd ph vc a_hw c_hw S aS cS k W)) (fun vi _ => n1 - (RowKit.intOf vi).toNat)
      case atStart => exact ⟨0, rfl, Nat.zero_le _, HI⟩
      case round =>
        clear HI
        obtain ⟨k, rfl, hk, hI⟩ := hrel
        by_cases hlt : k < n1
        · have hltz : (k : Int) < (n1 : Int) := by omega
          obtain ⟨own, t, vs, aH, cH, hT, hN, hE, hl, K, hM, hH, hc, hS⟩ := hI.out
          obtain ⟨x, rfl, hx⟩ := H1.out.at hlt
          have HX := Lib.hid hx
          have HT := Lib.hid hT
          have HN := Lib.hid hN
          have HE := Lib.hid hE
          clear hI hx hT hN hE
          have hc0 := hc.c0
          have hc1 := hc.c1
          have hc2 := hc.c2
          dsimp only at hc0 hc1 hc2
          have hc3 := World.block_lt_of_cell? _ _ hc0
          dsimp only at hc3
          go_wp2_with fail
          clear hc0 hc1 hc2 hc3
          refine (Begin_L own 1 _ pm bo bd _ hM).mono ?_
          rintro e w41 ⟨he, hM0, s1⟩
          obtain rfl : e = .returned (.tuple #[.int .i64 ((k : Int) + 3), .int .i64 0]) := he.trans (by rw [HT.out.bN (by omega), HT.out.bE (by omega)])
          replace K := K.step s1 (by decide)
          replace hH := hH.keep s1 (by decide)
          replace hc := hc.keep s1 (by decide)
          replace hS := hS.keep s1 (by decide)
          rw [HT.out.bT (by omega)] at hM0
          replace hM := hM0
          clear s1 hM0
          have hc0 := hc.c0
          have hc1 := hc.c1
          have hc2 := hc.c2
          dsimp only at hc0 hc1 hc2
          have hc3 := World.block_lt_of_cell? _ _ hc0
          dsimp only at hc3
          go_wp2_with fail
          clear hc0 hc1 hc2 hc3
          refine (Now_L own 1 5 _ pm bo bd _ hM).mono ?_
          rintro e w42 ⟨o42, a_hu, c_hu, he, hv0, s1⟩
          have hu := hv0 ((k : Int) + 3)
          have hn4 : (((t ++ [1]).length : Nat) : Int) + 1 = (k : Int) + 4 := by rw [List.length_append, HT.out.len]; simp; omega
          rw [hn4, HT.out.opn1] at he hu
          obtain rfl : e = .returned (.agg #[.int .i64 ((k : Int) + 4), .slice a_hu 2 c_hu]) := he
          replace K := K.step s1 (by decide)
          replace hM := hM.keep s1 (by decide)
          replace hH := hH.keep s1 (by decide)
          replace hc := hc.keep s1 (by decide)
          replace hS := hS.keep s1 (by decide)
          clear s1 hv0 hn4
          have hc0 := hc.c0
          have hc1 := hc.c1
          have hc2 := hc.c2
          dsimp only at hc0 hc1 hc2
          have hc3 := World.block_lt_of_cell? _ _ hc0
          dsimp only at hc3
          go_wp2_with fail
          clear hc0 hc1 hc2 hc3
          obtain ⟨o43, w43, vd, hw, hvb, hd, s1⟩ := VBox.new hu
          dsimp only [List.length] at hw
          rw [hw, hvb]
          clear hw hvb
          replace K := K.step s1 (by decide)
          replace hM := hM.keep s1 (by decide)
          replace hH := hH.keep s1 (by decide)
          replace hc := hc.keep s1 (by decide)
          replace hS := hS.keep s1 (by decide)
          replace hu := hu.keep s1 (by decide)
          clear s1
          obtain ⟨d, q, z, s, f0, f1, f2, f3, hd8, hq8, hwz, _⟩ := HX.out
          have hw2 := wfI_iff.1 hwz
          have hbd : -9 < z.tmod 9 ∧ z.tmod 9 < 9 := tmod_bd z 9 (by decide)
          obtain ⟨hd8a, hd8b⟩ := hd8
          obtain ⟨hq8a, hq8b⟩ := hq8
          have e2 := K.cell f2
          have e3 := K.cell f3
          have HF := Lib.hid (And.intro f0 f1)
          have e0 := K.cell f0
          have el2 := World.block_lt_of_cell? _ _ e0
          clear f0 f1 f2 f3 HX
          have hc0 := hc.c0
          have hc1 := hc.c1
          have hc2 := hc.c2
          dsimp only at hc0 hc1 hc2
          have hc3 := World.block_lt_of_cell? _ _ hc0
          dsimp only at hc3
          have hd0 := hd.c0
          have hd1 := hd.c1
          have hd2 := hd.c2
          dsimp only at hd0 hd1 hd2
          have hd3 := World.block_lt_of_cell? _ _ hd0
          dsimp only at hd3
          go_wp2_with fail
          go_region
          go_wp2_with fail
          · skip
            clear hc0 hc1 hc2 hc3
            clear hd0 hd1 hd2 hd3
            clear e0 el2 e2 e3
            have hg := (Gr.alloc w43 (.cells #[.int .i64 (z.tmod 9), .string s] 38)).trans (Gr.drew _)
            generalize (w43.alloc (.cells #[.int .i64 (z.tmod 9), .string s] 38)).drew = wa at hg ⊢
            have s1 := hg.stp 0 o43
            replace K := K.step s1 (by decide)
            replace hM := hM.keep s1 (by decide)
            replace hH := hH.keep s1 (by decide)
            replace hc := hc.keep s1 (by decide)
            replace hS := hS.keep s1 (by decide)
            replace hu := hu.keep s1 (by decide)
            replace hd := hd.keep s1 (by decide)
            clear s1 hg
            refine (Insert_L (r := (z.tmod 9, s)) (hM := hM) (hH := hH) (hij := by decide) (hv := hd.vw) (ho := wfI_iff.2 (by show _ ≤ (k : Int) + 3 ∧ (k : Int) + 3 ≤ _; omega)) (hr := wfI_iff.2 (by show _ ≤ z.tmod 9 ∧ z.tmod 9 ≤ _; omega)) (hlim := by omega)).mono ?_
            rintro e w44 ⟨rfl, o44, a_hH, c_hH, hH0, s1⟩
            have HS2 := Lib.hid (SnS.ins (t := t ++ [1]) (v := ⟨(k : Int) + 4, [2, (k : Int) + 3], (k : Int) + 3⟩) (r := (z.tmod 9, s)) HN.out (by show 3 ≤ (k : Int) + 3; omega))
            replace K := K.step s1 (by decide)
            replace hM := hM.keep s1 (by decide)
            replace hc := hc.keep s1 (by decide)
            replace hS := hS.keep s1 (by decide)
            replace hu := hu.keep s1 (by decide)
            replace hd := hd.keep s1 (by decide)
            replace hH := hH0
            clear s1 hH0
            have e1 := K.cell HF.out.2
            have hc0 := hc.c0
            have hc1 := hc.c1
            have hc2 := hc.c2
            dsimp only at hc0 hc1 hc2
            have hc3 := World.block_lt_of_cell? _ _ hc0
            dsimp only at hc3
            have hd0 := hd.c0
            have hd1 := hd.c1
            have hd2 := hd.c2
            dsimp only at hd0 hd1 hd2
            have hd3 := World.block_lt_of_cell? _ _ hd0
            dsimp only at hd3
            go_wp2_with fail
            · skip
              clear hc0 hc1 hc2 hc3
              clear hd0 hd1 hd2 hd3
              clear e1
              refine (Abort_L o44 1 _ pm bo bd _ ((k : Int) + 3) hM (wfI_iff.2 (by omega))).mono ?_
              rintro e w45 ⟨he, hM0, s1⟩
              obtain rfl : e = .returned (.int .i64 0) := he.trans (by rw [HT.out.eE])
              rw [HT.out.eT] at hM0
              replace K := K.step s1 (by decide)
              replace hH := hH.keep s1 (by decide)
              replace hc := hc.keep s1 (by decide)
              replace hS := hS.keep s1 (by decide)
              replace hu := hu.keep s1 (by decide)
              replace hd := hd.keep s1 (by decide)
              replace hM := hM0
              clear s1 hM0
              have hc0 := hc.c0
              have hc1 := hc.c1
              have hc2 := hc.c2
              dsimp only at hc0 hc1 hc2
              have hc3 := World.block_lt_of_cell? _ _ hc0
              dsimp only at hc3
              have hd0 := hd.c0
              have hd1 := hd.c1
              have hd2 := hd.c2
              dsimp only at hd0 hd1 hd2
              have hd3 := World.block_lt_of_cell? _ _ hd0
              dsimp only at hd3
              go_wp2_with fail
              clear hc0 hc1 hc2 hc3
              clear hd0 hd1 hd2 hd3
              refine (Scan_L (q := 7) (hM := hM) (hH := hH) (hij := by decide) (hv := hc.vw)).mono ?_
              rintro e w46 ⟨o46, aN, cN, rfl, hN, s1⟩
              replace K := K.step s1 (by decide)
              replace hM := hM.keep s1 (by decide)
              replace hH := hH.keep s1 (by decide)
              replace hc := hc.keep s1 (by decide)
              replace hS := hS.keep s1 (by decide)
              replace hu := hu.keep s1 (by decide)
              replace hd := hd.keep s1 (by decide)
              clear s1
              rw [snp_scan HS2.out.s HT.out.one', HS2.out.o, HE.out] at hN ⊢
              have hc0 := hc.c0
              have hc1 := hc.c1
              have hc2 := hc.c2
              dsimp only at hc0 hc1 hc2
              have hc3 := World.block_lt_of_cell? _ _ hc0
              dsimp only at hc3
              have hd0 := hd.c0
              have hd1 := hd.c1
              have hd2 := hd.c2
              dsimp only at hd0 hd1 hd2
              have hd3 := World.block_lt_of_cell? _ _ hd0
              dsimp only at hd3
              go_wp2_with fail
              clear hc0 hc1 hc2 hc3
              clear hd0 hd1 hd2 hd3
              refine (rows_same _ aN aS cN cS S (by omega) hN.ok hS.ok).mono ?_
              rintro e wE ⟨rfl, hg⟩
              have s1 := hg.stp 0 o46
              clear hN
              replace K := K.step s1 (by decide)
              replace hM := hM.keep s1 (by decide)
              replace hH := hH.keep s1 (by decide)
              replace hc := hc.keep s1 (by decide)
              replace hS := hS.keep s1 (by decide)
              replace hu := hu.keep s1 (by decide)
              replace hd := hd.keep s1 (by decide)
              clear s1 hg
              have HI2 : Hid (SnW w pm bo bd ph vc a_hw c_hw S aS cS (k + 1) wE) := ⟨_, _, _, _, _, HT.out.next (s := 3) (by decide), HS2.out.s, by rw [HS2.out.o, HE.out], by have := HS2.out.l; omega, K, hM, hH, hc, hS⟩
              clear K hM hH hc hS hu hd HF
              go_wp2
              go_roundw
              case rel => exact ⟨k + 1, by go_num, by omega, HI2⟩
              case measure => simp [RowKit.intOf]; omega
            · skip
              clear hc0 hc1 hc2 hc3
              clear hd0 hd1 hd2 hd3
              clear e1
              refine (Commit_L o44 1 _ pm bo bd _ ((k : Int) + 3) hM (wfI_iff.2 (by omega))).mono ?_
              rintro e w45 ⟨he, hM0, s1⟩
              obtain rfl : e = .returned (.int .i64 0) := he.trans (by rw [HT.out.eE])
              rw [HT.out.eT] at hM0
              replace K := K.step s1 (by decide)
              replace hH := hH.keep s1 (by decide)
              replace hc := hc.keep s1 (by decide)
              replace hS := hS.keep s1 (by decide)
              replace hu := hu.keep s1 (by decide)
              replace hd := hd.keep s1 (by decide)
              replace hM := hM0
              clear s1 hM0
              have hc0 := hc.c0
              have hc1 := hc.c1
              have hc2 := hc.c2
              dsimp only at hc0 hc1 hc2
              have hc3 := World.block_lt_of_cell? _ _ hc0
              dsimp only at hc3
              have hd0 := hd.c0
              have hd1 := hd.c1
              have hd2 := hd.c2
              dsimp only at hd0 hd1 hd2
              have hd3 := World.block_lt_of_cell? _ _ hd0
              dsimp only at hd3
              go_wp2_with fail
              clear hc0 hc1 hc2 hc3
              clear hd0 hd1 hd2 hd3
              refine (Scan_L (q := 7) (hM := hM) (hH := hH) (hij := by decide) (hv := hc.vw)).mono ?_
              rintro e w46 ⟨o46, aN, cN, rfl, hN, s1⟩
              replace K := K.step s1 (by decide)
              replace hM := hM.keep s1 (by decide)
              replace hH := hH.keep s1 (by decide)
              replace hc := hc.keep s1 (by decide)
              replace hS := hS.keep s1 (by decide)
              replace hu := hu.keep s1 (by decide)
              replace hd := hd.keep s1 (by decide)
              clear s1
              rw [snp_scan HS2.out.s HT.out.one', HS2.out.o, HE.out] at hN ⊢
              have hc0 := hc.c0
              have hc1 := hc.c1
              have hc2 := hc.c2
              dsimp only at hc0 hc1 hc2
              have hc3 := World.block_lt_of_cell? _ _ hc0
              dsimp only at hc3
              have hd0 := hd.c0
              have hd1 := hd.c1
              have hd2 := hd.c2
              dsimp only at hd0 hd1 hd2
              have hd3 := World.block_lt_of_cell? _ _ hd0
              dsimp only at hd3
              go_wp2_with fail
              clear hc0 hc1 hc2 hc3
              clear hd0 hd1 hd2 hd3
              refine (rows_same _ aN aS cN cS S (by omega) hN.ok hS.ok).mono ?_
              rintro e wE ⟨rfl, hg⟩
              have s1 := hg.stp 0 o46
              clear hN
              replace K := K.step s1 (by decide)
              replace hM := hM.keep s1 (by decide)
              replace hH := hH.keep s1 (by decide)
              replace hc := hc.keep s1 (by decide)
              replace hS := hS.keep s1 (by decide)
              replace hu := hu.keep s1 (by decide)
              replace hd := hd.keep s1 (by decide)
              clear s1 hg
              have HI2 : Hid (SnW w pm bo bd ph vc a_hw c_hw S aS cS (k + 1) wE) := ⟨_, _, _, _, _, HT.out.next (s := 2) (by decide), HS2.out.s, by rw [HS2.out.o, HE.out], by have := HS2.out.l; omega, K, hM, hH, hc, hS⟩
              clear K hM hH hc hS hu hd HF
              go_wp2
              go_roundw
              case rel => exact ⟨k + 1, by go_num, by omega, HI2⟩
              case measure => simp [RowKit.intOf]; omega
          · skip
            clear hc0 hc1 hc2 hc3
            clear hd0 hd1 hd2 hd3
            clear e0 el2 e2 e3
            have hg := (Gr.alloc w43 (.cells #[.int .i64 (z.tmod 9), .string s] 38)).trans (Gr.drew _)
            generalize (w43.alloc (.cells #[.int .i64 (z.tmod 9), .string s] 38)).drew = wa at hg ⊢
            have s1 := hg.stp 0 o43
            replace K := K.step s1 (by decide)
            replace hM := hM.keep s1 (by decide)
            replace hH := hH.keep s1 (by decide)
            replace hc := hc.keep s1 (by decide)
            replace hS := hS.keep s1 (by decide)
            replace hu := hu.keep s1 (by decide)
            replace hd := hd.keep s1 (by decide)
            clear s1 hg
            refine (Update_L (r := (z.tmod 9, s)) (hM := hM) (hH := hH) (hij := by decide) (hv := hd.vw) (ho := wfI_iff.2 (by show _ ≤ (k : Int) + 3 ∧ (k : Int) + 3 ≤ _; omega)) (hr := wfI_iff.2 (by show _ ≤ z.tmod 9 ∧ z.tmod 9 ≤ _; omega)) (hlim := by omega)).mono ?_
            rintro e w44 ⟨rfl, o44, a_hH, c_hH, hH0, s1⟩
            have HS2 := Lib.hid (SnS.upd (t := t ++ [1]) (v := ⟨(k : Int) + 4, [2, (k : Int) + 3], (k : Int) + 3⟩) (r := (z.tmod 9, s)) HN.out (by show 3 ≤ (k : Int) + 3; omega))
            replace K := K.step s1 (by decide)
            replace hM := hM.keep s1 (by decide)
            replace hc := hc.keep s1 (by decide)
            replace hS := hS.keep s1 (by decide)
            replace hu := hu.keep s1 (by decide)
            replace hd := hd.keep s1 (by decide)
            replace hH := hH0
            clear s1 hH0
            have e1 := K.cell HF.out.2
            have hc0 := hc.c0
            have hc1 := hc.c1
            have hc2 := hc.c2
            dsimp only at hc0 hc1 hc2
            have hc3 := World.block_lt_of_cell? _ _ hc0
            dsimp only at hc3
            have hd0 := hd.c0
            have hd1 := hd.c1
            have hd2 := hd.c2
            dsimp only at hd0 hd1 hd2
            have hd3 := World.block_lt_of_cell? _ _ hd0
            dsimp only at hd3
            go_wp2_with fail
            · skip
              clear hc0 hc1 hc2 hc3
              clear hd0 hd1 hd2 hd3
              clear e1
              refine (Abort_L o44 1 _ pm bo bd _ ((k : Int) + 3) hM (wfI_iff.2 (by omega))).mono ?_
              rintro e w45 ⟨he, hM0, s1⟩
              obtain rfl : e = .returned (.int .i64 0) := he.trans (by rw [HT.out.eE])
              rw [HT.out.eT] at hM0
              replace K := K.step s1 (by decide)
              replace hH := hH.keep s1 (by decide)
              replace hc := hc.keep s1 (by decide)
              replace hS := hS.keep s1 (by decide)
              replace hu := hu.keep s1 (by decide)
              replace hd := hd.keep s1 (by decide)
              replace hM := hM0
              clear s1 hM0
              have hc0 := hc.c0
              have hc1 := hc.c1
              have hc2 := hc.c2
              dsimp only at hc0 hc1 hc2
              have hc3 := World.block_lt_of_cell? _ _ hc0
              dsimp only at hc3
              have hd0 := hd.c0
              have hd1 := hd.c1
              have hd2 := hd.c2
              dsimp only at hd0 hd1 hd2
              have hd3 := World.block_lt_of_cell? _ _ hd0
              dsimp only at hd3
              go_wp2_with fail
              clear hc0 hc1 hc2 hc3
              clear hd0 hd1 hd2 hd3
              refine (Scan_L (q := 7) (hM := hM) (hH := hH) (hij := by decide) (hv := hc.vw)).mono ?_
              rintro e w46 ⟨o46, aN, cN, rfl, hN, s1⟩
              replace K := K.step s1 (by decide)
              replace hM := hM.keep s1 (by decide)
              replace hH := hH.keep s1 (by decide)
              replace hc := hc.keep s1 (by decide)
              replace hS := hS.keep s1 (by decide)
              replace hu := hu.keep s1 (by decide)
              replace hd := hd.keep s1 (by decide)
              clear s1
              rw [snp_scan HS2.out.s HT.out.one', HS2.out.o, HE.out] at hN ⊢
              have hc0 := hc.c0
              have hc1 := hc.c1
              have hc2 := hc.c2
              dsimp only at hc0 hc1 hc2
              have hc3 := World.block_lt_of_cell? _ _ hc0
              dsimp only at hc3
              have hd0 := hd.c0
              have hd1 := hd.c1
              have hd2 := hd.c2
              dsimp only at hd0 hd1 hd2
              have hd3 := World.block_lt_of_cell? _ _ hd0
              dsimp only at hd3
              go_wp2_with fail
              clear hc0 hc1 hc2 hc3
              clear hd0 hd1 hd2 hd3
              refine (rows_same _ aN aS cN cS S (by omega) hN.ok hS.ok).mono ?_
              rintro e wE ⟨rfl, hg⟩
              have s1 := hg.stp 0 o46
              clear hN
              replace K := K.step s1 (by decide)
              replace hM := hM.keep s1 (by decide)
              replace hH := hH.keep s1 (by decide)
              replace hc := hc.keep s1 (by decide)
              replace hS := hS.keep s1 (by decide)
              replace hu := hu.keep s1 (by decide)
              replace hd := hd.keep s1 (by decide)
              clear s1 hg
              have HI2 : Hid (SnW w pm bo bd ph vc a_hw c_hw S aS cS (k + 1) wE) := ⟨_, _, _, _, _, HT.out.next (s := 3) (by decide), HS2.out.s, by rw [HS2.out.o, HE.out], by have := HS2.out.l; omega, K, hM, hH, hc, hS⟩
              clear K hM hH hc hS hu hd HF
              go_wp2
              go_roundw
              case rel => exact ⟨k + 1, by go_num, by omega, HI2⟩
              case measure => simp [RowKit.intOf]; omega
            · skip
              clear hc0 hc1 hc2 hc3
              clear hd0 hd1 hd2 hd3
              clear e1
              refine (Commit_L o44 1 _ pm bo bd _ ((k : Int) + 3) hM (wfI_iff.2 (by omega))).mono ?_
              rintro e w45 ⟨he, hM0, s1⟩
              obtain rfl : e = .returned (.int .i64 0) := he.trans (by rw [HT.out.eE])
              rw [HT.out.eT] at hM0
              replace K := K.step s1 (by decide)
              replace hH := hH.keep s1 (by decide)
              replace hc := hc.keep s1 (by decide)
              replace hS := hS.keep s1 (by decide)
              replace hu := hu.keep s1 (by decide)
              replace hd := hd.keep s1 (by decide)
              replace hM := hM0
              clear s1 hM0
              have hc0 := hc.c0
              have hc1 := hc.c1
              have hc2 := hc.c2
              dsimp only at hc0 hc1 hc2
              have hc3 := World.block_lt_of_cell? _ _ hc0
              dsimp only at hc3
              have hd0 := hd.c0
              have hd1 := hd.c1
              have hd2 := hd.c2
              dsimp only at hd0 hd1 hd2
              have hd3 := World.block_lt_of_cell? _ _ hd0
              dsimp only at hd3
              go_wp2_with fail
              clear hc0 hc1 hc2 hc3
              clear hd0 hd1 hd2 hd3
              refine (Scan_L (q := 7) (hM := hM) (hH := hH) (hij := by decide) (hv := hc.vw)).mono ?_
              rintro e w46 ⟨o46, aN, cN, rfl, hN, s1⟩
              replace K := K.step s1 (by decide)
              replace hM := hM.keep s1 (by decide)
              replace hH := hH.keep s1 (by decide)
              replace hc := hc.keep s1 (by decide)
              replace hS := hS.keep s1 (by decide)
              replace hu := hu.keep s1 (by decide)
              replace hd := hd.keep s1 (by decide)
              clear s1
              rw [snp_scan HS2.out.s HT.out.one', HS2.out.o, HE.out] at hN ⊢
              have hc0 := hc.c0
              have hc1 := hc.c1
              have hc2 := hc.c2
              dsimp only at hc0 hc1 hc2
              have hc3 := World.block_lt_of_cell? _ _ hc0
              dsimp only at hc3
              have hd0 := hd.c0
              have hd1 := hd.c1
              have hd2 := hd.c2
              dsimp only at hd0 hd1 hd2
              have hd3 := World.block_lt_of_cell? _ _ hd0
              dsimp only at hd3
              go_wp2_with fail
              clear hc0 hc1 hc2 hc3
              clear hd0 hd1 hd2 hd3
              refine (rows_same _ aN aS cN cS S (by omega) hN.ok hS.ok).mono ?_
              rintro e wE ⟨rfl, hg⟩
              have s1 := hg.stp 0 o46
              clear hN
              replace K := K.step s1 (by decide)
              replace hM := hM.keep s1 (by decide)
              replace hH := hH.keep s1 (by decide)
              replace hc := hc.keep s1 (by decide)
              replace hS := hS.keep s1 (by decide)
              replace hu := hu.keep s1 (by decide)
              replace hd := hd.keep s1 (by decide)
              clear s1 hg
              have HI2 : Hid (SnW w pm bo bd ph vc a_hw c_hw S aS cS (k + 1) wE) := ⟨_, _, _, _, _, HT.out.next (s := 2) (by decide), HS2.out.s, by rw [HS2.out.o, HE.out], by have := HS2.out.l; omega, K, hM, hH, hc, hS⟩
              clear K hM hH hc hS hu hd HF
              go_wp2
              go_roundw
              case rel => exact ⟨k + 1, by go_num, by omega, HI2⟩
              case measure => simp [RowKit.intOf]; omega
          · skip
            clear hc0 hc1 hc2 hc3
            clear hd0 hd1 hd2 hd3
            clear e0 el2 e2 e3
            have hg := (Gr.alloc w43 (.cells #[.int .i64 (z.tmod 9), .string s] 38)).trans (Gr.drew _)
            generalize (w43.alloc (.cells #[.int .i64 (z.tmod 9), .string s] 38)).drew = wa at hg ⊢
            have s1 := hg.stp 0 o43
            replace K := K.step s1 (by decide)
            replace hM := hM.keep s1 (by decide)
            replace hH := hH.keep s1 (by decide)
            replace hc := hc.keep s1 (by decide)
            replace hS := hS.keep s1 (by decide)
            replace hu := hu.keep s1 (by decide)
            replace hd := hd.keep s1 (by decide)
            clear s1 hg
            refine (Delete_L (key := z.tmod 9) (hM := hM) (hH := hH) (hij := by decide) (hv := hd.vw) (ho := wfI_iff.2 (by show _ ≤ (k : Int) + 3 ∧ (k : Int) + 3 ≤ _; omega))).mono ?_
            rintro e w44 ⟨rfl, o44, a_hH, c_hH, hH0, s1⟩
            have HS2 := Lib.hid (SnS.kill (t := t ++ [1]) (v := ⟨(k : Int) + 4, [2, (k : Int) + 3], (k : Int) + 3⟩) (k := z.tmod 9) HN.out (by show 3 ≤ (k : Int) + 3; omega))
            replace K := K.step s1 (by decide)
            replace hM := hM.keep s1 (by decide)
            replace hc := hc.keep s1 (by decide)
            replace hS := hS.keep s1 (by decide)
            replace hu := hu.keep s1 (by decide)
            replace hd := hd.keep s1 (by decide)
            replace hH := hH0
            clear s1 hH0
            have e1 := K.cell HF.out.2
            have hc0 := hc.c0
            have hc1 := hc.c1
            have hc2 := hc.c2
            dsimp only at hc0 hc1 hc2
            have hc3 := World.block_lt_of_cell? _ _ hc0
            dsimp only at hc3
            have hd0 := hd.c0
            have hd1 := hd.c1
            have hd2 := hd.c2
            dsimp only at hd0 hd1 hd2
            have hd3 := World.block_lt_of_cell? _ _ hd0
            dsimp only at hd3
            go_wp2_with fail
            · skip
              clear hc0 hc1 hc2 hc3
              clear hd0 hd1 hd2 hd3
              clear e1
              refine (Abort_L o44 1 _ pm bo bd _ ((k : Int) + 3) hM (wfI_iff.2 (by omega))).mono ?_
              rintro e w45 ⟨he, hM0, s1⟩
              obtain rfl : e = .returned (.int .i64 0) := he.trans (by rw [HT.out.eE])
              rw [HT.out.eT] at hM0
              replace K := K.step s1 (by decide)
              replace hH := hH.keep s1 (by decide)
              replace hc := hc.keep s1 (by decide)
              replace hS := hS.keep s1 (by decide)
              replace hu := hu.keep s1 (by decide)
              replace hd := hd.keep s1 (by decide)
              replace hM := hM0
              clear s1 hM0
              have hc0 := hc.c0
              have hc1 := hc.c1
              have hc2 := hc.c2
              dsimp only at hc0 hc1 hc2
              have hc3 := World.block_lt_of_cell? _ _ hc0
              dsimp only at hc3
              have hd0 := hd.c0
              have hd1 := hd.c1
              have hd2 := hd.c2
              dsimp only at hd0 hd1 hd2
              have hd3 := World.block_lt_of_cell? _ _ hd0
              dsimp only at hd3
              go_wp2_with fail
              clear hc0 hc1 hc2 hc3
              clear hd0 hd1 hd2 hd3
              refine (Scan_L (q := 7) (hM := hM) (hH := hH) (hij := by decide) (hv := hc.vw)).mono ?_
              rintro e w46 ⟨o46, aN, cN, rfl, hN, s1⟩
              replace K := K.step s1 (by decide)
              replace hM := hM.keep s1 (by decide)
              replace hH := hH.keep s1 (by decide)
              replace hc := hc.keep s1 (by decide)
              replace hS := hS.keep s1 (by decide)
              replace hu := hu.keep s1 (by decide)
              replace hd := hd.keep s1 (by decide)
              clear s1
              rw [snp_scan HS2.out.s HT.out.one', HS2.out.o, HE.out] at hN ⊢
              have hc0 := hc.c0
              have hc1 := hc.c1
              have hc2 := hc.c2
              dsimp only at hc0 hc1 hc2
              have hc3 := World.block_lt_of_cell? _ _ hc0
              dsimp only at hc3
              have hd0 := hd.c0
              have hd1 := hd.c1
              have hd2 := hd.c2
              dsimp only at hd0 hd1 hd2
              have hd3 := World.block_lt_of_cell? _ _ hd0
              dsimp only at hd3
              go_wp2_with fail
              clear hc0 hc1 hc2 hc3
              clear hd0 hd1 hd2 hd3
              refine (rows_same _ aN aS cN cS S (by omega) hN.ok hS.ok).mono ?_
              rintro e wE ⟨rfl, hg⟩
              have s1 := hg.stp 0 o46
              clear hN
              replace K := K.step s1 (by decide)
              replace hM := hM.keep s1 (by decide)
              replace hH := hH.keep s1 (by decide)
              replace hc := hc.keep s1 (by decide)
              replace hS := hS.keep s1 (by decide)
              replace hu := hu.keep s1 (by decide)
              replace hd := hd.keep s1 (by decide)
              clear s1 hg
              have HI2 : Hid (SnW w pm bo bd ph vc a_hw c_hw S aS cS (k + 1) wE) := ⟨_, _, _, _, _, HT.out.next (s := 3) (by decide), HS2.out.s, by rw [HS2.out.o, HE.out], by have := HS2.out.l; omega, K, hM, hH, hc, hS⟩
              clear K hM hH hc hS hu hd HF
              go_wp2
              go_roundw
              case rel => exact ⟨k + 1, by go_num, by omega, HI2⟩
              case measure => simp [RowKit.intOf]; omega
            · skip
              clear hc0 hc1 hc2 hc3
              clear hd0 hd1 hd2 hd3
              clear e1
              refine (Commit_L o44 1 _ pm bo bd _ ((k : Int) + 3) hM (wfI_iff.2 (by omega))).mono ?_
              rintro e w45 ⟨he, hM0, s1⟩
              obtain rfl : e = .returned (.int .i64 0) := he.trans (by rw [HT.out.eE])
              rw [HT.out.eT] at hM0
              replace K := K.step s1 (by decide)
              replace hH := hH.keep s1 (by decide)
              replace hc := hc.keep s1 (by decide)
              replace hS := hS.keep s1 (by decide)
              replace hu := hu.keep s1 (by decide)
              replace hd := hd.keep s1 (by decide)
              replace hM := hM0
              clear s1 hM0
              have hc0 := hc.c0
              have hc1 := hc.c1
              have hc2 := hc.c2
              dsimp only at hc0 hc1 hc2
              have hc3 := World.block_lt_of_cell? _ _ hc0
              dsimp only at hc3
              have hd0 := hd.c0
              have hd1 := hd.c1
              have hd2 := hd.c2
              dsimp only at hd0 hd1 hd2
              have hd3 := World.block_lt_of_cell? _ _ hd0
              dsimp only at hd3
              go_wp2_with fail
              clear hc0 hc1 hc2 hc3
              clear hd0 hd1 hd2 hd3
              refine (Scan_L (q := 7) (hM := hM) (hH := hH) (hij := by decide) (hv := hc.vw)).mono ?_
              rintro e w46 ⟨o46, aN, cN, rfl, hN, s1⟩
              replace K := K.step s1 (by decide)
              replace hM := hM.keep s1 (by decide)
              replace hH := hH.keep s1 (by decide)
              replace hc := hc.keep s1 (by decide)
              replace hS := hS.keep s1 (by decide)
              replace hu := hu.keep s1 (by decide)
              replace hd := hd.keep s1 (by decide)
              clear s1
              rw [snp_scan HS2.out.s HT.out.one', HS2.out.o, HE.out] at hN ⊢
              have hc0 := hc.c0
              have hc1 := hc.c1
              have hc2 := hc.c2
              dsimp only at hc0 hc1 hc2
              have hc3 := World.block_lt_of_cell? _ _ hc0
              dsimp only at hc3
              have hd0 := hd.c0
              have hd1 := hd.c1
              have hd2 := hd.c2
              dsimp only at hd0 hd1 hd2
              have hd3 := World.block_lt_of_cell? _ _ hd0
              dsimp only at hd3
              go_wp2_with fail
              clear hc0 hc1 hc2 hc3
              clear hd0 hd1 hd2 hd3
              refine (rows_same _ aN aS cN cS S (by omega) hN.ok hS.ok).mono ?_
              rintro e wE ⟨rfl, hg⟩
              have s1 := hg.stp 0 o46
              clear hN
              replace K := K.step s1 (by decide)
              replace hM := hM.keep s1 (by decide)
              replace hH := hH.keep s1 (by decide)
              replace hc := hc.keep s1 (by decide)
              replace hS := hS.keep s1 (by decide)
              replace hu := hu.keep s1 (by decide)
              replace hd := hd.keep s1 (by decide)
              clear s1 hg
              have HI2 : Hid (SnW w pm bo bd ph vc a_hw c_hw S aS cS (k + 1) wE) := ⟨_, _, _, _, _, HT.out.next (s := 2) (by decide), HS2.out.s, by rw [HS2.out.o, HE.out], by have := HS2.out.l; omega, K, hM, hH, hc, hS⟩
              clear K hM hH hc hS hu hd HF
              go_wp2
              go_roundw
              case rel => exact ⟨k + 1, by go_num, by omega, HI2⟩
              case measure => simp [RowKit.intOf]; omega
          · skip
            clear hc0 hc1 hc2 hc3
            clear hd0 hd1 hd2 hd3
            clear e0 el2 e2 e3
            have hg := (Gr.alloc w43 (.cells #[.int .i64 (z.tmod 9), .string s] 38)).trans (Gr.drew _)
            generalize (w43.alloc (.cells #[.int .i64 (z.tmod 9), .string s] 38)).drew = wa at hg ⊢
            have s1 := hg.stp 0 o43
            replace K := K.step s1 (by decide)
            replace hM := hM.keep s1 (by decide)
            replace hH := hH.keep s1 (by decide)
            replace hc := hc.keep s1 (by decide)
            replace hS := hS.keep s1 (by decide)
            replace hu := hu.keep s1 (by decide)
            replace hd := hd.keep s1 (by decide)
            clear s1 hg
            refine (Truncate_L (q := 8) (hM := hM) (hH := hH) (hij := by decide) (hkj := by decide) (hv := hd.vw) (ho := wfI_iff.2 (by show _ ≤ (k : Int) + 3 ∧ (k : Int) + 3 ≤ _; omega))).mono ?_
            rintro e w44 ⟨o44, ar, cr, a_hH, c_hH, rfl, _, hH0, s1⟩
            have HS2 := Lib.hid (SnS.trunc (t := t ++ [1]) (v := ⟨(k : Int) + 4, [2, (k : Int) + 3], (k : Int) + 3⟩) HN.out (by show 3 ≤ (k : Int) + 3; omega))
            replace K := K.step s1 (by decide)
            replace hM := hM.keep s1 (by decide)
            replace hc := hc.keep s1 (by decide)
            replace hS := hS.keep s1 (by decide)
            replace hu := hu.keep s1 (by decide)
            replace hd := hd.keep s1 (by decide)
            replace hH := hH0
            clear s1 hH0
            have e1 := K.cell HF.out.2
            have hc0 := hc.c0
            have hc1 := hc.c1
            have hc2 := hc.c2
            dsimp only at hc0 hc1 hc2
            have hc3 := World.block_lt_of_cell? _ _ hc0
            dsimp only at hc3
            have hd0 := hd.c0
            have hd1 := hd.c1
            have hd2 := hd.c2
            dsimp only at hd0 hd1 hd2
            have hd3 := World.block_lt_of_cell? _ _ hd0
            dsimp only at hd3
            go_wp2_with fail
            · skip
              clear hc0 hc1 hc2 hc3
              clear hd0 hd1 hd2 hd3
              clear e1
              refine (Abort_L o44 1 _ pm bo bd _ ((k : Int) + 3) hM (wfI_iff.2 (by omega))).mono ?_
              rintro e w45 ⟨he, hM0, s1⟩
              obtain rfl : e = .returned (.int .i64 0) := he.trans (by rw [HT.out.eE])
              rw [HT.out.eT] at hM0
              replace K := K.step s1 (by decide)
              replace hH := hH.keep s1 (by decide)
              replace hc := hc.keep s1 (by decide)
              replace hS := hS.keep s1 (by decide)
              replace hu := hu.keep s1 (by decide)
              replace hd := hd.keep s1 (by decide)
              replace hM := hM0
              clear s1 hM0
              have hc0 := hc.c0
              have hc1 := hc.c1
              have hc2 := hc.c2
              dsimp only at hc0 hc1 hc2
              have hc3 := World.block_lt_of_cell? _ _ hc0
              dsimp only at hc3
              have hd0 := hd.c0
              have hd1 := hd.c1
              have hd2 := hd.c2
              dsimp only at hd0 hd1 hd2
              have hd3 := World.block_lt_of_cell? _ _ hd0
              dsimp only at hd3
              go_wp2_with fail
              clear hc0 hc1 hc2 hc3
              clear hd0 hd1 hd2 hd3
              refine (Scan_L (q := 7) (hM := hM) (hH := hH) (hij := by decide) (hv := hc.vw)).mono ?_
              rintro e w46 ⟨o46, aN, cN, rfl, hN, s1⟩
              replace K := K.step s1 (by decide)
              replace hM := hM.keep s1 (by decide)
              replace hH := hH.keep s1 (by decide)
              replace hc := hc.keep s1 (by decide)
              replace hS := hS.keep s1 (by decide)
              replace hu := hu.keep s1 (by decide)
              replace hd := hd.keep s1 (by decide)
              clear s1
              rw [snp_scan HS2.out.s HT.out.one', HS2.out.o, HE.out] at hN ⊢
              have hc0 := hc.c0
              have hc1 := hc.c1
              have hc2 := hc.c2
              dsimp only at hc0 hc1 hc2
              have hc3 := World.block_lt_of_cell? _ _ hc0
              dsimp only at hc3
              have hd0 := hd.c0
              have hd1 := hd.c1
              have hd2 := hd.c2
              dsimp only at hd0 hd1 hd2
              have hd3 := World.block_lt_of_cell? _ _ hd0
              dsimp only at hd3
              go_wp2_with fail
              clear hc0 hc1 hc2 hc3
              clear hd0 hd1 hd2 hd3
              refine (rows_same _ aN aS cN cS S (by omega) hN.ok hS.ok).mono ?_
              rintro e wE ⟨rfl, hg⟩
              have s1 := hg.stp 0 o46
              clear hN
              replace K := K.step s1 (by decide)
              replace hM := hM.keep s1 (by decide)
              replace hH := hH.keep s1 (by decide)
              replace hc := hc.keep s1 (by decide)
              replace hS := hS.keep s1 (by decide)
              replace hu := hu.keep s1 (by decide)
              replace hd := hd.keep s1 (by decide)
              clear s1 hg
              have HI2 : Hid (SnW w pm bo bd ph vc a_hw c_hw S aS cS (k + 1) wE) := ⟨_, _, _, _, _, HT.out.next (s := 3) (by decide), HS2.out.s, by rw [HS2.out.o, HE.out], by have := HS2.out.l; omega, K, hM, hH, hc, hS⟩
              clear K hM hH hc hS hu hd HF
              go_wp2
              go_roundw
              case rel => exact ⟨k + 1, by go_num, by omega, HI2⟩
              case measure => simp [RowKit.intOf]; omega
            · skip
              clear hc0 hc1 hc2 hc3
              clear hd0 hd1 hd2 hd3
              clear e1
              refine (Commit_L o44 1 _ pm bo bd _ ((k : Int) + 3) hM (wfI_iff.2 (by omega))).mono ?_
              rintro e w45 ⟨he, hM0, s1⟩
              obtain rfl : e = .returned (.int .i64 0) := he.trans (by rw [HT.out.eE])
              rw [HT.out.eT] at hM0
              replace K := K.step s1 (by decide)
              replace hH := hH.keep s1 (by decide)
              replace hc := hc.keep s1 (by decide)
              replace hS := hS.keep s1 (by decide)
              replace hu := hu.keep s1 (by decide)
              replace hd := hd.keep s1 (by decide)
              replace hM := hM0
              clear s1 hM0
              have hc0 := hc.c0
              have hc1 := hc.c1
              have hc2 := hc.c2
              dsimp only at hc0 hc1 hc2
              have hc3 := World.block_lt_of_cell? _ _ hc0
              dsimp only at hc3
              have hd0 := hd.c0
              have hd1 := hd.c1
              have hd2 := hd.c2
              dsimp only at hd0 hd1 hd2
              have hd3 := World.block_lt_of_cell? _ _ hd0
              dsimp only at hd3
              go_wp2_with fail
              clear hc0 hc1 hc2 hc3
              clear hd0 hd1 hd2 hd3
              refine (Scan_L (q := 7) (hM := hM) (hH := hH) (hij := by decide) (hv := hc.vw)).mono ?_
              rintro e w46 ⟨o46, aN, cN, rfl, hN, s1⟩
              replace K := K.step s1 (by decide)
              replace hM := hM.keep s1 (by decide)
              replace hH := hH.keep s1 (by decide)
              replace hc := hc.keep s1 (by decide)
              replace hS := hS.keep s1 (by decide)
              replace hu := hu.keep s1 (by decide)
              replace hd := hd.keep s1 (by decide)
              clear s1
              rw [snp_scan HS2.out.s HT.out.one', HS2.out.o, HE.out] at hN ⊢
              have hc0 := hc.c0
              have hc1 := hc.c1
              have hc2 := hc.c2
              dsimp only at hc0 hc1 hc2
              have hc3 := World.block_lt_of_cell? _ _ hc0
              dsimp only at hc3
              have hd0 := hd.c0
              have hd1 := hd.c1
              have hd2 := hd.c2
              dsimp only at hd0 hd1 hd2
              have hd3 := World.block_lt_of_cell? _ _ hd0
              dsimp only at hd3
              go_wp2_with fail
              clear hc0 hc1 hc2 hc3
              clear hd0 hd1 hd2 hd3
              refine (rows_same _ aN aS cN cS S (by omega) hN.ok hS.ok).mono ?_
              rintro e wE ⟨rfl, hg⟩
              have s1 := hg.stp 0 o46
              clear hN
              replace K := K.step s1 (by decide)
              replace hM := hM.keep s1 (by decide)
              replace hH := hH.keep s1 (by decide)
              replace hc := hc.keep s1 (by decide)
              replace hS := hS.keep s1 (by decide)
              replace hu := hu.keep s1 (by decide)
              replace hd := hd.keep s1 (by decide)
              clear s1 hg
              have HI2 : Hid (SnW w pm bo bd ph vc a_hw c_hw S aS cS (k + 1) wE) := ⟨_, _, _, _, _, HT.out.next (s := 2) (by decide), HS2.out.s, by rw [HS2.out.o, HE.out], by have := HS2.out.l; omega, K, hM, hH, hc, hS⟩
              clear K hM hH hc hS hu hd HF
              go_wp2
              go_roundw
              case rel => exact ⟨k + 1, by go_num, by omega, HI2⟩
              case measure => simp [RowKit.intOf]; omega
        · have hltz : ¬ (k : Int) < (n1 : Int) := by omega
          obtain ⟨_, _, _, _, _, _, _, _, _, K, _⟩ := hI.out
          clear hI
          go_wp2
          go_ret
          exact ⟨rfl, K.bel⟩
end Go.Proofs.Ytannjecmfbhkeaa
