/- HeapTruncates: all that a view sees goes, by its keys; what others have begun stays theirs. -/
import Derived.Test.YtannjecmfbhkeaaTruncPure
import Derived.Test.YtannjecmfbhkeaaRowsEq
import Derived.Test.YtannjecmfbhkeaaU8
import Derived.StillTailTactics
namespace Go.Proofs.Ytannjecmfbhkeaa
open Go Go.RowKit Go.Lib Go.Maps
theorem insV_len {t : TS} {v : Vw} {vs : List Vr} {r : Rw} : (insV t v vs r).length ≤ vs.length + 1 := by
  rcases insV_cases t v vs r with e | ⟨e, _⟩ <;> rw [e] <;> simp
theorem scanL_len {t : TS} {v : Vw} {vs : List Vr} : (scanL t v vs).length ≤ vs.length := by
  unfold scanL visL; rw [length_sortS, List.length_map]; exact List.length_filter_le _ _
theorem trV_len {t : TS} {v : Vw} {vs : List Vr} {a b : Int} {n : Nat} (h : vs.length ≤ n) (hn : n ≤ 30) : (scanL t v (trV vs a b)).length ≤ 100 := by
  have := scanL_len (t := t) (v := v) (vs := trV vs a b)
  unfold trV at *
  simp at this ⊢
  omega
theorem tmod_bd (z : Int) (m : Nat) (hm : 0 < m) : -(m : Int) < z.tmod m ∧ z.tmod m < m := by
  rcases Int.le_total 0 z with h | h
  · rw [Int.tmod_eq_emod_of_nonneg h]
    have := Int.emod_nonneg z (b := (m : Int)) (by omega)
    have := Int.emod_lt_of_pos z (b := (m : Int)) (by omega)
    omega
  · obtain ⟨y, rfl⟩ : ∃ y, z = -y := ⟨-z, by omega⟩
    rw [Int.neg_tmod, Int.tmod_eq_emod_of_nonneg (by omega)]
    have := Int.emod_nonneg y (b := (m : Int)) (by omega)
    have := Int.emod_lt_of_pos y (b := (m : Int)) (by omega)
    omega
/-- A row of numbers that came in. -/
def InRow (w : World) (a : Option Addr) (n : Nat) (zs : List Int) : Prop := n = 0 ∨ ∃ x, a = some x ∧ ∀ i, i < n → w.cell? (x.add i) = some (.int .i64 (zs.getD i 0)) ∧ wfI (zs.getD i 0)
def TrW (w : World) (pm bo bd ph vb : Nat) (va : Option Addr) (vc : Nat) (k : Nat) (W : World) : Prop :=
  ∃ own vs aH cH, TrI vs ∧ vs.length ≤ k ∧ K9 w own W ∧ MgrL own 1 W pm bo bd [1] ∧ HeapL own 2 W ph pm aH cH vs ∧ VBox own 3 W vb ⟨2, [1], 1⟩ va vc
set_option maxHeartbeats 8000000 in
set_option maxRecDepth 100000 in
theorem HeapTruncates_walk (a0 : Option Addr) (n cap : Nat) (zs : List Int) (mine other : Int) (w : World) (hrow : InRow w a0 n zs) (m0 : 0 ≤ mine) (m1 : mine < 256) (wo : wfI other) :
    Calls Try.prog 3 #[.slice a0 n cap, .int .u8 mine, .int .i64 other] w fun e w' => e = .returned (.bool true) ∧ Below w.heap.size w w' := by
  have K0 := K9.start w
  have HR := Lib.hid hrow
  have WO := Lib.hid wo
  clear hrow wo
  by_cases hn : 30 < n
  · have hnz : (30 : Int) < (n : Int) := by omega
    go_enter Try.func3, Try.ntmps3
    go_wp2_with fail
    refine (clash_calls _).mono ?_
    rintro e w0 ⟨rfl, hb⟩
    go_wp2_with fail
    refine (clash_calls _).mono ?_
    rintro e w1 ⟨rfl, hb2⟩
    go_wp2
    go_ret
    exact ⟨rfl, hb.trans (hb2.mono hb.size)⟩
  have hnz : (n : Int) ≤ 30 := by omega
  go_enter Try.func3, Try.ntmps3
  go_wp2_with fail
  refine (clash_calls _).mono ?_
  rintro e w0 ⟨rfl, hb⟩
  have K := K0.step (Below.stp hb 0 _ 9) (by decide)
  clear K0 hb
  go_wp2_with fail
  refine (TxNew_L (lab (fun _ => 9) w.heap.size 9) 1 _).mono ?_
  rintro e w1 ⟨o1, pm, bo, bd, rfl, hM, s1⟩
  replace K := K.step s1 (by decide)
  clear s1
  go_wp2_with fail
  refine (HNew_L o1 2 _ pm).mono ?_
  rintro e w2 ⟨o2, ph, rfl, hH, s1⟩
  replace K := K.step s1 (by decide)
  replace hM := hM.keep s1 (by decide)
  clear s1
  go_wp2_with fail
  refine (Begin_L o2 1 _ pm bo bd _ hM).mono ?_
  rintro e w3 ⟨he, hM0, s1⟩
  obtain rfl : e = .returned (.tuple #[.int .i64 1, .int .i64 0]) := he
  replace K := K.step s1 (by decide)
  replace hH := hH.keep s1 (by decide)
  replace hM : MgrL o2 1 w3 pm bo bd [1] := hM0
  clear s1 hM0
  go_wp2_with fail
  refine (Now_L o2 1 3 _ pm bo bd _ hM).mono ?_
  rintro e w4 ⟨o4, a_hv, c_hv, he, hv0, s1⟩
  obtain rfl : e = .returned (.agg #[.int .i64 2, .slice a_hv 1 c_hv]) := he
  replace K := K.step s1 (by decide)
  replace hM := hM.keep s1 (by decide)
  replace hH := hH.keep s1 (by decide)
  have hv : ViewL o4 3 w4 ⟨2, [1], 1⟩ a_hv c_hv := hv0 1
  clear s1 hv0
  go_wp2_with fail
  obtain ⟨o5, w5, vb, hw, hvb, hb, s1⟩ := VBox.new hv
  dsimp only [List.length] at hw
  rw [hw, hvb]
  clear hw hvb
  replace K := K.step s1 (by decide)
  replace hM := hM.keep s1 (by decide)
  replace hH := hH.keep s1 (by decide)
  replace hv := hv.keep s1 (by decide)
  clear s1
  have HI : Hid (TrW w pm bo bd ph vb a_hv c_hv 0 w5) := ⟨_, [], _, _, TrI.nil, Nat.le_refl _, K, hM, hH, hb⟩
  clear K hM hH hb hv
  go_loopw [12] (fun vi W => ∃ k : Nat, vi = .int .i64 k ∧ k ≤ n ∧ Hid (TrW w pm bo bd ph vb a_hv c_hv k W)) (fun vi _ => n - (RowKit.intOf vi).toNat)
  case atStart => exact ⟨0, rfl, Nat.zero_le _, HI⟩
  case round =>
    obtain ⟨k, rfl, hk, hI⟩ := hrel
    by_cases hlt : k < n
    · have hltz : (k : Int) < (n : Int) := by omega
      obtain ⟨own, vs, aH, cH, hT, hl, K, hM, hH, hb⟩ := hI.out
      obtain ⟨x, rfl, hx⟩ : ∃ x, a0 = some x ∧ ∀ i, i < n → w.cell? (x.add i) = some (.int .i64 (zs.getD i 0)) ∧ wfI (zs.getD i 0) := by
        rcases HR.out with h | h
        · omega
        · exact h
      obtain ⟨hz, hwz⟩ := hx k hlt
      have hz2 : wr.cell? (x.add k) = some (.int .i64 (zs.getD k 0)) := by
        rw [K.bel.cell (World.block_lt_of_cell? _ _ hz)]; exact hz
      generalize zs.getD k 0 = z at hz2 hwz
      have hw2 := wfI_iff.1 hwz
      have hbd : -50 < z.tmod 50 ∧ z.tmod 50 < 50 := tmod_bd z 50 (by decide)
      have hb0 := hb.c0
      have hb1 := hb.c1
      have hb2 := hb.c2
      dsimp only at hb0 hb1 hb2
      have HK := Lib.hid (And.intro K (And.intro hM (And.intro hH hb)))
      clear hI hx hz K hM hH hb hwz
      go_wp2_with fail
      go_still_tail 8, (by kernel_rfl)
      change wpList _ _ _ _ _ wr.drew
      have hg : Gr wr wr.drew := Gr.drew wr
      generalize wr.drew = w5 at hg
      have s1 := hg.stp 0 own
      obtain ⟨K, hM, hH, hb⟩ := HK.out
      replace K := K.step s1 (by decide)
      replace hM := hM.keep s1 (by decide)
      replace hH := hH.keep s1 (by decide)
      replace hb := hb.keep s1 (by decide)
      clear s1 hg HK
      go_wp2_with fail
      refine (Insert_L (r := (z.tmod 50, ⟨#[]⟩)) (hM := hM) (hH := hH) (hij := by decide) (hv := hb.vw) (ho := by decide) (hr := wfI_iff.2 (by show _ ≤ z.tmod 50 ∧ z.tmod 50 ≤ _; omega)) (hlim := by omega)).mono ?_
      rintro e w6 ⟨rfl, o6, aH2, cH2, hH0, s1⟩
      have hl2 := TrI.len (vs := vs) (r := (z.tmod 50, ⟨#[]⟩))
      have HI2 : Hid (TrW w pm bo bd ph vb a_hv c_hv (k + 1) w6) := ⟨_, _, _, _, hT.ins (r := (z.tmod 50, ⟨#[]⟩)) hbd.1 hbd.2, by omega, K.step s1 (by decide), hM.keep s1 (by decide), hH0, hb.keep s1 (by decide)⟩
      clear K hM hH hb s1 hH0 hl2 hT hl
      go_wp2
      go_roundw
      case rel => exact ⟨k + 1, by go_num, by omega, HI2⟩
      case measure => simp [RowKit.intOf]; omega
    · have hltz : ¬ (k : Int) < (n : Int) := by omega
      obtain ⟨own, vs, aH, cH, hT, hl, K, hM, hH, hb⟩ := hI.out
      have HT := Lib.hid hT
      clear hI hT
      have hb0 := hb.c0
      have hb1 := hb.c1
      have hb2 := hb.c2
      dsimp only at hb0 hb1 hb2
      have hb3 := World.block_lt_of_cell? _ _ hb0
      dsimp only at hb3
      go_wp2_with fail
      clear hb0 hb1 hb2 hb3
      refine (Commit_L own 1 _ pm bo bd _ (1) hM (by decide)).mono ?_
      rintro e w21 ⟨he, hM0, s1⟩
      obtain rfl : e = .returned (.int .i64 0) := he
      replace K := K.step s1 (by decide)
      replace hH := hH.keep s1 (by decide)
      replace hb := hb.keep s1 (by decide)
      replace hM : MgrL own 1 w21 pm bo bd [2] := hM0
      clear s1 hM0
      have hb0 := hb.c0
      have hb1 := hb.c1
      have hb2 := hb.c2
      dsimp only at hb0 hb1 hb2
      have hb3 := World.block_lt_of_cell? _ _ hb0
      dsimp only at hb3
      go_wp2_with fail
      clear hb0 hb1 hb2 hb3
      refine (Begin_L own 1 _ pm bo bd _ hM).mono ?_
      rintro e w22 ⟨he, hM0, s1⟩
      obtain rfl : e = .returned (.tuple #[.int .i64 2, .int .i64 0]) := he
      replace K := K.step s1 (by decide)
      replace hH := hH.keep s1 (by decide)
      replace hb := hb.keep s1 (by decide)
      replace hM : MgrL own 1 w22 pm bo bd [2, 1] := hM0
      clear s1 hM0
      have hb0 := hb.c0
      have hb1 := hb.c1
      have hb2 := hb.c2
      dsimp only at hb0 hb1 hb2
      have hb3 := World.block_lt_of_cell? _ _ hb0
      dsimp only at hb3
      go_wp2_with fail
      clear hb0 hb1 hb2 hb3
      refine (Now_L own 1 4 _ pm bo bd _ hM).mono ?_
      rintro e w23 ⟨o23, a_hw, c_hw, he, hv0, s1⟩
      obtain rfl : e = .returned (.agg #[.int .i64 3, .slice a_hw 1 c_hw]) := he
      replace K := K.step s1 (by decide)
      replace hM := hM.keep s1 (by decide)
      replace hH := hH.keep s1 (by decide)
      replace hb := hb.keep s1 (by decide)
      have hw : ViewL o23 4 w23 ⟨3, [2], 2⟩ a_hw c_hw := hv0 2
      clear s1 hv0
      have hb0 := hb.c0
      have hb1 := hb.c1
      have hb2 := hb.c2
      dsimp only at hb0 hb1 hb2
      have hb3 := World.block_lt_of_cell? _ _ hb0
      dsimp only at hb3
      go_wp2_with fail
      clear hb0 hb1 hb2 hb3
      obtain ⟨o24, w24, vc, hw, hvb, hc, s1⟩ := VBox.new hw
      dsimp only [List.length] at hw
      rw [hw, hvb]
      clear hw hvb
      replace K := K.step s1 (by decide)
      replace hM := hM.keep s1 (by decide)
      replace hH := hH.keep s1 (by decide)
      replace hb := hb.keep s1 (by decide)
      replace hw := hw.keep s1 (by decide)
      clear s1
      refine (Begin_L o24 1 _ pm bo bd _ hM).mono ?_
      rintro e w25 ⟨he, hM0, s1⟩
      obtain rfl : e = .returned (.tuple #[.int .i64 3, .int .i64 0]) := he
      replace K := K.step s1 (by decide)
      replace hH := hH.keep s1 (by decide)
      replace hb := hb.keep s1 (by decide)
      replace hw := hw.keep s1 (by decide)
      replace hc := hc.keep s1 (by decide)
      replace hM : MgrL o24 1 w25 pm bo bd [2, 1, 1] := hM0
      clear s1 hM0
      have hb0 := hb.c0
      have hb1 := hb.c1
      have hb2 := hb.c2
      dsimp only at hb0 hb1 hb2
      have hb3 := World.block_lt_of_cell? _ _ hb0
      dsimp only at hb3
      have hc0 := hc.c0
      have hc1 := hc.c1
      have hc2 := hc.c2
      dsimp only at hc0 hc1 hc2
      have hc3 := World.block_lt_of_cell? _ _ hc0
      dsimp only at hc3
      go_wp2_with fail
      clear hb0 hb1 hb2 hb3
      clear hc0 hc1 hc2 hc3
      refine (Now_L o24 1 5 _ pm bo bd _ hM).mono ?_
      rintro e w26 ⟨o26, a_hu, c_hu, he, hv0, s1⟩
      obtain rfl : e = .returned (.agg #[.int .i64 4, .slice a_hu 2 c_hu]) := he
      replace K := K.step s1 (by decide)
      replace hM := hM.keep s1 (by decide)
      replace hH := hH.keep s1 (by decide)
      replace hb := hb.keep s1 (by decide)
      replace hw := hw.keep s1 (by decide)
      replace hc := hc.keep s1 (by decide)
      have hu : ViewL o26 5 w26 ⟨4, [2, 3], 3⟩ a_hu c_hu := hv0 3
      clear s1 hv0
      have hwo := wfI_iff.1 WO.out
      have hbd : -9 < other.tmod 9 ∧ other.tmod 9 < 9 := tmod_bd other 9 (by decide)
      have hb0 := hb.c0
      have hb1 := hb.c1
      have hb2 := hb.c2
      dsimp only at hb0 hb1 hb2
      have hb3 := World.block_lt_of_cell? _ _ hb0
      dsimp only at hb3
      have hc0 := hc.c0
      have hc1 := hc.c1
      have hc2 := hc.c2
      dsimp only at hc0 hc1 hc2
      have hc3 := World.block_lt_of_cell? _ _ hc0
      dsimp only at hc3
      go_wp2_with fail
      clear hb0 hb1 hb2 hb3
      clear hc0 hc1 hc2 hc3
      obtain ⟨o27, w27, vd, hw, hvb, hd, s1⟩ := VBox.new hu
      dsimp only [List.length] at hw
      rw [hw, hvb]
      clear hw hvb
      replace K := K.step s1 (by decide)
      replace hM := hM.keep s1 (by decide)
      replace hH := hH.keep s1 (by decide)
      replace hb := hb.keep s1 (by decide)
      replace hw := hw.keep s1 (by decide)
      replace hc := hc.keep s1 (by decide)
      replace hu := hu.keep s1 (by decide)
      clear s1
      refine (Insert_L (r := (100 + other.tmod 9, ⟨#[]⟩)) (hM := hM) (hH := hH) (hij := by decide) (hv := hd.vw) (ho := by decide) (hr := wfI_iff.2 (by show _ ≤ 100 + other.tmod 9 ∧ 100 + other.tmod 9 ≤ _; omega)) (hlim := by first | omega | (have := insV_len (t := [2, 1, 1]) (v := ⟨4, [2, 3], 3⟩) (vs := vs) (r := (100 + other.tmod 9, ⟨#[]⟩)); omega))).mono ?_
      rintro e w28 ⟨rfl, o28, a_hH, c_hH, hH0, s1⟩
      replace K := K.step s1 (by decide)
      replace hM := hM.keep s1 (by decide)
      replace hb := hb.keep s1 (by decide)
      replace hw := hw.keep s1 (by decide)
      replace hc := hc.keep s1 (by decide)
      replace hu := hu.keep s1 (by decide)
      replace hd := hd.keep s1 (by decide)
      replace hH := hH0
      clear s1 hH0
      have hb0 := hb.c0
      have hb1 := hb.c1
      have hb2 := hb.c2
      dsimp only at hb0 hb1 hb2
      have hb3 := World.block_lt_of_cell? _ _ hb0
      dsimp only at hb3
      have hc0 := hc.c0
      have hc1 := hc.c1
      have hc2 := hc.c2
      dsimp only at hc0 hc1 hc2
      have hc3 := World.block_lt_of_cell? _ _ hc0
      dsimp only at hc3
      have hd0 := hd.c0
      have hd1 := hd.c1
      have hd2 := hd.c2
      dsimp only at hd0 hd1 hd2
      have hd3 := World.block_lt_of_cell? _ _ hd0
      dsimp only at hd3
      go_wp2_with fail
      clear hb0 hb1 hb2 hb3
      clear hc0 hc1 hc2 hc3
      clear hd0 hd1 hd2 hd3
      refine (Insert_L (r := (200 + mine, ⟨#[]⟩)) (hM := hM) (hH := hH) (hij := by decide) (hv := hc.vw) (ho := by decide) (hr := wfI_iff.2 (by show _ ≤ 200 + mine ∧ 200 + mine ≤ _; omega)) (hlim := by first | omega | (have := insV_len (t := [2, 1, 1]) (v := ⟨4, [2, 3], 3⟩) (vs := vs) (r := (100 + other.tmod 9, ⟨#[]⟩)); omega))).mono ?_
      rintro e w29 ⟨rfl, o29, a_hH, c_hH, hH0, s1⟩
      replace K := K.step s1 (by decide)
      replace hM := hM.keep s1 (by decide)
      replace hb := hb.keep s1 (by decide)
      replace hw := hw.keep s1 (by decide)
      replace hc := hc.keep s1 (by decide)
      replace hu := hu.keep s1 (by decide)
      replace hd := hd.keep s1 (by decide)
      replace hH := hH0
      clear s1 hH0
      rw [trV_ins HT.out (by omega) (by omega) (by omega)] at hH
      have hb0 := hb.c0
      have hb1 := hb.c1
      have hb2 := hb.c2
      dsimp only at hb0 hb1 hb2
      have hb3 := World.block_lt_of_cell? _ _ hb0
      dsimp only at hb3
      have hc0 := hc.c0
      have hc1 := hc.c1
      have hc2 := hc.c2
      dsimp only at hc0 hc1 hc2
      have hc3 := World.block_lt_of_cell? _ _ hc0
      dsimp only at hc3
      have hd0 := hd.c0
      have hd1 := hd.c1
      have hd2 := hd.c2
      dsimp only at hd0 hd1 hd2
      have hd3 := World.block_lt_of_cell? _ _ hd0
      dsimp only at hd3
      go_wp2_with fail
      clear hb0 hb1 hb2 hb3
      clear hc0 hc1 hc2 hc3
      clear hd0 hd1 hd2 hd3
      refine (Scan_L (q := 6) (hM := hM) (hH := hH) (hij := by decide) (hv := hc.vw)).mono ?_
      rintro e w30 ⟨o30, aS, cS, rfl, hS, s1⟩
      replace K := K.step s1 (by decide)
      replace hM := hM.keep s1 (by decide)
      replace hH := hH.keep s1 (by decide)
      replace hb := hb.keep s1 (by decide)
      replace hw := hw.keep s1 (by decide)
      replace hc := hc.keep s1 (by decide)
      replace hu := hu.keep s1 (by decide)
      replace hd := hd.keep s1 (by decide)
      clear s1
      have hb0 := hb.c0
      have hb1 := hb.c1
      have hb2 := hb.c2
      dsimp only at hb0 hb1 hb2
      have hb3 := World.block_lt_of_cell? _ _ hb0
      dsimp only at hb3
      have hc0 := hc.c0
      have hc1 := hc.c1
      have hc2 := hc.c2
      dsimp only at hc0 hc1 hc2
      have hc3 := World.block_lt_of_cell? _ _ hc0
      dsimp only at hc3
      have hd0 := hd.c0
      have hd1 := hd.c1
      have hd2 := hd.c2
      dsimp only at hd0 hd1 hd2
      have hd3 := World.block_lt_of_cell? _ _ hd0
      dsimp only at hd3
      go_wp2_with fail
      clear hb0 hb1 hb2 hb3
      clear hc0 hc1 hc2 hc3
      clear hd0 hd1 hd2 hd3
      refine (Truncate_L (q := 7) (hM := hM) (hH := hH) (hij := by decide) (hkj := by decide) (hv := hc.vw) (ho := by decide)).mono ?_
      rintro e w31 ⟨o31, aR, cR, a_hH, c_hH, rfl, hR, hH0, s1⟩
      replace K := K.step s1 (by decide)
      replace hM := hM.keep s1 (by decide)
      replace hb := hb.keep s1 (by decide)
      replace hw := hw.keep s1 (by decide)
      replace hc := hc.keep s1 (by decide)
      replace hu := hu.keep s1 (by decide)
      replace hd := hd.keep s1 (by decide)
      replace hS := hS.keep s1 (by decide)
      replace hH := hH0
      clear s1 hH0
      have TE := trV_E (vs := vs) (a := 100 + other.tmod 9) (b := 200 + mine) HT.out
      have TL : truncL [2, 1, 1] ⟨3, [2], 2⟩ (trV vs (100 + other.tmod 9) (200 + mine)) = scanL [2, 1, 1] ⟨3, [2], 2⟩ (trV vs (100 + other.tmod 9) (200 + mine)) := by unfold truncL; rw [if_pos TE]
      rw [TL, TE]
      rw [TL] at hR
      have NOW := trV_now (vs := vs) (a := 100 + other.tmod 9) (b := 200 + mine) HT.out (by omega) (by omega) (by omega)
      have RISE := fun {i : Nat} {x y : Rw} => scanL_rises (t := [2, 1, 1]) (v := ⟨3, [2], 2⟩) (trV_nd (vs := vs) (a := 100 + other.tmod 9) (b := 200 + mine) HT.out (by omega) (by omega) (by omega)) (i := i) (x := x) (y := y)
      have SL : (scanL [2, 1, 1] ⟨3, [2], 2⟩ (trV vs (100 + other.tmod 9) (200 + mine))).length ≤ 100 := trV_len hl (by omega)
      generalize scanL [2, 1, 1] ⟨3, [2], 2⟩ (trV vs (100 + other.tmod 9) (200 + mine)) = S at hS hR RISE SL ⊢
      generalize truncV [2, 1, 1] ⟨3, [2], 2⟩ (trV vs (100 + other.tmod 9) (200 + mine)) = V at hH NOW
      have NW := Lib.hid NOW
      have RS : Hid (∀ (i : Nat) (x y : Rw), S[i]? = some x → S[i + 1]? = some y → x.1 < y.1) := fun i x y h1 h2 => RISE h1 h2
      clear NOW RISE TE TL
      have hb0 := hb.c0
      have hb1 := hb.c1
      have hb2 := hb.c2
      dsimp only at hb0 hb1 hb2
      have hb3 := World.block_lt_of_cell? _ _ hb0
      dsimp only at hb3
      have hc0 := hc.c0
      have hc1 := hc.c1
      have hc2 := hc.c2
      dsimp only at hc0 hc1 hc2
      have hc3 := World.block_lt_of_cell? _ _ hc0
      dsimp only at hc3
      have hd0 := hd.c0
      have hd1 := hd.c1
      have hd2 := hd.c2
      dsimp only at hd0 hd1 hd2
      have hd3 := World.block_lt_of_cell? _ _ hd0
      dsimp only at hd3
      go_wp2_with fail
      clear hb0 hb1 hb2 hb3
      clear hc0 hc1 hc2 hc3
      clear hd0 hd1 hd2 hd3
      refine (Commit_L o31 1 _ pm bo bd _ (2) hM (by decide)).mono ?_
      rintro e w32 ⟨he, hM0, s1⟩
      obtain rfl : e = .returned (.int .i64 0) := he
      replace K := K.step s1 (by decide)
      replace hH := hH.keep s1 (by decide)
      replace hb := hb.keep s1 (by decide)
      replace hw := hw.keep s1 (by decide)
      replace hc := hc.keep s1 (by decide)
      replace hu := hu.keep s1 (by decide)
      replace hd := hd.keep s1 (by decide)
      replace hS := hS.keep s1 (by decide)
      replace hR := hR.keep s1 (by decide)
      replace hM : MgrL o31 1 w32 pm bo bd [2, 2, 1] := hM0
      clear s1 hM0
      have hb0 := hb.c0
      have hb1 := hb.c1
      have hb2 := hb.c2
      dsimp only at hb0 hb1 hb2
      have hb3 := World.block_lt_of_cell? _ _ hb0
      dsimp only at hb3
      have hc0 := hc.c0
      have hc1 := hc.c1
      have hc2 := hc.c2
      dsimp only at hc0 hc1 hc2
      have hc3 := World.block_lt_of_cell? _ _ hc0
      dsimp only at hc3
      have hd0 := hd.c0
      have hd1 := hd.c1
      have hd2 := hd.c2
      dsimp only at hd0 hd1 hd2
      have hd3 := World.block_lt_of_cell? _ _ hd0
      dsimp only at hd3
      go_wp2_with fail
      clear hb0 hb1 hb2 hb3
      clear hc0 hc1 hc2 hc3
      clear hd0 hd1 hd2 hd3
      refine (Commit_L o31 1 _ pm bo bd _ (3) hM (by decide)).mono ?_
      rintro e w33 ⟨he, hM0, s1⟩
      obtain rfl : e = .returned (.int .i64 0) := he
      replace K := K.step s1 (by decide)
      replace hH := hH.keep s1 (by decide)
      replace hb := hb.keep s1 (by decide)
      replace hw := hw.keep s1 (by decide)
      replace hc := hc.keep s1 (by decide)
      replace hu := hu.keep s1 (by decide)
      replace hd := hd.keep s1 (by decide)
      replace hS := hS.keep s1 (by decide)
      replace hR := hR.keep s1 (by decide)
      replace hM : MgrL o31 1 w33 pm bo bd [2, 2, 2] := hM0
      clear s1 hM0
      have hb0 := hb.c0
      have hb1 := hb.c1
      have hb2 := hb.c2
      dsimp only at hb0 hb1 hb2
      have hb3 := World.block_lt_of_cell? _ _ hb0
      dsimp only at hb3
      have hc0 := hc.c0
      have hc1 := hc.c1
      have hc2 := hc.c2
      dsimp only at hc0 hc1 hc2
      have hc3 := World.block_lt_of_cell? _ _ hc0
      dsimp only at hc3
      have hd0 := hd.c0
      have hd1 := hd.c1
      have hd2 := hd.c2
      dsimp only at hd0 hd1 hd2
      have hd3 := World.block_lt_of_cell? _ _ hd0
      dsimp only at hd3
      go_wp2_with fail
      clear hb0 hb1 hb2 hb3
      clear hc0 hc1 hc2 hc3
      clear hd0 hd1 hd2 hd3
      refine (Now_L o31 1 8 _ pm bo bd _ hM).mono ?_
      rintro e w34 ⟨o34, a_hz, c_hz, he, hv0, s1⟩
      obtain rfl : e = .returned (.agg #[.int .i64 4, .slice a_hz 0 c_hz]) := he
      replace K := K.step s1 (by decide)
      replace hM := hM.keep s1 (by decide)
      replace hH := hH.keep s1 (by decide)
      replace hb := hb.keep s1 (by decide)
      replace hw := hw.keep s1 (by decide)
      replace hc := hc.keep s1 (by decide)
      replace hu := hu.keep s1 (by decide)
      replace hd := hd.keep s1 (by decide)
      replace hS := hS.keep s1 (by decide)
      replace hR := hR.keep s1 (by decide)
      have hz : ViewL o34 8 w34 ⟨4, [], 0⟩ a_hz c_hz := hv0 0
      clear s1 hv0
      have hb0 := hb.c0
      have hb1 := hb.c1
      have hb2 := hb.c2
      dsimp only at hb0 hb1 hb2
      have hb3 := World.block_lt_of_cell? _ _ hb0
      dsimp only at hb3
      have hc0 := hc.c0
      have hc1 := hc.c1
      have hc2 := hc.c2
      dsimp only at hc0 hc1 hc2
      have hc3 := World.block_lt_of_cell? _ _ hc0
      dsimp only at hc3
      have hd0 := hd.c0
      have hd1 := hd.c1
      have hd2 := hd.c2
      dsimp only at hd0 hd1 hd2
      have hd3 := World.block_lt_of_cell? _ _ hd0
      dsimp only at hd3
      go_wp2_with fail
      clear hb0 hb1 hb2 hb3
      clear hc0 hc1 hc2 hc3
      clear hd0 hd1 hd2 hd3
      refine (Scan_L (q := 10) (hM := hM) (hH := hH) (hij := by decide) (hv := hz)).mono ?_
      rintro e w35 ⟨o35, aN, cN, rfl, hN, s1⟩
      replace K := K.step s1 (by decide)
      replace hM := hM.keep s1 (by decide)
      replace hH := hH.keep s1 (by decide)
      replace hb := hb.keep s1 (by decide)
      replace hw := hw.keep s1 (by decide)
      replace hc := hc.keep s1 (by decide)
      replace hu := hu.keep s1 (by decide)
      replace hd := hd.keep s1 (by decide)
      replace hS := hS.keep s1 (by decide)
      replace hR := hR.keep s1 (by decide)
      replace hz := hz.keep s1 (by decide)
      clear s1
      rw [NW.out] at hN
      rw [NW.out]
      have HK := Lib.hid (And.intro K (And.intro hS (And.intro hR hN)))
      clear K hM hH hc hd hz hw hu hb hS hR hN hl
      obtain ⟨wX, rfl⟩ : ∃ wX : World, wX = w35 := ⟨_, rfl⟩
      go_wp2
      go_loopw [23] (fun vi W => ∃ q : Nat, vi = .int .i64 q ∧ 1 ≤ q ∧ q ≤ S.length + 1 ∧ Hid (Gr wX W)) (fun vi _ => S.length + 1 - (RowKit.intOf vi).toNat)
      case atStart => exact ⟨1, rfl, by omega, by omega, Gr.refl _⟩
      case round =>
        obtain ⟨q, rfl, hq1, hq2, hI⟩ := hrel
        by_cases hlq : q < S.length
        · obtain ⟨p, rfl⟩ : ∃ p, q = p + 1 := ⟨q - 1, by omega⟩
          obtain ⟨x, hx⟩ : ∃ x, S[p]? = some x := ⟨_, List.getElem?_eq_getElem (by omega)⟩
          obtain ⟨y, hy⟩ : ∃ y, S[p + 1]? = some y := ⟨_, List.getElem?_eq_getElem hlq⟩
          have hxy := RS.out p x y hx hy
          obtain ⟨g, rfl, _, _⟩ := RowRow.at (HK.out.2.2.1.ok.gr hI.out) hx
          have k0 : ∀ n os, (Sort.grow (wr.drewN n) os).cell? ⟨g, p * 2, none⟩ = some (.int .i64 x.1) := fun n os => by
            obtain ⟨_, e, h, _⟩ := RowRow.at (HK.out.2.2.1.ok.gr (hI.out.trans (Gr.grow wr n os))) hx; cases e; exact h
          have k1 : ∀ n os, (Sort.grow (wr.drewN n) os).cell? ⟨g, (p + 1) * 2, none⟩ = some (.int .i64 y.1) := fun n os => by
            obtain ⟨_, e, h, _⟩ := RowRow.at (HK.out.2.2.1.ok.gr (hI.out.trans (Gr.grow wr n os))) hy; cases e; exact h
          obtain ⟨xk, xt⟩ := x
          obtain ⟨yk, yt⟩ := y
          simp only at k0 k1 hxy
          have hltz : (p : Int) + 1 < (S.length : Int) := by omega
          have hltz1 : (p : Int) < (S.length : Int) := by omega
          have hwp : IntKind.i64.wrap (p : Int) = (p : Int) := by rw [IntKind.wrap_i64]; omega
          have p0 : (0 : Int) ≤ (p : Int) + 1 := by omega
          have e0 : ((p : Int) + 1).toNat = p + 1 := by omega
          have hd : decide (yk ≤ xk) = false := decide_eq_false (by omega)
          have hd2 : ¬ yk ≤ xk := by omega
          have mixed : Try.prog.follows .mixedOrders = true := by kernel_rfl
          clear hx hy
          go_wp2_with fail
          (refine wp_region_quiet_grown mixed (by kernel_rfl) ?_; (repeat (first | go_big_quiet_step (fail) | quiet_step (fail))); refine wpQuiet_nil ?_; intro _ hw'; obtain ⟨⟨nq, osq⟩, hw''⟩ := hw'; subst hw'')
          go_wp2
          go_roundw
          case rel => exact ⟨p + 1 + 1, by go_num, by omega, by omega, hI.out.trans (Gr.grow _ _ _)⟩
          case measure => simp [RowKit.intOf]; omega
        · have hltz : ¬ (q : Int) < (S.length : Int) := by omega
          obtain ⟨K, hS, hR, hN⟩ := HK.out
          go_wp2_with fail
          refine (rows_same _ aR aS cR cS S (by omega) (hR.ok.gr hI.out) (hS.ok.gr hI.out)).mono ?_
          rintro e w5 ⟨rfl, hg2⟩
          obtain ⟨g, rfl, hc, _⟩ := RowRow.at (hN.ok.gr (hI.out.trans hg2)) (k := 0) (x := (100 + other.tmod 9, ⟨#[]⟩)) rfl
          have KB := Lib.hid (K.bel.trans ((hI.out.trans hg2).below.mono K.bel.size))
          simp only [Nat.zero_mul] at hc
          clear K hS hR hN
          go_wp2
          go_ret
          exact ⟨rfl, KB.out⟩
end Go.Proofs.Ytannjecmfbhkeaa
