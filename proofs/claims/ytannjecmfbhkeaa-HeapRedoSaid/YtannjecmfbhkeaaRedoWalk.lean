/- HeapRedo: what a transaction has done, done again on a heap without it, is the same to who comes behind. -/
import Derived.Test.YtannjecmfbhkeaaRedoW
import Derived.Test.YtannjecmfbhkeaaTruncates
import Derived.StillTailTactics
import Derived.RegionTactic
namespace Go.Proofs.Ytannjecmfbhkeaa
open Go Go.RowKit Go.Lib Go.Maps
def RdX (w : World) (pm bo bd pn no nd ph pg : Nat) (k : Nat) (W : World) : Prop :=
  ∃ own vs aH cH aG cG, RdI k vs ∧ vs.length ≤ k ∧ K9 w own W ∧ MgrL own 1 W pm bo bd (rep k) ∧ MgrL own 3 W pn no nd (rep k) ∧ HeapL own 2 W ph pm aH cH vs ∧ HeapL own 4 W pg pn aG cG vs
set_option maxHeartbeats 16000000 in
set_option maxRecDepth 100000 in
theorem HeapRedo_walk (a0 : Option Addr) (n0 c0 : Nat) (w : World) (h0 : ActIn w a0 n0) :
    Calls Try.prog 5 #[.slice a0 n0 c0] w fun e w' => e = .returned (.bool true) ∧ Below w.heap.size w w' := by
  obtain ⟨i0, hi, hz0, hz1, hz2⟩ := info_parts infoOp
  have K0 := K9.start w
  have H0 := Lib.hid h0
  clear h0
  go_enter Try.func5, Try.ntmps5
  go_wp2_with fail
  refine (clash_calls _).mono ?_
  rintro e w0 ⟨rfl, hb⟩
  have K := K0.step (Below.stp hb 0 _ 9) (by decide)
  clear K0 hb
  go_wp2_with fail
  refine (small7_calls _ a0 n0 c0 (K.acts H0.out)).mono ?_
  rintro e w01 ⟨b0, rfl, hb0, rfl⟩
  cases b0
  · clear hb0
    go_wp2_with fail
    refine (clash_calls _).mono ?_
    rintro e w1 ⟨rfl, hb⟩
    go_wp2
    go_ret
    exact ⟨rfl, K.bel.trans (hb.mono K.bel.size)⟩
  have hn0 := hb0 rfl
  clear hb0
  go_wp2_with fail
  refine (TxNew_L (lab (fun _ => 9) w.heap.size 9) 1 _).mono ?_
  rintro e w1 ⟨o1, pm, bo, bd, rfl, hM, s1⟩
  replace K := K.step s1 (by decide)
  clear s1
  go_wp2_with fail
  refine (TxNew_L o1 3 _).mono ?_
  rintro e w2 ⟨o2, pn, no, nd, rfl, hN, s1⟩
  replace K := K.step s1 (by decide)
  replace hM := hM.keep s1 (by decide)
  clear s1
  go_wp2_with fail
  refine (HNew_L o2 2 _ pm).mono ?_
  rintro e w3 ⟨o3, ph, rfl, hH, s1⟩
  replace K := K.step s1 (by decide)
  replace hM := hM.keep s1 (by decide)
  replace hN := hN.keep s1 (by decide)
  clear s1
  go_wp2_with fail
  refine (HNew_L o3 4 _ pn).mono ?_
  rintro e w4 ⟨o4, pg, rfl, hG, s1⟩
  replace K := K.step s1 (by decide)
  replace hM := hM.keep s1 (by decide)
  replace hN := hN.keep s1 (by decide)
  replace hH := hH.keep s1 (by decide)
  clear s1
  have HI : Hid (RdX w pm bo bd pn no nd ph pg 0 w4) := ⟨_, [], _, _, _, _, RdI.nil, Nat.le_refl _, K, hM, hN, hH, hG⟩
  clear K hM hN hH hG
  go_wp2
  go_loopw [7] (fun vi W => ∃ k : Nat, vi = .int .i64 k ∧ k ≤ n0 ∧ Hid (RdX w pm bo bd pn no nd ph pg k W)) (fun vi _ => n0 - (RowKit.intOf vi).toNat)
  case atStart => exact ⟨0, rfl, Nat.zero_le _, HI⟩
  case round =>
    clear HI
    obtain ⟨k, rfl, hk, hI⟩ := hrel
    by_cases hlt : k < n0
    · have hltz : (k : Int) < (n0 : Int) := by omega
      obtain ⟨own, vs, aH, cH, aG, cG, hT, hl, K, hM, hN, hH, hG⟩ := hI.out
      obtain ⟨x, rfl, hx⟩ := H0.out.at hlt
      have HT := Lib.hid hT
      clear hI hT
      go_wp2_with fail
      refine (Begin_L own 1 _ pm bo bd _ hM).mono ?_
      rintro e w21 ⟨he, hM0, s1⟩
      obtain rfl : e = .returned (.tuple #[.int .i64 ((k : Int) + 1), .int .i64 0]) := he.trans (by rw [rep_bN (by omega), rep_bE (by omega)])
      replace K := K.step s1 (by decide)
      replace hN := hN.keep s1 (by decide)
      replace hH := hH.keep s1 (by decide)
      replace hG := hG.keep s1 (by decide)
      rw [rep_bT (by omega)] at hM0
      replace hM := hM0
      clear s1 hM0
      try clear he
      go_wp2_with fail
      refine (Begin_L own 3 _ pn no nd _ hN).mono ?_
      rintro e w22 ⟨he, hM0, s1⟩
      obtain rfl : e = .returned (.tuple #[.int .i64 ((k : Int) + 1), .int .i64 0]) := he.trans (by rw [rep_bN (by omega), rep_bE (by omega)])
      replace K := K.step s1 (by decide)
      replace hM := hM.keep s1 (by decide)
      replace hH := hH.keep s1 (by decide)
      replace hG := hG.keep s1 (by decide)
      rw [rep_bT (by omega)] at hM0
      replace hN := hM0
      clear s1 hM0
      try clear he
      go_wp2_with fail
      refine (Now_L own 1 5 _ pm bo bd _ hM).mono ?_
      rintro e w23 ⟨o23, a_hu, c_hu, he, hv0, s1⟩
      have hu := hv0 ((k : Int) + 1)
      have hn4 : (((rep k ++ [1]).length : Nat) : Int) + 1 = (k : Int) + 2 := by simp; omega
      rw [hn4, rep_open1] at he hu
      obtain rfl : e = .returned (.agg #[.int .i64 ((k : Int) + 2), .slice a_hu 1 c_hu]) := he
      replace K := K.step s1 (by decide)
      replace hM := hM.keep s1 (by decide)
      replace hN := hN.keep s1 (by decide)
      replace hH := hH.keep s1 (by decide)
      replace hG := hG.keep s1 (by decide)
      clear s1 hv0 hn4
      try clear he
      go_wp2_with fail
      obtain ⟨o24, w24, vd, hw, hvb, hd, s1⟩ := VBox.new hu
      dsimp only [List.length] at hw
      rw [hw, hvb]
      clear hw hvb
      replace K := K.step s1 (by decide)
      replace hM := hM.keep s1 (by decide)
      replace hN := hN.keep s1 (by decide)
      replace hH := hH.keep s1 (by decide)
      replace hG := hG.keep s1 (by decide)
      replace hu := hu.keep s1 (by decide)
      clear s1
      obtain ⟨d, q, z, s, f0, _, f2, f3, hd8, _, hwz, _⟩ := hx
      have hw2 := wfI_iff.1 hwz
      have hbd : -5 < z.tmod 5 ∧ z.tmod 5 < 5 := tmod_bd z 5 (by decide)
      obtain ⟨hd8a, hd8b⟩ := hd8
      have e2 := K.cell f2
      have e3 := K.cell f3
      have el3 := World.block_lt_of_cell? _ _ e2
      dsimp only at el3
      have e0 := K.cell f0
      have el2 := World.block_lt_of_cell? _ _ e0
      clear f0 f2 f3
      have hd0 := hd.c0
      have hd1 := hd.c1
      have hd2 := hd.c2
      dsimp only at hd0 hd1 hd2
      have hd3 := World.block_lt_of_cell? _ _ hd0
      dsimp only at hd3
      go_wp2_with fail
      go_region
      go_wp2_with fail
      · skip
        clear hd0 hd1 hd2 hd3
        clear e0 el2 e2 e3 el3
        have hg0 := (Gr.alloc w24 (.cells #[.int .i64 (z.tmod 5), .string s] 38)).trans (Gr.drew _)
        have hr : RBox (lab o24 w24.heap.size 6) 6 ((w24.alloc (.cells #[.int .i64 (z.tmod 5), .string s] 38)).drew) w24.heap.size (z.tmod 5, s) := ⟨by simp [go_sem], by simp [go_sem], lab_new (Nat.le_refl _)⟩
        have s1 := hg0.stpL 0 o24 6
        generalize (w24.alloc (.cells #[.int .i64 (z.tmod 5), .string s] 38)).drew = wa at hg0 hr s1 ⊢
        replace K := K.step s1 (by decide)
        replace hM := hM.keep s1 (by decide)
        replace hN := hN.keep s1 (by decide)
        replace hH := hH.keep s1 (by decide)
        replace hG := hG.keep s1 (by decide)
        replace hu := hu.keep s1 (by decide)
        replace hd := hd.keep s1 (by decide)
        clear s1 hg0
        refine (Insert_L (r := (z.tmod 5, s)) (hM := hM) (hH := hH) (hij := by decide) (hv := hd.vw) (ho := wfI_iff.2 (by show _ ≤ (k : Int) + 1 ∧ (k : Int) + 1 ≤ _; omega)) (hr := (wfI_iff.2 (by show _ ≤ z.tmod 5 ∧ z.tmod 5 ≤ _; omega))) (hlim := by omega)).mono ?_
        rintro e w25 ⟨rfl, o25, a_hH, c_hH, hH0, s1⟩
        replace K := K.step s1 (by decide)
        replace hM := hM.keep s1 (by decide)
        replace hN := hN.keep s1 (by decide)
        replace hG := hG.keep s1 (by decide)
        replace hu := hu.keep s1 (by decide)
        replace hd := hd.keep s1 (by decide)
        replace hr := hr.keep s1 (by decide)
        replace hH := hH0
        clear s1 hH0
        by_cases he : insE (rep k ++ [1]) (vwK k) vs (z.tmod 5) = 0
        · skip
          have HR : Hid (RdS k vs (insV (rep k ++ [1]) (vwK k) vs (z.tmod 5, s)) [(false, (z.tmod 5, s))]) := RdS.ins (r := (z.tmod 5, s)) HT.out he
          rw [he]
          clear he
          have HW : Hid (∀ p ∈ ([(false, (z.tmod 5, s))] : List (Bool × Rw)), wfI p.2.1) := fun p hp => by rw [List.mem_singleton.1 hp]; exact (wfI_iff.2 (by show _ ≤ z.tmod 5 ∧ z.tmod 5 ≤ _; omega))
          generalize insV (rep k ++ [1]) (vwK k) vs (z.tmod 5, s) = V at hH HR
          have r0 := hr.c0
          have r1 := hr.c1
          dsimp only at r0 r1
          have rl := World.block_lt_of_cell? _ _ r0
          dsimp only at rl
          have hcell : ∀ u ∈ [Value.bool false, .int .i64 (z.tmod 5), .string s], u.oneCell' = true := by intro u hu; simp at hu; rcases hu with rfl | rfl | rfl <;> rfl
          have HC := Lib.hid hcell
          clear hcell
          have hm1 : 0 + 1 ≤ maxLen := by decide
          have hm2 : (0 + 1) * 32 ≤ 140737488355328 := by decide
          go_wp2_with (at_builtin; refine wpList_append_own2 rfl _ _ 52 rfl 54 i0 _ 3 32 Try.underlying52 hi hz0 hz1 hz2 rfl (by decide) (.slice none 0 0) 0 [] rfl (by exact World.ownsRow_nil _ _ _ _) ⟨w25.heap.size, 0, none⟩ 1 1 [.bool false, .int .i64 (z.tmod 5), .string s] rfl rfl (by exact newCells) HC.out hm1 hm2 ?_; intro v2 w2 hown hgr hbk; obtain ⟨ao, co, rfl, own2, hO, s1⟩ := OpL.of_append (p := (false, (z.tmod 5, s))) (own := o25) 7 hown hgr (hbk.elim (fun e b hb => by rw [e] at hb; cases hb) id); clear hown hgr hbk)
          clear r0 r1 rl
          replace K := K.step s1 (by decide)
          replace hM := hM.keep s1 (by decide)
          replace hN := hN.keep s1 (by decide)
          replace hH := hH.keep s1 (by decide)
          replace hG := hG.keep s1 (by decide)
          replace hu := hu.keep s1 (by decide)
          replace hd := hd.keep s1 (by decide)
          replace hr := hr.keep s1 (by decide)
          clear s1
          refine (Commit_L own2 1 _ pm bo bd _ ((k : Int) + 1) hM (wfI_iff.2 (by omega))).mono ?_
          rintro e w27 ⟨he, hM0, s1⟩
          obtain rfl : e = .returned (.int .i64 0) := he.trans (by rw [rep_eE])
          rw [rep_eT] at hM0
          replace K := K.step s1 (by decide)
          replace hN := hN.keep s1 (by decide)
          replace hH := hH.keep s1 (by decide)
          replace hG := hG.keep s1 (by decide)
          replace hu := hu.keep s1 (by decide)
          replace hd := hd.keep s1 (by decide)
          replace hr := hr.keep s1 (by decide)
          replace hO := hO.keep s1 (by decide)
          replace hM := hM0
          clear s1 hM0
          try clear he
          have hd0 := hd.c0
          have hd1 := hd.c1
          have hd2 := hd.c2
          dsimp only at hd0 hd1 hd2
          have hd3 := World.block_lt_of_cell? _ _ hd0
          dsimp only at hd3
          go_wp2_with fail
          clear hd0 hd1 hd2 hd3
          refine (Redo_L (ops := [(false, (z.tmod 5, s))]) ((k : Int) + 1) (hM := hN) (hH := hG) (hij := by decide) (hkj := by decide) (hO := hO) (hx := (wfI_iff.2 (by omega))) (hwf := HW.out) (hlim := by simp; omega)).mono ?_
          rintro e w28 ⟨he, o28, a_hG, c_hG, hG0, s1⟩
          obtain rfl : e = .returned (.int .i64 7) := he.trans (by rw [rep_redoE])
          rw [rep_redoV] at hG0
          replace K := K.step s1 (by decide)
          replace hM := hM.keep s1 (by decide)
          replace hN := hN.keep s1 (by decide)
          replace hH := hH.keep s1 (by decide)
          replace hu := hu.keep s1 (by decide)
          replace hd := hd.keep s1 (by decide)
          replace hr := hr.keep s1 (by decide)
          replace hO := hO.keep s1 (by decide)
          replace hG := hG0
          clear s1 hG0
          try clear he
          have hd0 := hd.c0
          have hd1 := hd.c1
          have hd2 := hd.c2
          dsimp only at hd0 hd1 hd2
          have hd3 := World.block_lt_of_cell? _ _ hd0
          dsimp only at hd3
          go_wp2_with fail
          clear hd0 hd1 hd2 hd3
          refine (Commit_L o28 3 _ pn no nd _ ((k : Int) + 1) hN (wfI_iff.2 (by omega))).mono ?_
          rintro e w29 ⟨he, hM0, s1⟩
          obtain rfl : e = .returned (.int .i64 0) := he.trans (by rw [rep_eE])
          rw [rep_eT] at hM0
          replace K := K.step s1 (by decide)
          replace hM := hM.keep s1 (by decide)
          replace hH := hH.keep s1 (by decide)
          replace hG := hG.keep s1 (by decide)
          replace hu := hu.keep s1 (by decide)
          replace hd := hd.keep s1 (by decide)
          replace hr := hr.keep s1 (by decide)
          replace hO := hO.keep s1 (by decide)
          replace hN := hM0
          clear s1 hM0
          try clear he
          have hd0 := hd.c0
          have hd1 := hd.c1
          have hd2 := hd.c2
          dsimp only at hd0 hd1 hd2
          have hd3 := World.block_lt_of_cell? _ _ hd0
          dsimp only at hd3
          go_wp2_with fail
          clear hd0 hd1 hd2 hd3
          refine (Redo_L (ops := [(false, (z.tmod 5, s))]) ((k : Int) + 1) (hM := hN) (hH := hG) (hij := by decide) (hkj := by decide) (hO := hO) (hx := (wfI_iff.2 (by omega))) (hwf := HW.out) (hlim := by simp; omega)).mono ?_
          rintro e w30 ⟨he, o30, a_hG, c_hG, hG0, s1⟩
          obtain rfl : e = .returned (.int .i64 0) := he.trans (by rw [rep_redoE2])
          rw [HR.out.redo] at hG0
          replace K := K.step s1 (by decide)
          replace hM := hM.keep s1 (by decide)
          replace hN := hN.keep s1 (by decide)
          replace hH := hH.keep s1 (by decide)
          replace hu := hu.keep s1 (by decide)
          replace hd := hd.keep s1 (by decide)
          replace hr := hr.keep s1 (by decide)
          replace hO := hO.keep s1 (by decide)
          replace hG := hG0
          clear s1 hG0
          try clear he
          have hd0 := hd.c0
          have hd1 := hd.c1
          have hd2 := hd.c2
          dsimp only at hd0 hd1 hd2
          have hd3 := World.block_lt_of_cell? _ _ hd0
          dsimp only at hd3
          go_wp2_with fail
          clear hd0 hd1 hd2 hd3
          refine (Now_L o30 1 10 _ pm bo bd _ hM).mono ?_
          rintro e w31 ⟨o31, a_hv, c_hv, he, hv0, s1⟩
          have hv := hv0 0
          have hn4 : (((rep (k + 1)).length : Nat) : Int) + 1 = (k : Int) + 2 := by simp; omega
          rw [hn4, rep_open] at he hv
          obtain rfl : e = .returned (.agg #[.int .i64 ((k : Int) + 2), .slice a_hv 0 c_hv]) := he
          replace K := K.step s1 (by decide)
          replace hM := hM.keep s1 (by decide)
          replace hN := hN.keep s1 (by decide)
          replace hH := hH.keep s1 (by decide)
          replace hG := hG.keep s1 (by decide)
          replace hu := hu.keep s1 (by decide)
          replace hd := hd.keep s1 (by decide)
          replace hr := hr.keep s1 (by decide)
          replace hO := hO.keep s1 (by decide)
          clear s1 hv0 hn4
          try clear he
          have hd0 := hd.c0
          have hd1 := hd.c1
          have hd2 := hd.c2
          dsimp only at hd0 hd1 hd2
          have hd3 := World.block_lt_of_cell? _ _ hd0
          dsimp only at hd3
          go_wp2_with fail
          clear hd0 hd1 hd2 hd3
          refine (Scan_L (q := 11) (hM := hM) (hH := hH) (hij := by decide) (hv := hv)).mono ?_
          rintro e w32 ⟨o32, a_hS, c_hS, rfl, hS, s1⟩
          replace K := K.step s1 (by decide)
          replace hM := hM.keep s1 (by decide)
          replace hN := hN.keep s1 (by decide)
          replace hH := hH.keep s1 (by decide)
          replace hG := hG.keep s1 (by decide)
          replace hu := hu.keep s1 (by decide)
          replace hd := hd.keep s1 (by decide)
          replace hr := hr.keep s1 (by decide)
          replace hO := hO.keep s1 (by decide)
          replace hv := hv.keep s1 (by decide)
          clear s1
          have hd0 := hd.c0
          have hd1 := hd.c1
          have hd2 := hd.c2
          dsimp only at hd0 hd1 hd2
          have hd3 := World.block_lt_of_cell? _ _ hd0
          dsimp only at hd3
          go_wp2_with fail
          clear hd0 hd1 hd2 hd3
          refine (Now_L o32 3 12 _ pn no nd _ hN).mono ?_
          rintro e w33 ⟨o33, a_hy, c_hy, he, hv0, s1⟩
          have hy := hv0 0
          have hn4 : (((rep (k + 1)).length : Nat) : Int) + 1 = (k : Int) + 2 := by simp; omega
          rw [hn4, rep_open] at he hy
          obtain rfl : e = .returned (.agg #[.int .i64 ((k : Int) + 2), .slice a_hy 0 c_hy]) := he
          replace K := K.step s1 (by decide)
          replace hM := hM.keep s1 (by decide)
          replace hN := hN.keep s1 (by decide)
          replace hH := hH.keep s1 (by decide)
          replace hG := hG.keep s1 (by decide)
          replace hu := hu.keep s1 (by decide)
          replace hd := hd.keep s1 (by decide)
          replace hr := hr.keep s1 (by decide)
          replace hO := hO.keep s1 (by decide)
          replace hv := hv.keep s1 (by decide)
          replace hS := hS.keep s1 (by decide)
          clear s1 hv0 hn4
          try clear he
          have hd0 := hd.c0
          have hd1 := hd.c1
          have hd2 := hd.c2
          dsimp only at hd0 hd1 hd2
          have hd3 := World.block_lt_of_cell? _ _ hd0
          dsimp only at hd3
          go_wp2_with fail
          clear hd0 hd1 hd2 hd3
          refine (Scan_L (q := 13) (hM := hN) (hH := hG) (hij := by decide) (hv := hy)).mono ?_
          rintro e w34 ⟨o34, a_hQ, c_hQ, rfl, hQ, s1⟩
          replace K := K.step s1 (by decide)
          replace hM := hM.keep s1 (by decide)
          replace hN := hN.keep s1 (by decide)
          replace hH := hH.keep s1 (by decide)
          replace hG := hG.keep s1 (by decide)
          replace hu := hu.keep s1 (by decide)
          replace hd := hd.keep s1 (by decide)
          replace hr := hr.keep s1 (by decide)
          replace hO := hO.keep s1 (by decide)
          replace hv := hv.keep s1 (by decide)
          replace hS := hS.keep s1 (by decide)
          replace hy := hy.keep s1 (by decide)
          clear s1
          have HRn := HR.out.n
          have SL := scanL_len (t := rep (k + 1)) (v := ⟨(k : Int) + 2, [], 0⟩) (vs := V)
          generalize scanL (rep (k + 1)) ⟨(k : Int) + 2, [], 0⟩ V = S at hS hQ SL ⊢
          have hd0 := hd.c0
          have hd1 := hd.c1
          have hd2 := hd.c2
          dsimp only at hd0 hd1 hd2
          have hd3 := World.block_lt_of_cell? _ _ hd0
          dsimp only at hd3
          go_wp2_with fail
          clear hd0 hd1 hd2 hd3
          refine (rows_same _ a_hS a_hQ c_hS c_hQ S (by omega) hS.ok hQ.ok).mono ?_
          rintro e wE ⟨rfl, hg⟩
          have s1 := hg.stp 0 o34
          clear hu hd hv hy hS hQ hO
          replace K := K.step s1 (by decide)
          replace hM := hM.keep s1 (by decide)
          replace hN := hN.keep s1 (by decide)
          replace hH := hH.keep s1 (by decide)
          replace hG := hG.keep s1 (by decide)
          replace hr := hr.keep s1 (by decide)
          clear s1 hg
          have HI2 : Hid (RdX w pm bo bd pn no nd ph pg (k + 1) wE) := ⟨_, V, _, _, _, _, HR.out.i, by have := HR.out.n; omega, K, hM, hN, hH, hG⟩
          clear K hM hN hH hG SL
          go_wp2
          go_roundw
          case rel => exact ⟨k + 1, by go_num, by omega, HI2⟩
          case measure => simp [RowKit.intOf]; omega
        · skip
          have he' : (insE (rep k ++ [1]) (vwK k) vs (z.tmod 5) == 0) = false := by simpa using he
          rw [insV_no (r := (z.tmod 5, s)) he] at hH
          have HR : Hid (RdS k vs vs []) := RdS.same HT.out
          have HW : Hid (∀ p ∈ ([] : List (Bool × Rw)), wfI p.2.1) := fun p hp => by simp at hp
          have hO := OpL.none o25 7 w25
          generalize insE (rep k ++ [1]) (vwK k) vs (z.tmod 5) = Q at he' ⊢
          clear he
          obtain ⟨V, hV⟩ : ∃ V, V = vs := ⟨_, rfl⟩
          rw [← hV] at hH
          have HR : Hid (RdS k vs V []) := by rw [hV]; exact HR
          clear hV
          have hd0 := hd.c0
          have hd1 := hd.c1
          have hd2 := hd.c2
          dsimp only at hd0 hd1 hd2
          have hd3 := World.block_lt_of_cell? _ _ hd0
          dsimp only at hd3
          go_wp2_with fail
          clear hd0 hd1 hd2 hd3
          refine (Commit_L o25 1 _ pm bo bd _ ((k : Int) + 1) hM (wfI_iff.2 (by omega))).mono ?_
          rintro e w27 ⟨he, hM0, s1⟩
          obtain rfl : e = .returned (.int .i64 0) := he.trans (by rw [rep_eE])
          rw [rep_eT] at hM0
          replace K := K.step s1 (by decide)
          replace hN := hN.keep s1 (by decide)
          replace hH := hH.keep s1 (by decide)
          replace hG := hG.keep s1 (by decide)
          replace hu := hu.keep s1 (by decide)
          replace hd := hd.keep s1 (by decide)
          replace hr := hr.keep s1 (by decide)
          replace hO := hO.keep s1 (by decide)
          replace hM := hM0
          clear s1 hM0
          try clear he
          have hd0 := hd.c0
          have hd1 := hd.c1
          have hd2 := hd.c2
          dsimp only at hd0 hd1 hd2
          have hd3 := World.block_lt_of_cell? _ _ hd0
          dsimp only at hd3
          go_wp2_with fail
          clear hd0 hd1 hd2 hd3
          refine (Redo_L (ops := []) ((k : Int) + 1) (hM := hN) (hH := hG) (hij := by decide) (hkj := by decide) (hO := hO) (hx := (wfI_iff.2 (by omega))) (hwf := HW.out) (hlim := by simp; omega)).mono ?_
          rintro e w28 ⟨he, o28, a_hG, c_hG, hG0, s1⟩
          obtain rfl : e = .returned (.int .i64 7) := he.trans (by rw [rep_redoE])
          rw [rep_redoV] at hG0
          replace K := K.step s1 (by decide)
          replace hM := hM.keep s1 (by decide)
          replace hN := hN.keep s1 (by decide)
          replace hH := hH.keep s1 (by decide)
          replace hu := hu.keep s1 (by decide)
          replace hd := hd.keep s1 (by decide)
          replace hr := hr.keep s1 (by decide)
          replace hO := hO.keep s1 (by decide)
          replace hG := hG0
          clear s1 hG0
          try clear he
          have hd0 := hd.c0
          have hd1 := hd.c1
          have hd2 := hd.c2
          dsimp only at hd0 hd1 hd2
          have hd3 := World.block_lt_of_cell? _ _ hd0
          dsimp only at hd3
          go_wp2_with fail
          clear hd0 hd1 hd2 hd3
          refine (Commit_L o28 3 _ pn no nd _ ((k : Int) + 1) hN (wfI_iff.2 (by omega))).mono ?_
          rintro e w29 ⟨he, hM0, s1⟩
          obtain rfl : e = .returned (.int .i64 0) := he.trans (by rw [rep_eE])
          rw [rep_eT] at hM0
          replace K := K.step s1 (by decide)
          replace hM := hM.keep s1 (by decide)
          replace hH := hH.keep s1 (by decide)
          replace hG := hG.keep s1 (by decide)
          replace hu := hu.keep s1 (by decide)
          replace hd := hd.keep s1 (by decide)
          replace hr := hr.keep s1 (by decide)
          replace hO := hO.keep s1 (by decide)
          replace hN := hM0
          clear s1 hM0
          try clear he
          have hd0 := hd.c0
          have hd1 := hd.c1
          have hd2 := hd.c2
          dsimp only at hd0 hd1 hd2
          have hd3 := World.block_lt_of_cell? _ _ hd0
          dsimp only at hd3
          go_wp2_with fail
          clear hd0 hd1 hd2 hd3
          refine (Redo_L (ops := []) ((k : Int) + 1) (hM := hN) (hH := hG) (hij := by decide) (hkj := by decide) (hO := hO) (hx := (wfI_iff.2 (by omega))) (hwf := HW.out) (hlim := by simp; omega)).mono ?_
          rintro e w30 ⟨he, o30, a_hG, c_hG, hG0, s1⟩
          obtain rfl : e = .returned (.int .i64 0) := he.trans (by rw [rep_redoE2])
          rw [HR.out.redo] at hG0
          replace K := K.step s1 (by decide)
          replace hM := hM.keep s1 (by decide)
          replace hN := hN.keep s1 (by decide)
          replace hH := hH.keep s1 (by decide)
          replace hu := hu.keep s1 (by decide)
          replace hd := hd.keep s1 (by decide)
          replace hr := hr.keep s1 (by decide)
          replace hO := hO.keep s1 (by decide)
          replace hG := hG0
          clear s1 hG0
          try clear he
          have hd0 := hd.c0
          have hd1 := hd.c1
          have hd2 := hd.c2
          dsimp only at hd0 hd1 hd2
          have hd3 := World.block_lt_of_cell? _ _ hd0
          dsimp only at hd3
          go_wp2_with fail
          clear hd0 hd1 hd2 hd3
          refine (Now_L o30 1 10 _ pm bo bd _ hM).mono ?_
          rintro e w31 ⟨o31, a_hv, c_hv, he, hv0, s1⟩
          have hv := hv0 0
          have hn4 : (((rep (k + 1)).length : Nat) : Int) + 1 = (k : Int) + 2 := by simp; omega
          rw [hn4, rep_open] at he hv
          obtain rfl : e = .returned (.agg #[.int .i64 ((k : Int) + 2), .slice a_hv 0 c_hv]) := he
          replace K := K.step s1 (by decide)
          replace hM := hM.keep s1 (by decide)
          replace hN := hN.keep s1 (by decide)
          replace hH := hH.keep s1 (by decide)
          replace hG := hG.keep s1 (by decide)
          replace hu := hu.keep s1 (by decide)
          replace hd := hd.keep s1 (by decide)
          replace hr := hr.keep s1 (by decide)
          replace hO := hO.keep s1 (by decide)
          clear s1 hv0 hn4
          try clear he
          have hd0 := hd.c0
          have hd1 := hd.c1
          have hd2 := hd.c2
          dsimp only at hd0 hd1 hd2
          have hd3 := World.block_lt_of_cell? _ _ hd0
          dsimp only at hd3
          go_wp2_with fail
          clear hd0 hd1 hd2 hd3
          refine (Scan_L (q := 11) (hM := hM) (hH := hH) (hij := by decide) (hv := hv)).mono ?_
          rintro e w32 ⟨o32, a_hS, c_hS, rfl, hS, s1⟩
          replace K := K.step s1 (by decide)
          replace hM := hM.keep s1 (by decide)
          replace hN := hN.keep s1 (by decide)
          replace hH := hH.keep s1 (by decide)
          replace hG := hG.keep s1 (by decide)
          replace hu := hu.keep s1 (by decide)
          replace hd := hd.keep s1 (by decide)
          replace hr := hr.keep s1 (by decide)
          replace hO := hO.keep s1 (by decide)
          replace hv := hv.keep s1 (by decide)
          clear s1
          have hd0 := hd.c0
          have hd1 := hd.c1
          have hd2 := hd.c2
          dsimp only at hd0 hd1 hd2
          have hd3 := World.block_lt_of_cell? _ _ hd0
          dsimp only at hd3
          go_wp2_with fail
          clear hd0 hd1 hd2 hd3
          refine (Now_L o32 3 12 _ pn no nd _ hN).mono ?_
          rintro e w33 ⟨o33, a_hy, c_hy, he, hv0, s1⟩
          have hy := hv0 0
          have hn4 : (((rep (k + 1)).length : Nat) : Int) + 1 = (k : Int) + 2 := by simp; omega
          rw [hn4, rep_open] at he hy
          obtain rfl : e = .returned (.agg #[.int .i64 ((k : Int) + 2), .slice a_hy 0 c_hy]) := he
          replace K := K.step s1 (by decide)
          replace hM := hM.keep s1 (by decide)
          replace hN := hN.keep s1 (by decide)
          replace hH := hH.keep s1 (by decide)
          replace hG := hG.keep s1 (by decide)
          replace hu := hu.keep s1 (by decide)
          replace hd := hd.keep s1 (by decide)
          replace hr := hr.keep s1 (by decide)
          replace hO := hO.keep s1 (by decide)
          replace hv := hv.keep s1 (by decide)
          replace hS := hS.keep s1 (by decide)
          clear s1 hv0 hn4
          try clear he
          have hd0 := hd.c0
          have hd1 := hd.c1
          have hd2 := hd.c2
          dsimp only at hd0 hd1 hd2
          have hd3 := World.block_lt_of_cell? _ _ hd0
          dsimp only at hd3
          go_wp2_with fail
          clear hd0 hd1 hd2 hd3
          refine (Scan_L (q := 13) (hM := hN) (hH := hG) (hij := by decide) (hv := hy)).mono ?_
          rintro e w34 ⟨o34, a_hQ, c_hQ, rfl, hQ, s1⟩
          replace K := K.step s1 (by decide)
          replace hM := hM.keep s1 (by decide)
          replace hN := hN.keep s1 (by decide)
          replace hH := hH.keep s1 (by decide)
          replace hG := hG.keep s1 (by decide)
          replace hu := hu.keep s1 (by decide)
          replace hd := hd.keep s1 (by decide)
          replace hr := hr.keep s1 (by decide)
          replace hO := hO.keep s1 (by decide)
          replace hv := hv.keep s1 (by decide)
          replace hS := hS.keep s1 (by decide)
          replace hy := hy.keep s1 (by decide)
          clear s1
          have HRn := HR.out.n
          have SL := scanL_len (t := rep (k + 1)) (v := ⟨(k : Int) + 2, [], 0⟩) (vs := V)
          generalize scanL (rep (k + 1)) ⟨(k : Int) + 2, [], 0⟩ V = S at hS hQ SL ⊢
          have hd0 := hd.c0
          have hd1 := hd.c1
          have hd2 := hd.c2
          dsimp only at hd0 hd1 hd2
          have hd3 := World.block_lt_of_cell? _ _ hd0
          dsimp only at hd3
          go_wp2_with fail
          clear hd0 hd1 hd2 hd3
          refine (rows_same _ a_hS a_hQ c_hS c_hQ S (by omega) hS.ok hQ.ok).mono ?_
          rintro e wE ⟨rfl, hg⟩
          have s1 := hg.stp 0 o34
          clear hu hd hv hy hS hQ hO
          replace K := K.step s1 (by decide)
          replace hM := hM.keep s1 (by decide)
          replace hN := hN.keep s1 (by decide)
          replace hH := hH.keep s1 (by decide)
          replace hG := hG.keep s1 (by decide)
          replace hr := hr.keep s1 (by decide)
          clear s1 hg
          have HI2 : Hid (RdX w pm bo bd pn no nd ph pg (k + 1) wE) := ⟨_, V, _, _, _, _, HR.out.i, by have := HR.out.n; omega, K, hM, hN, hH, hG⟩
          clear K hM hN hH hG SL
          go_wp2
          go_roundw
          case rel => exact ⟨k + 1, by go_num, by omega, HI2⟩
          case measure => simp [RowKit.intOf]; omega
      · skip
        clear hd0 hd1 hd2 hd3
        clear e0 el2 e2 e3 el3
        have hg0 := (Gr.alloc w24 (.cells #[.int .i64 (z.tmod 5), .string s] 38)).trans (Gr.drew _)
        have hr : RBox (lab o24 w24.heap.size 6) 6 ((w24.alloc (.cells #[.int .i64 (z.tmod 5), .string s] 38)).drew) w24.heap.size (z.tmod 5, s) := ⟨by simp [go_sem], by simp [go_sem], lab_new (Nat.le_refl _)⟩
        have s1 := hg0.stpL 0 o24 6
        generalize (w24.alloc (.cells #[.int .i64 (z.tmod 5), .string s] 38)).drew = wa at hg0 hr s1 ⊢
        replace K := K.step s1 (by decide)
        replace hM := hM.keep s1 (by decide)
        replace hN := hN.keep s1 (by decide)
        replace hH := hH.keep s1 (by decide)
        replace hG := hG.keep s1 (by decide)
        replace hu := hu.keep s1 (by decide)
        replace hd := hd.keep s1 (by decide)
        clear s1 hg0
        refine (Update_L (r := (z.tmod 5, s)) (hM := hM) (hH := hH) (hij := by decide) (hv := hd.vw) (ho := wfI_iff.2 (by show _ ≤ (k : Int) + 1 ∧ (k : Int) + 1 ≤ _; omega)) (hr := (wfI_iff.2 (by show _ ≤ z.tmod 5 ∧ z.tmod 5 ≤ _; omega))) (hlim := by omega)).mono ?_
        rintro e w25 ⟨rfl, o25, a_hH, c_hH, hH0, s1⟩
        replace K := K.step s1 (by decide)
        replace hM := hM.keep s1 (by decide)
        replace hN := hN.keep s1 (by decide)
        replace hG := hG.keep s1 (by decide)
        replace hu := hu.keep s1 (by decide)
        replace hd := hd.keep s1 (by decide)
        replace hr := hr.keep s1 (by decide)
        replace hH := hH0
        clear s1 hH0
        by_cases he : killE (rep k ++ [1]) (vwK k) vs (z.tmod 5) = 0
        · skip
          have HR : Hid (RdS k vs (updV (rep k ++ [1]) (vwK k) vs (z.tmod 5, s)) [(false, (z.tmod 5, s))]) := RdS.upd (r := (z.tmod 5, s)) HT.out he
          rw [he]
          clear he
          have HW : Hid (∀ p ∈ ([(false, (z.tmod 5, s))] : List (Bool × Rw)), wfI p.2.1) := fun p hp => by rw [List.mem_singleton.1 hp]; exact (wfI_iff.2 (by show _ ≤ z.tmod 5 ∧ z.tmod 5 ≤ _; omega))
          generalize updV (rep k ++ [1]) (vwK k) vs (z.tmod 5, s) = V at hH HR
          have r0 := hr.c0
          have r1 := hr.c1
          dsimp only at r0 r1
          have rl := World.block_lt_of_cell? _ _ r0
          dsimp only at rl
          have hcell : ∀ u ∈ [Value.bool false, .int .i64 (z.tmod 5), .string s], u.oneCell' = true := by intro u hu; simp at hu; rcases hu with rfl | rfl | rfl <;> rfl
          have HC := Lib.hid hcell
          clear hcell
          have hm1 : 0 + 1 ≤ maxLen := by decide
          have hm2 : (0 + 1) * 32 ≤ 140737488355328 := by decide
          go_wp2_with (at_builtin; refine wpList_append_own2 rfl _ _ 52 rfl 54 i0 _ 3 32 Try.underlying52 hi hz0 hz1 hz2 rfl (by decide) (.slice none 0 0) 0 [] rfl (by exact World.ownsRow_nil _ _ _ _) ⟨w25.heap.size, 0, none⟩ 1 1 [.bool false, .int .i64 (z.tmod 5), .string s] rfl rfl (by exact newCells) HC.out hm1 hm2 ?_; intro v2 w2 hown hgr hbk; obtain ⟨ao, co, rfl, own2, hO, s1⟩ := OpL.of_append (p := (false, (z.tmod 5, s))) (own := o25) 7 hown hgr (hbk.elim (fun e b hb => by rw [e] at hb; cases hb) id); clear hown hgr hbk)
          clear r0 r1 rl
          replace K := K.step s1 (by decide)
          replace hM := hM.keep s1 (by decide)
          replace hN := hN.keep s1 (by decide)
          replace hH := hH.keep s1 (by decide)
          replace hG := hG.keep s1 (by decide)
          replace hu := hu.keep s1 (by decide)
          replace hd := hd.keep s1 (by decide)
          replace hr := hr.keep s1 (by decide)
          clear s1
          refine (Commit_L own2 1 _ pm bo bd _ ((k : Int) + 1) hM (wfI_iff.2 (by omega))).mono ?_
          rintro e w27 ⟨he, hM0, s1⟩
          obtain rfl : e = .returned (.int .i64 0) := he.trans (by rw [rep_eE])
          rw [rep_eT] at hM0
          replace K := K.step s1 (by decide)
          replace hN := hN.keep s1 (by decide)
          replace hH := hH.keep s1 (by decide)
          replace hG := hG.keep s1 (by decide)
          replace hu := hu.keep s1 (by decide)
          replace hd := hd.keep s1 (by decide)
          replace hr := hr.keep s1 (by decide)
          replace hO := hO.keep s1 (by decide)
          replace hM := hM0
          clear s1 hM0
          try clear he
          have hd0 := hd.c0
          have hd1 := hd.c1
          have hd2 := hd.c2
          dsimp only at hd0 hd1 hd2
          have hd3 := World.block_lt_of_cell? _ _ hd0
          dsimp only at hd3
          go_wp2_with fail
          clear hd0 hd1 hd2 hd3
          refine (Redo_L (ops := [(false, (z.tmod 5, s))]) ((k : Int) + 1) (hM := hN) (hH := hG) (hij := by decide) (hkj := by decide) (hO := hO) (hx := (wfI_iff.2 (by omega))) (hwf := HW.out) (hlim := by simp; omega)).mono ?_
          rintro e w28 ⟨he, o28, a_hG, c_hG, hG0, s1⟩
          obtain rfl : e = .returned (.int .i64 7) := he.trans (by rw [rep_redoE])
          rw [rep_redoV] at hG0
          replace K := K.step s1 (by decide)
          replace hM := hM.keep s1 (by decide)
          replace hN := hN.keep s1 (by decide)
          replace hH := hH.keep s1 (by decide)
          replace hu := hu.keep s1 (by decide)
          replace hd := hd.keep s1 (by decide)
          replace hr := hr.keep s1 (by decide)
          replace hO := hO.keep s1 (by decide)
          replace hG := hG0
          clear s1 hG0
          try clear he
          have hd0 := hd.c0
          have hd1 := hd.c1
          have hd2 := hd.c2
          dsimp only at hd0 hd1 hd2
          have hd3 := World.block_lt_of_cell? _ _ hd0
          dsimp only at hd3
          go_wp2_with fail
          clear hd0 hd1 hd2 hd3
          refine (Commit_L o28 3 _ pn no nd _ ((k : Int) + 1) hN (wfI_iff.2 (by omega))).mono ?_
          rintro e w29 ⟨he, hM0, s1⟩
          obtain rfl : e = .returned (.int .i64 0) := he.trans (by rw [rep_eE])
          rw [rep_eT] at hM0
          replace K := K.step s1 (by decide)
          replace hM := hM.keep s1 (by decide)
          replace hH := hH.keep s1 (by decide)
          replace hG := hG.keep s1 (by decide)
          replace hu := hu.keep s1 (by decide)
          replace hd := hd.keep s1 (by decide)
          replace hr := hr.keep s1 (by decide)
          replace hO := hO.keep s1 (by decide)
          replace hN := hM0
          clear s1 hM0
          try clear he
          have hd0 := hd.c0
          have hd1 := hd.c1
          have hd2 := hd.c2
          dsimp only at hd0 hd1 hd2
          have hd3 := World.block_lt_of_cell? _ _ hd0
          dsimp only at hd3
          go_wp2_with fail
          clear hd0 hd1 hd2 hd3
          refine (Redo_L (ops := [(false, (z.tmod 5, s))]) ((k : Int) + 1) (hM := hN) (hH := hG) (hij := by decide) (hkj := by decide) (hO := hO) (hx := (wfI_iff.2 (by omega))) (hwf := HW.out) (hlim := by simp; omega)).mono ?_
          rintro e w30 ⟨he, o30, a_hG, c_hG, hG0, s1⟩
          obtain rfl : e = .returned (.int .i64 0) := he.trans (by rw [rep_redoE2])
          rw [HR.out.redo] at hG0
          replace K := K.step s1 (by decide)
          replace hM := hM.keep s1 (by decide)
          replace hN := hN.keep s1 (by decide)
          replace hH := hH.keep s1 (by decide)
          replace hu := hu.keep s1 (by decide)
          replace hd := hd.keep s1 (by decide)
          replace hr := hr.keep s1 (by decide)
          replace hO := hO.keep s1 (by decide)
          replace hG := hG0
          clear s1 hG0
          try clear he
          have hd0 := hd.c0
          have hd1 := hd.c1
          have hd2 := hd.c2
          dsimp only at hd0 hd1 hd2
          have hd3 := World.block_lt_of_cell? _ _ hd0
          dsimp only at hd3
          go_wp2_with fail
          clear hd0 hd1 hd2 hd3
          refine (Now_L o30 1 10 _ pm bo bd _ hM).mono ?_
          rintro e w31 ⟨o31, a_hv, c_hv, he, hv0, s1⟩
          have hv := hv0 0
          have hn4 : (((rep (k + 1)).length : Nat) : Int) + 1 = (k : Int) + 2 := by simp; omega
          rw [hn4, rep_open] at he hv
          obtain rfl : e = .returned (.agg #[.int .i64 ((k : Int) + 2), .slice a_hv 0 c_hv]) := he
          replace K := K.step s1 (by decide)
          replace hM := hM.keep s1 (by decide)
          replace hN := hN.keep s1 (by decide)
          replace hH := hH.keep s1 (by decide)
          replace hG := hG.keep s1 (by decide)
          replace hu := hu.keep s1 (by decide)
          replace hd := hd.keep s1 (by decide)
          replace hr := hr.keep s1 (by decide)
          replace hO := hO.keep s1 (by decide)
          clear s1 hv0 hn4
          try clear he
          have hd0 := hd.c0
          have hd1 := hd.c1
          have hd2 := hd.c2
          dsimp only at hd0 hd1 hd2
          have hd3 := World.block_lt_of_cell? _ _ hd0
          dsimp only at hd3
          go_wp2_with fail
          clear hd0 hd1 hd2 hd3
          refine (Scan_L (q := 11) (hM := hM) (hH := hH) (hij := by decide) (hv := hv)).mono ?_
          rintro e w32 ⟨o32, a_hS, c_hS, rfl, hS, s1⟩
          replace K := K.step s1 (by decide)
          replace hM := hM.keep s1 (by decide)
          replace hN := hN.keep s1 (by decide)
          replace hH := hH.keep s1 (by decide)
          replace hG := hG.keep s1 (by decide)
          replace hu := hu.keep s1 (by decide)
          replace hd := hd.keep s1 (by decide)
          replace hr := hr.keep s1 (by decide)
          replace hO := hO.keep s1 (by decide)
          replace hv := hv.keep s1 (by decide)
          clear s1
          have hd0 := hd.c0
          have hd1 := hd.c1
          have hd2 := hd.c2
          dsimp only at hd0 hd1 hd2
          have hd3 := World.block_lt_of_cell? _ _ hd0
          dsimp only at hd3
          go_wp2_with fail
          clear hd0 hd1 hd2 hd3
          refine (Now_L o32 3 12 _ pn no nd _ hN).mono ?_
          rintro e w33 ⟨o33, a_hy, c_hy, he, hv0, s1⟩
          have hy := hv0 0
          have hn4 : (((rep (k + 1)).length : Nat) : Int) + 1 = (k : Int) + 2 := by simp; omega
          rw [hn4, rep_open] at he hy
          obtain rfl : e = .returned (.agg #[.int .i64 ((k : Int) + 2), .slice a_hy 0 c_hy]) := he
          replace K := K.step s1 (by decide)
          replace hM := hM.keep s1 (by decide)
          replace hN := hN.keep s1 (by decide)
          replace hH := hH.keep s1 (by decide)
          replace hG := hG.keep s1 (by decide)
          replace hu := hu.keep s1 (by decide)
          replace hd := hd.keep s1 (by decide)
          replace hr := hr.keep s1 (by decide)
          replace hO := hO.keep s1 (by decide)
          replace hv := hv.keep s1 (by decide)
          replace hS := hS.keep s1 (by decide)
          clear s1 hv0 hn4
          try clear he
          have hd0 := hd.c0
          have hd1 := hd.c1
          have hd2 := hd.c2
          dsimp only at hd0 hd1 hd2
          have hd3 := World.block_lt_of_cell? _ _ hd0
          dsimp only at hd3
          go_wp2_with fail
          clear hd0 hd1 hd2 hd3
          refine (Scan_L (q := 13) (hM := hN) (hH := hG) (hij := by decide) (hv := hy)).mono ?_
          rintro e w34 ⟨o34, a_hQ, c_hQ, rfl, hQ, s1⟩
          replace K := K.step s1 (by decide)
          replace hM := hM.keep s1 (by decide)
          replace hN := hN.keep s1 (by decide)
          replace hH := hH.keep s1 (by decide)
          replace hG := hG.keep s1 (by decide)
          replace hu := hu.keep s1 (by decide)
          replace hd := hd.keep s1 (by decide)
          replace hr := hr.keep s1 (by decide)
          replace hO := hO.keep s1 (by decide)
          replace hv := hv.keep s1 (by decide)
          replace hS := hS.keep s1 (by decide)
          replace hy := hy.keep s1 (by decide)
          clear s1
          have HRn := HR.out.n
          have SL := scanL_len (t := rep (k + 1)) (v := ⟨(k : Int) + 2, [], 0⟩) (vs := V)
          generalize scanL (rep (k + 1)) ⟨(k : Int) + 2, [], 0⟩ V = S at hS hQ SL ⊢
          have hd0 := hd.c0
          have hd1 := hd.c1
          have hd2 := hd.c2
          dsimp only at hd0 hd1 hd2
          have hd3 := World.block_lt_of_cell? _ _ hd0
          dsimp only at hd3
          go_wp2_with fail
          clear hd0 hd1 hd2 hd3
          refine (rows_same _ a_hS a_hQ c_hS c_hQ S (by omega) hS.ok hQ.ok).mono ?_
          rintro e wE ⟨rfl, hg⟩
          have s1 := hg.stp 0 o34
          clear hu hd hv hy hS hQ hO
          replace K := K.step s1 (by decide)
          replace hM := hM.keep s1 (by decide)
          replace hN := hN.keep s1 (by decide)
          replace hH := hH.keep s1 (by decide)
          replace hG := hG.keep s1 (by decide)
          replace hr := hr.keep s1 (by decide)
          clear s1 hg
          have HI2 : Hid (RdX w pm bo bd pn no nd ph pg (k + 1) wE) := ⟨_, V, _, _, _, _, HR.out.i, by have := HR.out.n; omega, K, hM, hN, hH, hG⟩
          clear K hM hN hH hG SL
          go_wp2
          go_roundw
          case rel => exact ⟨k + 1, by go_num, by omega, HI2⟩
          case measure => simp [RowKit.intOf]; omega
        · skip
          have he' : (killE (rep k ++ [1]) (vwK k) vs (z.tmod 5) == 0) = false := by simpa using he
          rw [updV_no (r := (z.tmod 5, s)) he] at hH
          have HR : Hid (RdS k vs vs []) := RdS.same HT.out
          have HW : Hid (∀ p ∈ ([] : List (Bool × Rw)), wfI p.2.1) := fun p hp => by simp at hp
          have hO := OpL.none o25 7 w25
          generalize killE (rep k ++ [1]) (vwK k) vs (z.tmod 5) = Q at he' ⊢
          clear he
          obtain ⟨V, hV⟩ : ∃ V, V = vs := ⟨_, rfl⟩
          rw [← hV] at hH
          have HR : Hid (RdS k vs V []) := by rw [hV]; exact HR
          clear hV
          have hd0 := hd.c0
          have hd1 := hd.c1
          have hd2 := hd.c2
          dsimp only at hd0 hd1 hd2
          have hd3 := World.block_lt_of_cell? _ _ hd0
          dsimp only at hd3
          go_wp2_with fail
          clear hd0 hd1 hd2 hd3
          refine (Commit_L o25 1 _ pm bo bd _ ((k : Int) + 1) hM (wfI_iff.2 (by omega))).mono ?_
          rintro e w27 ⟨he, hM0, s1⟩
          obtain rfl : e = .returned (.int .i64 0) := he.trans (by rw [rep_eE])
          rw [rep_eT] at hM0
          replace K := K.step s1 (by decide)
          replace hN := hN.keep s1 (by decide)
          replace hH := hH.keep s1 (by decide)
          replace hG := hG.keep s1 (by decide)
          replace hu := hu.keep s1 (by decide)
          replace hd := hd.keep s1 (by decide)
          replace hr := hr.keep s1 (by decide)
          replace hO := hO.keep s1 (by decide)
          replace hM := hM0
          clear s1 hM0
          try clear he
          have hd0 := hd.c0
          have hd1 := hd.c1
          have hd2 := hd.c2
          dsimp only at hd0 hd1 hd2
          have hd3 := World.block_lt_of_cell? _ _ hd0
          dsimp only at hd3
          go_wp2_with fail
          clear hd0 hd1 hd2 hd3
          refine (Redo_L (ops := []) ((k : Int) + 1) (hM := hN) (hH := hG) (hij := by decide) (hkj := by decide) (hO := hO) (hx := (wfI_iff.2 (by omega))) (hwf := HW.out) (hlim := by simp; omega)).mono ?_
          rintro e w28 ⟨he, o28, a_hG, c_hG, hG0, s1⟩
          obtain rfl : e = .returned (.int .i64 7) := he.trans (by rw [rep_redoE])
          rw [rep_redoV] at hG0
          replace K := K.step s1 (by decide)
          replace hM := hM.keep s1 (by decide)
          replace hN := hN.keep s1 (by decide)
          replace hH := hH.keep s1 (by decide)
          replace hu := hu.keep s1 (by decide)
          replace hd := hd.keep s1 (by decide)
          replace hr := hr.keep s1 (by decide)
          replace hO := hO.keep s1 (by decide)
          replace hG := hG0
          clear s1 hG0
          try clear he
          have hd0 := hd.c0
          have hd1 := hd.c1
          have hd2 := hd.c2
          dsimp only at hd0 hd1 hd2
          have hd3 := World.block_lt_of_cell? _ _ hd0
          dsimp only at hd3
          go_wp2_with fail
          clear hd0 hd1 hd2 hd3
          refine (Commit_L o28 3 _ pn no nd _ ((k : Int) + 1) hN (wfI_iff.2 (by omega))).mono ?_
          rintro e w29 ⟨he, hM0, s1⟩
          obtain rfl : e = .returned (.int .i64 0) := he.trans (by rw [rep_eE])
          rw [rep_eT] at hM0
          replace K := K.step s1 (by decide)
          replace hM := hM.keep s1 (by decide)
          replace hH := hH.keep s1 (by decide)
          replace hG := hG.keep s1 (by decide)
          replace hu := hu.keep s1 (by decide)
          replace hd := hd.keep s1 (by decide)
          replace hr := hr.keep s1 (by decide)
          replace hO := hO.keep s1 (by decide)
          replace hN := hM0
          clear s1 hM0
          try clear he
          have hd0 := hd.c0
          have hd1 := hd.c1
          have hd2 := hd.c2
          dsimp only at hd0 hd1 hd2
          have hd3 := World.block_lt_of_cell? _ _ hd0
          dsimp only at hd3
          go_wp2_with fail
          clear hd0 hd1 hd2 hd3
          refine (Redo_L (ops := []) ((k : Int) + 1) (hM := hN) (hH := hG) (hij := by decide) (hkj := by decide) (hO := hO) (hx := (wfI_iff.2 (by omega))) (hwf := HW.out) (hlim := by simp; omega)).mono ?_
          rintro e w30 ⟨he, o30, a_hG, c_hG, hG0, s1⟩
          obtain rfl : e = .returned (.int .i64 0) := he.trans (by rw [rep_redoE2])
          rw [HR.out.redo] at hG0
          replace K := K.step s1 (by decide)
          replace hM := hM.keep s1 (by decide)
          replace hN := hN.keep s1 (by decide)
          replace hH := hH.keep s1 (by decide)
          replace hu := hu.keep s1 (by decide)
          replace hd := hd.keep s1 (by decide)
          replace hr := hr.keep s1 (by decide)
          replace hO := hO.keep s1 (by decide)
          replace hG := hG0
          clear s1 hG0
          try clear he
          have hd0 := hd.c0
          have hd1 := hd.c1
          have hd2 := hd.c2
          dsimp only at hd0 hd1 hd2
          have hd3 := World.block_lt_of_cell? _ _ hd0
          dsimp only at hd3
          go_wp2_with fail
          clear hd0 hd1 hd2 hd3
          refine (Now_L o30 1 10 _ pm bo bd _ hM).mono ?_
          rintro e w31 ⟨o31, a_hv, c_hv, he, hv0, s1⟩
          have hv := hv0 0
          have hn4 : (((rep (k + 1)).length : Nat) : Int) + 1 = (k : Int) + 2 := by simp; omega
          rw [hn4, rep_open] at he hv
          obtain rfl : e = .returned (.agg #[.int .i64 ((k : Int) + 2), .slice a_hv 0 c_hv]) := he
          replace K := K.step s1 (by decide)
          replace hM := hM.keep s1 (by decide)
          replace hN := hN.keep s1 (by decide)
          replace hH := hH.keep s1 (by decide)
          replace hG := hG.keep s1 (by decide)
          replace hu := hu.keep s1 (by decide)
          replace hd := hd.keep s1 (by decide)
          replace hr := hr.keep s1 (by decide)
          replace hO := hO.keep s1 (by decide)
          clear s1 hv0 hn4
          try clear he
          have hd0 := hd.c0
          have hd1 := hd.c1
          have hd2 := hd.c2
          dsimp only at hd0 hd1 hd2
          have hd3 := World.block_lt_of_cell? _ _ hd0
          dsimp only at hd3
          go_wp2_with fail
          clear hd0 hd1 hd2 hd3
          refine (Scan_L (q := 11) (hM := hM) (hH := hH) (hij := by decide) (hv := hv)).mono ?_
          rintro e w32 ⟨o32, a_hS, c_hS, rfl, hS, s1⟩
          replace K := K.step s1 (by decide)
          replace hM := hM.keep s1 (by decide)
          replace hN := hN.keep s1 (by decide)
          replace hH := hH.keep s1 (by decide)
          replace hG := hG.keep s1 (by decide)
          replace hu := hu.keep s1 (by decide)
          replace hd := hd.keep s1 (by decide)
          replace hr := hr.keep s1 (by decide)
          replace hO := hO.keep s1 (by decide)
          replace hv := hv.keep s1 (by decide)
          clear s1
          have hd0 := hd.c0
          have hd1 := hd.c1
          have hd2 := hd.c2
          dsimp only at hd0 hd1 hd2
          have hd3 := World.block_lt_of_cell? _ _ hd0
          dsimp only at hd3
          go_wp2_with fail
          clear hd0 hd1 hd2 hd3
          refine (Now_L o32 3 12 _ pn no nd _ hN).mono ?_
          rintro e w33 ⟨o33, a_hy, c_hy, he, hv0, s1⟩
          have hy := hv0 0
          have hn4 : (((rep (k + 1)).length : Nat) : Int) + 1 = (k : Int) + 2 := by simp; omega
          rw [hn4, rep_open] at he hy
          obtain rfl : e = .returned (.agg #[.int .i64 ((k : Int) + 2), .slice a_hy 0 c_hy]) := he
          replace K := K.step s1 (by decide)
          replace hM := hM.keep s1 (by decide)
          replace hN := hN.keep s1 (by decide)
          replace hH := hH.keep s1 (by decide)
          replace hG := hG.keep s1 (by decide)
          replace hu := hu.keep s1 (by decide)
          replace hd := hd.keep s1 (by decide)
          replace hr := hr.keep s1 (by decide)
          replace hO := hO.keep s1 (by decide)
          replace hv := hv.keep s1 (by decide)
          replace hS := hS.keep s1 (by decide)
          clear s1 hv0 hn4
          try clear he
          have hd0 := hd.c0
          have hd1 := hd.c1
          have hd2 := hd.c2
          dsimp only at hd0 hd1 hd2
          have hd3 := World.block_lt_of_cell? _ _ hd0
          dsimp only at hd3
          go_wp2_with fail
          clear hd0 hd1 hd2 hd3
          refine (Scan_L (q := 13) (hM := hN) (hH := hG) (hij := by decide) (hv := hy)).mono ?_
          rintro e w34 ⟨o34, a_hQ, c_hQ, rfl, hQ, s1⟩
          replace K := K.step s1 (by decide)
          replace hM := hM.keep s1 (by decide)
          replace hN := hN.keep s1 (by decide)
          replace hH := hH.keep s1 (by decide)
          replace hG := hG.keep s1 (by decide)
          replace hu := hu.keep s1 (by decide)
          replace hd := hd.keep s1 (by decide)
          replace hr := hr.keep s1 (by decide)
          replace hO := hO.keep s1 (by decide)
          replace hv := hv.keep s1 (by decide)
          replace hS := hS.keep s1 (by decide)
          replace hy := hy.keep s1 (by decide)
          clear s1
          have HRn := HR.out.n
          have SL := scanL_len (t := rep (k + 1)) (v := ⟨(k : Int) + 2, [], 0⟩) (vs := V)
          generalize scanL (rep (k + 1)) ⟨(k : Int) + 2, [], 0⟩ V = S at hS hQ SL ⊢
          have hd0 := hd.c0
          have hd1 := hd.c1
          have hd2 := hd.c2
          dsimp only at hd0 hd1 hd2
          have hd3 := World.block_lt_of_cell? _ _ hd0
          dsimp only at hd3
          go_wp2_with fail
          clear hd0 hd1 hd2 hd3
          refine (rows_same _ a_hS a_hQ c_hS c_hQ S (by omega) hS.ok hQ.ok).mono ?_
          rintro e wE ⟨rfl, hg⟩
          have s1 := hg.stp 0 o34
          clear hu hd hv hy hS hQ hO
          replace K := K.step s1 (by decide)
          replace hM := hM.keep s1 (by decide)
          replace hN := hN.keep s1 (by decide)
          replace hH := hH.keep s1 (by decide)
          replace hG := hG.keep s1 (by decide)
          replace hr := hr.keep s1 (by decide)
          clear s1 hg
          have HI2 : Hid (RdX w pm bo bd pn no nd ph pg (k + 1) wE) := ⟨_, V, _, _, _, _, HR.out.i, by have := HR.out.n; omega, K, hM, hN, hH, hG⟩
          clear K hM hN hH hG SL
          go_wp2
          go_roundw
          case rel => exact ⟨k + 1, by go_num, by omega, HI2⟩
          case measure => simp [RowKit.intOf]; omega
      · skip
        clear hd0 hd1 hd2 hd3
        clear e0 el2 e2 e3 el3
        have hg0 := (Gr.alloc w24 (.cells #[.int .i64 (z.tmod 5), .string s] 38)).trans (Gr.drew _)
        have hr : RBox (lab o24 w24.heap.size 6) 6 ((w24.alloc (.cells #[.int .i64 (z.tmod 5), .string s] 38)).drew) w24.heap.size (z.tmod 5, s) := ⟨by simp [go_sem], by simp [go_sem], lab_new (Nat.le_refl _)⟩
        have s1 := hg0.stpL 0 o24 6
        generalize (w24.alloc (.cells #[.int .i64 (z.tmod 5), .string s] 38)).drew = wa at hg0 hr s1 ⊢
        replace K := K.step s1 (by decide)
        replace hM := hM.keep s1 (by decide)
        replace hN := hN.keep s1 (by decide)
        replace hH := hH.keep s1 (by decide)
        replace hG := hG.keep s1 (by decide)
        replace hu := hu.keep s1 (by decide)
        replace hd := hd.keep s1 (by decide)
        clear s1 hg0
        refine (Delete_L (key := z.tmod 5) (hM := hM) (hH := hH) (hij := by decide) (hv := hd.vw) (ho := wfI_iff.2 (by show _ ≤ (k : Int) + 1 ∧ (k : Int) + 1 ≤ _; omega))).mono ?_
        rintro e w25 ⟨rfl, o25, a_hH, c_hH, hH0, s1⟩
        replace K := K.step s1 (by decide)
        replace hM := hM.keep s1 (by decide)
        replace hN := hN.keep s1 (by decide)
        replace hG := hG.keep s1 (by decide)
        replace hu := hu.keep s1 (by decide)
        replace hd := hd.keep s1 (by decide)
        replace hr := hr.keep s1 (by decide)
        replace hH := hH0
        clear s1 hH0
        by_cases he : killE (rep k ++ [1]) (vwK k) vs (z.tmod 5) = 0
        · skip
          have HR : Hid (RdS k vs (killV (rep k ++ [1]) (vwK k) vs (z.tmod 5)) [(true, (z.tmod 5, s))]) := RdS.kil (r := (z.tmod 5, s)) HT.out he
          rw [he]
          clear he
          have HW : Hid (∀ p ∈ ([(true, (z.tmod 5, s))] : List (Bool × Rw)), wfI p.2.1) := fun p hp => by rw [List.mem_singleton.1 hp]; exact (wfI_iff.2 (by show _ ≤ z.tmod 5 ∧ z.tmod 5 ≤ _; omega))
          generalize killV (rep k ++ [1]) (vwK k) vs (z.tmod 5) = V at hH HR
          have r0 := hr.c0
          have r1 := hr.c1
          dsimp only at r0 r1
          have rl := World.block_lt_of_cell? _ _ r0
          dsimp only at rl
          have hcell : ∀ u ∈ [Value.bool true, .int .i64 (z.tmod 5), .string s], u.oneCell' = true := by intro u hu; simp at hu; rcases hu with rfl | rfl | rfl <;> rfl
          have HC := Lib.hid hcell
          clear hcell
          have hm1 : 0 + 1 ≤ maxLen := by decide
          have hm2 : (0 + 1) * 32 ≤ 140737488355328 := by decide
          go_wp2_with (at_builtin; refine wpList_append_own2 rfl _ _ 52 rfl 54 i0 _ 3 32 Try.underlying52 hi hz0 hz1 hz2 rfl (by decide) (.slice none 0 0) 0 [] rfl (by exact World.ownsRow_nil _ _ _ _) ⟨w25.heap.size, 0, none⟩ 1 1 [.bool true, .int .i64 (z.tmod 5), .string s] rfl rfl (by exact newCells) HC.out hm1 hm2 ?_; intro v2 w2 hown hgr hbk; obtain ⟨ao, co, rfl, own2, hO, s1⟩ := OpL.of_append (p := (true, (z.tmod 5, s))) (own := o25) 7 hown hgr (hbk.elim (fun e b hb => by rw [e] at hb; cases hb) id); clear hown hgr hbk)
          clear r0 r1 rl
          replace K := K.step s1 (by decide)
          replace hM := hM.keep s1 (by decide)
          replace hN := hN.keep s1 (by decide)
          replace hH := hH.keep s1 (by decide)
          replace hG := hG.keep s1 (by decide)
          replace hu := hu.keep s1 (by decide)
          replace hd := hd.keep s1 (by decide)
          replace hr := hr.keep s1 (by decide)
          clear s1
          refine (Commit_L own2 1 _ pm bo bd _ ((k : Int) + 1) hM (wfI_iff.2 (by omega))).mono ?_
          rintro e w27 ⟨he, hM0, s1⟩
          obtain rfl : e = .returned (.int .i64 0) := he.trans (by rw [rep_eE])
          rw [rep_eT] at hM0
          replace K := K.step s1 (by decide)
          replace hN := hN.keep s1 (by decide)
          replace hH := hH.keep s1 (by decide)
          replace hG := hG.keep s1 (by decide)
          replace hu := hu.keep s1 (by decide)
          replace hd := hd.keep s1 (by decide)
          replace hr := hr.keep s1 (by decide)
          replace hO := hO.keep s1 (by decide)
          replace hM := hM0
          clear s1 hM0
          try clear he
          have hd0 := hd.c0
          have hd1 := hd.c1
          have hd2 := hd.c2
          dsimp only at hd0 hd1 hd2
          have hd3 := World.block_lt_of_cell? _ _ hd0
          dsimp only at hd3
          go_wp2_with fail
          clear hd0 hd1 hd2 hd3
          refine (Redo_L (ops := [(true, (z.tmod 5, s))]) ((k : Int) + 1) (hM := hN) (hH := hG) (hij := by decide) (hkj := by decide) (hO := hO) (hx := (wfI_iff.2 (by omega))) (hwf := HW.out) (hlim := by simp; omega)).mono ?_
          rintro e w28 ⟨he, o28, a_hG, c_hG, hG0, s1⟩
          obtain rfl : e = .returned (.int .i64 7) := he.trans (by rw [rep_redoE])
          rw [rep_redoV] at hG0
          replace K := K.step s1 (by decide)
          replace hM := hM.keep s1 (by decide)
          replace hN := hN.keep s1 (by decide)
          replace hH := hH.keep s1 (by decide)
          replace hu := hu.keep s1 (by decide)
          replace hd := hd.keep s1 (by decide)
          replace hr := hr.keep s1 (by decide)
          replace hO := hO.keep s1 (by decide)
          replace hG := hG0
          clear s1 hG0
          try clear he
          have hd0 := hd.c0
          have hd1 := hd.c1
          have hd2 := hd.c2
          dsimp only at hd0 hd1 hd2
          have hd3 := World.block_lt_of_cell? _ _ hd0
          dsimp only at hd3
          go_wp2_with fail
          clear hd0 hd1 hd2 hd3
          refine (Commit_L o28 3 _ pn no nd _ ((k : Int) + 1) hN (wfI_iff.2 (by omega))).mono ?_
          rintro e w29 ⟨he, hM0, s1⟩
          obtain rfl : e = .returned (.int .i64 0) := he.trans (by rw [rep_eE])
          rw [rep_eT] at hM0
          replace K := K.step s1 (by decide)
          replace hM := hM.keep s1 (by decide)
          replace hH := hH.keep s1 (by decide)
          replace hG := hG.keep s1 (by decide)
          replace hu := hu.keep s1 (by decide)
          replace hd := hd.keep s1 (by decide)
          replace hr := hr.keep s1 (by decide)
          replace hO := hO.keep s1 (by decide)
          replace hN := hM0
          clear s1 hM0
          try clear he
          have hd0 := hd.c0
          have hd1 := hd.c1
          have hd2 := hd.c2
          dsimp only at hd0 hd1 hd2
          have hd3 := World.block_lt_of_cell? _ _ hd0
          dsimp only at hd3
          go_wp2_with fail
          clear hd0 hd1 hd2 hd3
          refine (Redo_L (ops := [(true, (z.tmod 5, s))]) ((k : Int) + 1) (hM := hN) (hH := hG) (hij := by decide) (hkj := by decide) (hO := hO) (hx := (wfI_iff.2 (by omega))) (hwf := HW.out) (hlim := by simp; omega)).mono ?_
          rintro e w30 ⟨he, o30, a_hG, c_hG, hG0, s1⟩
          obtain rfl : e = .returned (.int .i64 0) := he.trans (by rw [rep_redoE2])
          rw [HR.out.redo] at hG0
          replace K := K.step s1 (by decide)
          replace hM := hM.keep s1 (by decide)
          replace hN := hN.keep s1 (by decide)
          replace hH := hH.keep s1 (by decide)
          replace hu := hu.keep s1 (by decide)
          replace hd := hd.keep s1 (by decide)
          replace hr := hr.keep s1 (by decide)
          replace hO := hO.keep s1 (by decide)
          replace hG := hG0
          clear s1 hG0
          try clear he
          have hd0 := hd.c0
          have hd1 := hd.c1
          have hd2 := hd.c2
          dsimp only at hd0 hd1 hd2
          have hd3 := World.block_lt_of_cell? _ _ hd0
          dsimp only at hd3
          go_wp2_with fail
          clear hd0 hd1 hd2 hd3
          refine (Now_L o30 1 10 _ pm bo bd _ hM).mono ?_
          rintro e w31 ⟨o31, a_hv, c_hv, he, hv0, s1⟩
          have hv := hv0 0
          have hn4 : (((rep (k + 1)).length : Nat) : Int) + 1 = (k : Int) + 2 := by simp; omega
          rw [hn4, rep_open] at he hv
          obtain rfl : e = .returned (.agg #[.int .i64 ((k : Int) + 2), .slice a_hv 0 c_hv]) := he
          replace K := K.step s1 (by decide)
          replace hM := hM.keep s1 (by decide)
          replace hN := hN.keep s1 (by decide)
          replace hH := hH.keep s1 (by decide)
          replace hG := hG.keep s1 (by decide)
          replace hu := hu.keep s1 (by decide)
          replace hd := hd.keep s1 (by decide)
          replace hr := hr.keep s1 (by decide)
          replace hO := hO.keep s1 (by decide)
          clear s1 hv0 hn4
          try clear he
          have hd0 := hd.c0
          have hd1 := hd.c1
          have hd2 := hd.c2
          dsimp only at hd0 hd1 hd2
          have hd3 := World.block_lt_of_cell? _ _ hd0
          dsimp only at hd3
          go_wp2_with fail
          clear hd0 hd1 hd2 hd3
          refine (Scan_L (q := 11) (hM := hM) (hH := hH) (hij := by decide) (hv := hv)).mono ?_
          rintro e w32 ⟨o32, a_hS, c_hS, rfl, hS, s1⟩
          replace K := K.step s1 (by decide)
          replace hM := hM.keep s1 (by decide)
          replace hN := hN.keep s1 (by decide)
          replace hH := hH.keep s1 (by decide)
          replace hG := hG.keep s1 (by decide)
          replace hu := hu.keep s1 (by decide)
          replace hd := hd.keep s1 (by decide)
          replace hr := hr.keep s1 (by decide)
          replace hO := hO.keep s1 (by decide)
          replace hv := hv.keep s1 (by decide)
          clear s1
          have hd0 := hd.c0
          have hd1 := hd.c1
          have hd2 := hd.c2
          dsimp only at hd0 hd1 hd2
          have hd3 := World.block_lt_of_cell? _ _ hd0
          dsimp only at hd3
          go_wp2_with fail
          clear hd0 hd1 hd2 hd3
          refine (Now_L o32 3 12 _ pn no nd _ hN).mono ?_
          rintro e w33 ⟨o33, a_hy, c_hy, he, hv0, s1⟩
          have hy := hv0 0
          have hn4 : (((rep (k + 1)).length : Nat) : Int) + 1 = (k : Int) + 2 := by simp; omega
          rw [hn4, rep_open] at he hy
          obtain rfl : e = .returned (.agg #[.int .i64 ((k : Int) + 2), .slice a_hy 0 c_hy]) := he
          replace K := K.step s1 (by decide)
          replace hM := hM.keep s1 (by decide)
          replace hN := hN.keep s1 (by decide)
          replace hH := hH.keep s1 (by decide)
          replace hG := hG.keep s1 (by decide)
          replace hu := hu.keep s1 (by decide)
          replace hd := hd.keep s1 (by decide)
          replace hr := hr.keep s1 (by decide)
          replace hO := hO.keep s1 (by decide)
          replace hv := hv.keep s1 (by decide)
          replace hS := hS.keep s1 (by decide)
          clear s1 hv0 hn4
          try clear he
          have hd0 := hd.c0
          have hd1 := hd.c1
          have hd2 := hd.c2
          dsimp only at hd0 hd1 hd2
          have hd3 := World.block_lt_of_cell? _ _ hd0
          dsimp only at hd3
          go_wp2_with fail
          clear hd0 hd1 hd2 hd3
          refine (Scan_L (q := 13) (hM := hN) (hH := hG) (hij := by decide) (hv := hy)).mono ?_
          rintro e w34 ⟨o34, a_hQ, c_hQ, rfl, hQ, s1⟩
          replace K := K.step s1 (by decide)
          replace hM := hM.keep s1 (by decide)
          replace hN := hN.keep s1 (by decide)
          replace hH := hH.keep s1 (by decide)
          replace hG := hG.keep s1 (by decide)
          replace hu := hu.keep s1 (by decide)
          replace hd := hd.keep s1 (by decide)
          replace hr := hr.keep s1 (by decide)
          replace hO := hO.keep s1 (by decide)
          replace hv := hv.keep s1 (by decide)
          replace hS := hS.keep s1 (by decide)
          replace hy := hy.keep s1 (by decide)
          clear s1
          have HRn := HR.out.n
          have SL := scanL_len (t := rep (k + 1)) (v := ⟨(k : Int) + 2, [], 0⟩) (vs := V)
          generalize scanL (rep (k + 1)) ⟨(k : Int) + 2, [], 0⟩ V = S at hS hQ SL ⊢
          have hd0 := hd.c0
          have hd1 := hd.c1
          have hd2 := hd.c2
          dsimp only at hd0 hd1 hd2
          have hd3 := World.block_lt_of_cell? _ _ hd0
          dsimp only at hd3
          go_wp2_with fail
          clear hd0 hd1 hd2 hd3
          refine (rows_same _ a_hS a_hQ c_hS c_hQ S (by omega) hS.ok hQ.ok).mono ?_
          rintro e wE ⟨rfl, hg⟩
          have s1 := hg.stp 0 o34
          clear hu hd hv hy hS hQ hO
          replace K := K.step s1 (by decide)
          replace hM := hM.keep s1 (by decide)
          replace hN := hN.keep s1 (by decide)
          replace hH := hH.keep s1 (by decide)
          replace hG := hG.keep s1 (by decide)
          replace hr := hr.keep s1 (by decide)
          clear s1 hg
          have HI2 : Hid (RdX w pm bo bd pn no nd ph pg (k + 1) wE) := ⟨_, V, _, _, _, _, HR.out.i, by have := HR.out.n; omega, K, hM, hN, hH, hG⟩
          clear K hM hN hH hG SL
          go_wp2
          go_roundw
          case rel => exact ⟨k + 1, by go_num, by omega, HI2⟩
          case measure => simp [RowKit.intOf]; omega
        · skip
          have he' : (killE (rep k ++ [1]) (vwK k) vs (z.tmod 5) == 0) = false := by simpa using he
          rw [killV_no he] at hH
          have HR : Hid (RdS k vs vs []) := RdS.same HT.out
          have HW : Hid (∀ p ∈ ([] : List (Bool × Rw)), wfI p.2.1) := fun p hp => by simp at hp
          have hO := OpL.none o25 7 w25
          generalize killE (rep k ++ [1]) (vwK k) vs (z.tmod 5) = Q at he' ⊢
          clear he
          obtain ⟨V, hV⟩ : ∃ V, V = vs := ⟨_, rfl⟩
          rw [← hV] at hH
          have HR : Hid (RdS k vs V []) := by rw [hV]; exact HR
          clear hV
          have hd0 := hd.c0
          have hd1 := hd.c1
          have hd2 := hd.c2
          dsimp only at hd0 hd1 hd2
          have hd3 := World.block_lt_of_cell? _ _ hd0
          dsimp only at hd3
          go_wp2_with fail
          clear hd0 hd1 hd2 hd3
          refine (Commit_L o25 1 _ pm bo bd _ ((k : Int) + 1) hM (wfI_iff.2 (by omega))).mono ?_
          rintro e w27 ⟨he, hM0, s1⟩
          obtain rfl : e = .returned (.int .i64 0) := he.trans (by rw [rep_eE])
          rw [rep_eT] at hM0
          replace K := K.step s1 (by decide)
          replace hN := hN.keep s1 (by decide)
          replace hH := hH.keep s1 (by decide)
          replace hG := hG.keep s1 (by decide)
          replace hu := hu.keep s1 (by decide)
          replace hd := hd.keep s1 (by decide)
          replace hr := hr.keep s1 (by decide)
          replace hO := hO.keep s1 (by decide)
          replace hM := hM0
          clear s1 hM0
          try clear he
          have hd0 := hd.c0
          have hd1 := hd.c1
          have hd2 := hd.c2
          dsimp only at hd0 hd1 hd2
          have hd3 := World.block_lt_of_cell? _ _ hd0
          dsimp only at hd3
          go_wp2_with fail
          clear hd0 hd1 hd2 hd3
          refine (Redo_L (ops := []) ((k : Int) + 1) (hM := hN) (hH := hG) (hij := by decide) (hkj := by decide) (hO := hO) (hx := (wfI_iff.2 (by omega))) (hwf := HW.out) (hlim := by simp; omega)).mono ?_
          rintro e w28 ⟨he, o28, a_hG, c_hG, hG0, s1⟩
          obtain rfl : e = .returned (.int .i64 7) := he.trans (by rw [rep_redoE])
          rw [rep_redoV] at hG0
          replace K := K.step s1 (by decide)
          replace hM := hM.keep s1 (by decide)
          replace hN := hN.keep s1 (by decide)
          replace hH := hH.keep s1 (by decide)
          replace hu := hu.keep s1 (by decide)
          replace hd := hd.keep s1 (by decide)
          replace hr := hr.keep s1 (by decide)
          replace hO := hO.keep s1 (by decide)
          replace hG := hG0
          clear s1 hG0
          try clear he
          have hd0 := hd.c0
          have hd1 := hd.c1
          have hd2 := hd.c2
          dsimp only at hd0 hd1 hd2
          have hd3 := World.block_lt_of_cell? _ _ hd0
          dsimp only at hd3
          go_wp2_with fail
          clear hd0 hd1 hd2 hd3
          refine (Commit_L o28 3 _ pn no nd _ ((k : Int) + 1) hN (wfI_iff.2 (by omega))).mono ?_
          rintro e w29 ⟨he, hM0, s1⟩
          obtain rfl : e = .returned (.int .i64 0) := he.trans (by rw [rep_eE])
          rw [rep_eT] at hM0
          replace K := K.step s1 (by decide)
          replace hM := hM.keep s1 (by decide)
          replace hH := hH.keep s1 (by decide)
          replace hG := hG.keep s1 (by decide)
          replace hu := hu.keep s1 (by decide)
          replace hd := hd.keep s1 (by decide)
          replace hr := hr.keep s1 (by decide)
          replace hO := hO.keep s1 (by decide)
          replace hN := hM0
          clear s1 hM0
          try clear he
          have hd0 := hd.c0
          have hd1 := hd.c1
          have hd2 := hd.c2
          dsimp only at hd0 hd1 hd2
          have hd3 := World.block_lt_of_cell? _ _ hd0
          dsimp only at hd3
          go_wp2_with fail
          clear hd0 hd1 hd2 hd3
          refine (Redo_L (ops := []) ((k : Int) + 1) (hM := hN) (hH := hG) (hij := by decide) (hkj := by decide) (hO := hO) (hx := (wfI_iff.2 (by omega))) (hwf := HW.out) (hlim := by simp; omega)).mono ?_
          rintro e w30 ⟨he, o30, a_hG, c_hG, hG0, s1⟩
          obtain rfl : e = .returned (.int .i64 0) := he.trans (by rw [rep_redoE2])
          rw [HR.out.redo] at hG0
          replace K := K.step s1 (by decide)
          replace hM := hM.keep s1 (by decide)
          replace hN := hN.keep s1 (by decide)
          replace hH := hH.keep s1 (by decide)
          replace hu := hu.keep s1 (by decide)
          replace hd := hd.keep s1 (by decide)
          replace hr := hr.keep s1 (by decide)
          replace hO := hO.keep s1 (by decide)
          replace hG := hG0
          clear s1 hG0
          try clear he
          have hd0 := hd.c0
          have hd1 := hd.c1
          have hd2 := hd.c2
          dsimp only at hd0 hd1 hd2
          have hd3 := World.block_lt_of_cell? _ _ hd0
          dsimp only at hd3
          go_wp2_with fail
          clear hd0 hd1 hd2 hd3
          refine (Now_L o30 1 10 _ pm bo bd _ hM).mono ?_
          rintro e w31 ⟨o31, a_hv, c_hv, he, hv0, s1⟩
          have hv := hv0 0
          have hn4 : (((rep (k + 1)).length : Nat) : Int) + 1 = (k : Int) + 2 := by simp; omega
          rw [hn4, rep_open] at he hv
          obtain rfl : e = .returned (.agg #[.int .i64 ((k : Int) + 2), .slice a_hv 0 c_hv]) := he
          replace K := K.step s1 (by decide)
          replace hM := hM.keep s1 (by decide)
          replace hN := hN.keep s1 (by decide)
          replace hH := hH.keep s1 (by decide)
          replace hG := hG.keep s1 (by decide)
          replace hu := hu.keep s1 (by decide)
          replace hd := hd.keep s1 (by decide)
          replace hr := hr.keep s1 (by decide)
          replace hO := hO.keep s1 (by decide)
          clear s1 hv0 hn4
          try clear he
          have hd0 := hd.c0
          have hd1 := hd.c1
          have hd2 := hd.c2
          dsimp only at hd0 hd1 hd2
          have hd3 := World.block_lt_of_cell? _ _ hd0
          dsimp only at hd3
          go_wp2_with fail
          clear hd0 hd1 hd2 hd3
          refine (Scan_L (q := 11) (hM := hM) (hH := hH) (hij := by decide) (hv := hv)).mono ?_
          rintro e w32 ⟨o32, a_hS, c_hS, rfl, hS, s1⟩
          replace K := K.step s1 (by decide)
          replace hM := hM.keep s1 (by decide)
          replace hN := hN.keep s1 (by decide)
          replace hH := hH.keep s1 (by decide)
          replace hG := hG.keep s1 (by decide)
          replace hu := hu.keep s1 (by decide)
          replace hd := hd.keep s1 (by decide)
          replace hr := hr.keep s1 (by decide)
          replace hO := hO.keep s1 (by decide)
          replace hv := hv.keep s1 (by decide)
          clear s1
          have hd0 := hd.c0
          have hd1 := hd.c1
          have hd2 := hd.c2
          dsimp only at hd0 hd1 hd2
          have hd3 := World.block_lt_of_cell? _ _ hd0
          dsimp only at hd3
          go_wp2_with fail
          clear hd0 hd1 hd2 hd3
          refine (Now_L o32 3 12 _ pn no nd _ hN).mono ?_
          rintro e w33 ⟨o33, a_hy, c_hy, he, hv0, s1⟩
          have hy := hv0 0
          have hn4 : (((rep (k + 1)).length : Nat) : Int) + 1 = (k : Int) + 2 := by simp; omega
          rw [hn4, rep_open] at he hy
          obtain rfl : e = .returned (.agg #[.int .i64 ((k : Int) + 2), .slice a_hy 0 c_hy]) := he
          replace K := K.step s1 (by decide)
          replace hM := hM.keep s1 (by decide)
          replace hN := hN.keep s1 (by decide)
          replace hH := hH.keep s1 (by decide)
          replace hG := hG.keep s1 (by decide)
          replace hu := hu.keep s1 (by decide)
          replace hd := hd.keep s1 (by decide)
          replace hr := hr.keep s1 (by decide)
          replace hO := hO.keep s1 (by decide)
          replace hv := hv.keep s1 (by decide)
          replace hS := hS.keep s1 (by decide)
          clear s1 hv0 hn4
          try clear he
          have hd0 := hd.c0
          have hd1 := hd.c1
          have hd2 := hd.c2
          dsimp only at hd0 hd1 hd2
          have hd3 := World.block_lt_of_cell? _ _ hd0
          dsimp only at hd3
          go_wp2_with fail
          clear hd0 hd1 hd2 hd3
          refine (Scan_L (q := 13) (hM := hN) (hH := hG) (hij := by decide) (hv := hy)).mono ?_
          rintro e w34 ⟨o34, a_hQ, c_hQ, rfl, hQ, s1⟩
          replace K := K.step s1 (by decide)
          replace hM := hM.keep s1 (by decide)
          replace hN := hN.keep s1 (by decide)
          replace hH := hH.keep s1 (by decide)
          replace hG := hG.keep s1 (by decide)
          replace hu := hu.keep s1 (by decide)
          replace hd := hd.keep s1 (by decide)
          replace hr := hr.keep s1 (by decide)
          replace hO := hO.keep s1 (by decide)
          replace hv := hv.keep s1 (by decide)
          replace hS := hS.keep s1 (by decide)
          replace hy := hy.keep s1 (by decide)
          clear s1
          have HRn := HR.out.n
          have SL := scanL_len (t := rep (k + 1)) (v := ⟨(k : Int) + 2, [], 0⟩) (vs := V)
          generalize scanL (rep (k + 1)) ⟨(k : Int) + 2, [], 0⟩ V = S at hS hQ SL ⊢
          have hd0 := hd.c0
          have hd1 := hd.c1
          have hd2 := hd.c2
          dsimp only at hd0 hd1 hd2
          have hd3 := World.block_lt_of_cell? _ _ hd0
          dsimp only at hd3
          go_wp2_with fail
          clear hd0 hd1 hd2 hd3
          refine (rows_same _ a_hS a_hQ c_hS c_hQ S (by omega) hS.ok hQ.ok).mono ?_
          rintro e wE ⟨rfl, hg⟩
          have s1 := hg.stp 0 o34
          clear hu hd hv hy hS hQ hO
          replace K := K.step s1 (by decide)
          replace hM := hM.keep s1 (by decide)
          replace hN := hN.keep s1 (by decide)
          replace hH := hH.keep s1 (by decide)
          replace hG := hG.keep s1 (by decide)
          replace hr := hr.keep s1 (by decide)
          clear s1 hg
          have HI2 : Hid (RdX w pm bo bd pn no nd ph pg (k + 1) wE) := ⟨_, V, _, _, _, _, HR.out.i, by have := HR.out.n; omega, K, hM, hN, hH, hG⟩
          clear K hM hN hH hG SL
          go_wp2
          go_roundw
          case rel => exact ⟨k + 1, by go_num, by omega, HI2⟩
          case measure => simp [RowKit.intOf]; omega
    · have hltz : ¬ (k : Int) < (n0 : Int) := by omega
      obtain ⟨_, _, _, _, _, _, _, _, K, _⟩ := hI.out
      clear hI
      go_wp2
      go_ret
      exact ⟨rfl, K.bel⟩
end Go.Proofs.Ytannjecmfbhkeaa
