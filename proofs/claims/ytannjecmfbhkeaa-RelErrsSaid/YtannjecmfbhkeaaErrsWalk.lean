/- RelErrs: kinds, and tables, that there aren't; texts that are too long. -/
import Derived.Test.YtannjecmfbhkeaaRel3
import Derived.Laws.MakeOwn
import Derived.Laws.OwnMore
import Derived.Laws.IdiomStrings
namespace Go.Proofs.Ytannjecmfbhkeaa
open Go Go.RowKit Go.Lib Go.Maps
def zeros (n : Nat) : ByteArray := ⟨(List.replicate n (0 : UInt8)).toArray⟩
theorem zeros_size (n : Nat) : (zeros n).size = n := by simp [zeros, ByteArray.size]
theorem infoU8 : (Try.prog.info? 5).map (fun i => (i.zero, i.size, i.bytes)) = some (some (.int .u8 0), 1, 1) := by kernel_rfl
theorem made_run (n : Nat) (x : Int) (hx : x = n) (hn : n < 60) (W : World) : (Instr.makeSlice 64 (.int .i64 x) (.int .i64 x)).run Try.prog W = .ok (.slice (some ⟨W.heap.size, 0, none⟩) n n) (W.alloc (.cells (madeCells #[.int .u8 0] n) 5)) := by
  obtain ⟨i0, hi, hz0, hz1, hz2⟩ := info_parts infoU8
  subst hx
  have h := run_makeSlice W 64 5 i0 _ Try.underlying64 hi hz0 .i64 .i64 (n : Int) (n : Int) (by omega) (Int.le_refl _) (by rw [hz1]; simp; omega) (by rw [hz2]; omega) (by omega)
  rw [hz1] at h
  simp only [Int.toNat_natCast, Nat.mul_one] at h
  exact h
theorem conv_run (n : Nat) (W : World) : (convert 64 9 (.slice (some ⟨W.heap.size, 0, none⟩) n n)).run Try.prog (W.alloc (.cells (madeCells #[.int .u8 0] n) 5)) = .ok (.string (zeros n)) (W.alloc (.cells (madeCells #[.int .u8 0] n) 5)) := by
  have h := run_convert_bytes_back (P := Try.prog) (W.alloc (.cells (madeCells #[.int .u8 0] n) 5)) 64 9 5 ⟨W.heap.size, 0, none⟩ n (List.replicate n (0 : UInt8)) Try.underlying64 Try.underlying5 Try.underlying9 (fun j hj => by
    refine newCells j _ ?_
    have hj2 : j < n := by simpa using hj
    rw [toList_madeCells_one, List.getElem?_replicate, if_pos hj2]
    simp)
  rw [List.length_replicate] at h
  exact h
theorem conv_run1 (n : Nat) (W : World) (A : Obj) : (convert 64 9 (.slice (some ⟨W.heap.size + 1, 0, none⟩) n n)).run Try.prog ((W.alloc A).alloc (.cells (madeCells #[.int .u8 0] n) 5)) = .ok (.string (zeros n)) ((W.alloc A).alloc (.cells (madeCells #[.int .u8 0] n) 5)) := by
  have h := conv_run n (W.alloc A)
  rw [show (W.alloc A).heap.size = W.heap.size + 1 from by simp] at h
  exact h
theorem ret_ok (i : Nat) (h : i < 3) : Ending.returned (.bool (!decide ((i : Int) < 0) && !decide (2 < (i : Int)))) = .returned (.bool true) := by
  rw [decide_eq_false (by omega), decide_eq_false (by omega)]; rfl
theorem runR_err (kind : Int) (r : Rw) (h1 : 1 ≤ kind) (h6 : kind ≤ 6) : ((runR [1] ⟨2, [1], 1⟩ [] kind r).2.1 == 1) = false := by
  rcases (show kind = 1 ∨ kind = 2 ∨ kind = 3 ∨ kind = 4 ∨ kind = 5 ∨ kind = 6 by omega) with rfl | rfl | rfl | rfl | rfl | rfl <;> rfl
set_option maxHeartbeats 16000000 in
set_option maxRecDepth 100000 in
theorem RelErrs_walk (kind table key long : Int) (w : World) (k0 : 0 ≤ kind) (k256 : kind < 256) (l0 : 0 ≤ long) (l256 : long < 256) (wk : wfI key) (wt : wfI table) :
    Calls Try.prog 8 #[.int .u8 kind, .int .i64 table, .int .i64 key, .int .u8 long] w fun e w' => e = .returned (.bool true) ∧ Below w.heap.size w w' := by
  have K0 := K9.start w
  have WK := Lib.hid wk
  have hwt := wfI_iff.1 wt
  obtain ⟨n, hn⟩ : ∃ n : Nat, long % 60 = n := ⟨(long % 60).toNat, by omega⟩
  have hn60 : n < 60 := by omega
  have q0 : 0 ≤ long % 60 := by omega
  have q1 : long % 60 < 60 := by omega
  have hmk := made_run n (long % 60) hn hn60
  have hcv := conv_run1 n
  have hzs := zeros_size n
  have ZS := Lib.hid hzs
  have HYtannjecmfbhkeaa := Lib.hid hn
  clear wk wt hzs hn
  by_cases t0 : table < 0
  · skip
    by_cases kl : kind < 1
    · skip
      go_enter Try.func8, Try.ntmps8
      go_wp2_with fail
      refine (row8_calls _).mono ?_
      rintro e w0 ⟨rfl, hb⟩
      have K := K0.step (Below.stp hb 0 _ 9) (by decide)
      clear K0 hb
      go_wp2_with fail
      refine (TxNew_L (lab (fun _ => 9) w.heap.size 9) 1 _).mono ?_
      rintro e w1 ⟨o1, pm, bo, bd, rfl, hM, s1⟩
      replace K := K.step s1 (by decide)
      clear s1
      go_wp2_with fail
      refine (RNew_L o1 8 (by decide) _ pm 3 3 (by decide) (by decide) rfl).mono ?_
      rintro e w2 ⟨pr, o2, phs, aR, cR, rfl, hl, hR, hV, s1⟩
      replace K := K.step s1 (by decide)
      replace hM := hM.keep s1 (by decide)
      have HL := Lib.hid hl
      clear s1 hl
      go_wp2_with fail
      refine (Begin_L o2 1 _ pm bo bd _ hM).mono ?_
      rintro e w3 ⟨he, hM0, s1⟩
      obtain rfl : e = .returned (.tuple #[.int .i64 1, .int .i64 0]) := he
      replace K := K.step s1 (by decide)
      replace hR := hR.keep s1 (by decide)
      replace hV := hV.keep s1 (by decide)
      replace hM : MgrL o2 1 w3 pm bo bd [1] := hM0
      clear s1 hM0
      go_wp2_with fail
      refine (Now_L o2 1 3 _ pm bo bd _ hM).mono ?_
      rintro e w4 ⟨o4, av, cv, he, hv0, s1⟩
      obtain rfl : e = .returned (.agg #[.int .i64 2, .slice av 1 cv]) := he
      replace K := K.step s1 (by decide)
      replace hM := hM.keep s1 (by decide)
      replace hR := hR.keep s1 (by decide)
      replace hV := hV.keep s1 (by decide)
      have hv : ViewL o4 3 w4 ⟨2, [1], 1⟩ av cv := hv0 1
      clear s1 hv0
      go_wp2_with fail
      have hg : Gr w4 (((w4.alloc (.cells #[.int .i64 2, .slice av 1 cv, .int .i64 1] 35)).alloc (.cells (madeCells #[.int .u8 0] n) 5)).alloc (.cells #[.int .u8 kind, .int .i64 table, .int .i64 key, .string (zeros n)] 66)) := ((Gr.alloc _ _).trans (Gr.alloc _ _)).trans (Gr.alloc _ _)
      generalize ((w4.alloc (.cells #[.int .i64 2, .slice av 1 cv, .int .i64 1] 35)).alloc (.cells (madeCells #[.int .u8 0] n) 5)).alloc (.cells #[.int .u8 kind, .int .i64 table, .int .i64 key, .string (zeros n)] 66) = w5 at hg ⊢
      have s1 := hg.stp 0 o4
      replace K := K.step s1 (by decide)
      replace hM := hM.keep s1 (by decide)
      replace hR := hR.keep s1 (by decide)
      replace hV := hV.keep s1 (by decide)
      replace hv := hv.keep s1 (by decide)
      clear s1 hg
      refine (Run_bad o4 8 _ pr aR cR phs hR ⟨2, [1], 1⟩ av cv kind table (key, zeros n) k0 k256 (by unfold badS; rw [HL.out]; simp only; rw [ZS.out]; omega) (by rw [ZS.out]; omega)).mono ?_
      rintro e w6 ⟨rfl, hg⟩
      have s1 := hg.stp 0 o4
      replace K := K.step s1 (by decide)
      replace hR := hR.keep s1 (by decide)
      clear s1 hg hV hM hv
      have HH := Lib.hid (RHeap_none _ 8 w6 pr aR cR phs hR table (by rw [HL.out]; omega))
      clear hR
      go_wp2_with fail
      refine HH.out.mono ?_
      rintro e w' ⟨rfl, rfl⟩
      go_wp2
      go_ret
      exact ⟨rfl, K.bel⟩
    by_cases kh : 6 < kind
    · skip
      go_enter Try.func8, Try.ntmps8
      go_wp2_with fail
      refine (row8_calls _).mono ?_
      rintro e w0 ⟨rfl, hb⟩
      have K := K0.step (Below.stp hb 0 _ 9) (by decide)
      clear K0 hb
      go_wp2_with fail
      refine (TxNew_L (lab (fun _ => 9) w.heap.size 9) 1 _).mono ?_
      rintro e w1 ⟨o1, pm, bo, bd, rfl, hM, s1⟩
      replace K := K.step s1 (by decide)
      clear s1
      go_wp2_with fail
      refine (RNew_L o1 8 (by decide) _ pm 3 3 (by decide) (by decide) rfl).mono ?_
      rintro e w2 ⟨pr, o2, phs, aR, cR, rfl, hl, hR, hV, s1⟩
      replace K := K.step s1 (by decide)
      replace hM := hM.keep s1 (by decide)
      have HL := Lib.hid hl
      clear s1 hl
      go_wp2_with fail
      refine (Begin_L o2 1 _ pm bo bd _ hM).mono ?_
      rintro e w3 ⟨he, hM0, s1⟩
      obtain rfl : e = .returned (.tuple #[.int .i64 1, .int .i64 0]) := he
      replace K := K.step s1 (by decide)
      replace hR := hR.keep s1 (by decide)
      replace hV := hV.keep s1 (by decide)
      replace hM : MgrL o2 1 w3 pm bo bd [1] := hM0
      clear s1 hM0
      go_wp2_with fail
      refine (Now_L o2 1 3 _ pm bo bd _ hM).mono ?_
      rintro e w4 ⟨o4, av, cv, he, hv0, s1⟩
      obtain rfl : e = .returned (.agg #[.int .i64 2, .slice av 1 cv]) := he
      replace K := K.step s1 (by decide)
      replace hM := hM.keep s1 (by decide)
      replace hR := hR.keep s1 (by decide)
      replace hV := hV.keep s1 (by decide)
      have hv : ViewL o4 3 w4 ⟨2, [1], 1⟩ av cv := hv0 1
      clear s1 hv0
      go_wp2_with fail
      have hg : Gr w4 (((w4.alloc (.cells #[.int .i64 2, .slice av 1 cv, .int .i64 1] 35)).alloc (.cells (madeCells #[.int .u8 0] n) 5)).alloc (.cells #[.int .u8 kind, .int .i64 table, .int .i64 key, .string (zeros n)] 66)) := ((Gr.alloc _ _).trans (Gr.alloc _ _)).trans (Gr.alloc _ _)
      generalize ((w4.alloc (.cells #[.int .i64 2, .slice av 1 cv, .int .i64 1] 35)).alloc (.cells (madeCells #[.int .u8 0] n) 5)).alloc (.cells #[.int .u8 kind, .int .i64 table, .int .i64 key, .string (zeros n)] 66) = w5 at hg ⊢
      have s1 := hg.stp 0 o4
      replace K := K.step s1 (by decide)
      replace hM := hM.keep s1 (by decide)
      replace hR := hR.keep s1 (by decide)
      replace hV := hV.keep s1 (by decide)
      replace hv := hv.keep s1 (by decide)
      clear s1 hg
      refine (Run_bad o4 8 _ pr aR cR phs hR ⟨2, [1], 1⟩ av cv kind table (key, zeros n) k0 k256 (by unfold badS; rw [HL.out]; simp only; rw [ZS.out]; omega) (by rw [ZS.out]; omega)).mono ?_
      rintro e w6 ⟨rfl, hg⟩
      have s1 := hg.stp 0 o4
      replace K := K.step s1 (by decide)
      replace hR := hR.keep s1 (by decide)
      clear s1 hg hV hM hv
      have HH := Lib.hid (RHeap_none _ 8 w6 pr aR cR phs hR table (by rw [HL.out]; omega))
      clear hR
      go_wp2_with fail
      refine HH.out.mono ?_
      rintro e w' ⟨rfl, rfl⟩
      go_wp2
      go_ret
      exact ⟨rfl, K.bel⟩
    by_cases k3 : kind < 3
    · by_cases h40 : 40 < long % 60
      · have n40 : 40 < n := by have := HYtannjecmfbhkeaa.out; omega
        go_enter Try.func8, Try.ntmps8
        go_wp2_with fail
        refine (row8_calls _).mono ?_
        rintro e w0 ⟨rfl, hb⟩
        have K := K0.step (Below.stp hb 0 _ 9) (by decide)
        clear K0 hb
        go_wp2_with fail
        refine (TxNew_L (lab (fun _ => 9) w.heap.size 9) 1 _).mono ?_
        rintro e w1 ⟨o1, pm, bo, bd, rfl, hM, s1⟩
        replace K := K.step s1 (by decide)
        clear s1
        go_wp2_with fail
        refine (RNew_L o1 8 (by decide) _ pm 3 3 (by decide) (by decide) rfl).mono ?_
        rintro e w2 ⟨pr, o2, phs, aR, cR, rfl, hl, hR, hV, s1⟩
        replace K := K.step s1 (by decide)
        replace hM := hM.keep s1 (by decide)
        have HL := Lib.hid hl
        clear s1 hl
        go_wp2_with fail
        refine (Begin_L o2 1 _ pm bo bd _ hM).mono ?_
        rintro e w3 ⟨he, hM0, s1⟩
        obtain rfl : e = .returned (.tuple #[.int .i64 1, .int .i64 0]) := he
        replace K := K.step s1 (by decide)
        replace hR := hR.keep s1 (by decide)
        replace hV := hV.keep s1 (by decide)
        replace hM : MgrL o2 1 w3 pm bo bd [1] := hM0
        clear s1 hM0
        go_wp2_with fail
        refine (Now_L o2 1 3 _ pm bo bd _ hM).mono ?_
        rintro e w4 ⟨o4, av, cv, he, hv0, s1⟩
        obtain rfl : e = .returned (.agg #[.int .i64 2, .slice av 1 cv]) := he
        replace K := K.step s1 (by decide)
        replace hM := hM.keep s1 (by decide)
        replace hR := hR.keep s1 (by decide)
        replace hV := hV.keep s1 (by decide)
        have hv : ViewL o4 3 w4 ⟨2, [1], 1⟩ av cv := hv0 1
        clear s1 hv0
        go_wp2_with fail
        have hg : Gr w4 (((w4.alloc (.cells #[.int .i64 2, .slice av 1 cv, .int .i64 1] 35)).alloc (.cells (madeCells #[.int .u8 0] n) 5)).alloc (.cells #[.int .u8 kind, .int .i64 table, .int .i64 key, .string (zeros n)] 66)) := ((Gr.alloc _ _).trans (Gr.alloc _ _)).trans (Gr.alloc _ _)
        generalize ((w4.alloc (.cells #[.int .i64 2, .slice av 1 cv, .int .i64 1] 35)).alloc (.cells (madeCells #[.int .u8 0] n) 5)).alloc (.cells #[.int .u8 kind, .int .i64 table, .int .i64 key, .string (zeros n)] 66) = w5 at hg ⊢
        have s1 := hg.stp 0 o4
        replace K := K.step s1 (by decide)
        replace hM := hM.keep s1 (by decide)
        replace hR := hR.keep s1 (by decide)
        replace hV := hV.keep s1 (by decide)
        replace hv := hv.keep s1 (by decide)
        clear s1 hg
        refine (Run_bad o4 8 _ pr aR cR phs hR ⟨2, [1], 1⟩ av cv kind table (key, zeros n) k0 k256 (by unfold badS; rw [HL.out]; simp only; rw [ZS.out]; omega) (by rw [ZS.out]; omega)).mono ?_
        rintro e w6 ⟨rfl, hg⟩
        have s1 := hg.stp 0 o4
        replace K := K.step s1 (by decide)
        replace hR := hR.keep s1 (by decide)
        clear s1 hg hV hM hv
        have HH := Lib.hid (RHeap_none _ 8 w6 pr aR cR phs hR table (by rw [HL.out]; omega))
        clear hR
        go_wp2_with fail
        refine HH.out.mono ?_
        rintro e w' ⟨rfl, rfl⟩
        go_wp2
        go_ret
        exact ⟨rfl, K.bel⟩
      · have n40 : n ≤ 40 := by have := HYtannjecmfbhkeaa.out; omega
        go_enter Try.func8, Try.ntmps8
        go_wp2_with fail
        refine (row8_calls _).mono ?_
        rintro e w0 ⟨rfl, hb⟩
        have K := K0.step (Below.stp hb 0 _ 9) (by decide)
        clear K0 hb
        go_wp2_with fail
        refine (TxNew_L (lab (fun _ => 9) w.heap.size 9) 1 _).mono ?_
        rintro e w1 ⟨o1, pm, bo, bd, rfl, hM, s1⟩
        replace K := K.step s1 (by decide)
        clear s1
        go_wp2_with fail
        refine (RNew_L o1 8 (by decide) _ pm 3 3 (by decide) (by decide) rfl).mono ?_
        rintro e w2 ⟨pr, o2, phs, aR, cR, rfl, hl, hR, hV, s1⟩
        replace K := K.step s1 (by decide)
        replace hM := hM.keep s1 (by decide)
        have HL := Lib.hid hl
        clear s1 hl
        go_wp2_with fail
        refine (Begin_L o2 1 _ pm bo bd _ hM).mono ?_
        rintro e w3 ⟨he, hM0, s1⟩
        obtain rfl : e = .returned (.tuple #[.int .i64 1, .int .i64 0]) := he
        replace K := K.step s1 (by decide)
        replace hR := hR.keep s1 (by decide)
        replace hV := hV.keep s1 (by decide)
        replace hM : MgrL o2 1 w3 pm bo bd [1] := hM0
        clear s1 hM0
        go_wp2_with fail
        refine (Now_L o2 1 3 _ pm bo bd _ hM).mono ?_
        rintro e w4 ⟨o4, av, cv, he, hv0, s1⟩
        obtain rfl : e = .returned (.agg #[.int .i64 2, .slice av 1 cv]) := he
        replace K := K.step s1 (by decide)
        replace hM := hM.keep s1 (by decide)
        replace hR := hR.keep s1 (by decide)
        replace hV := hV.keep s1 (by decide)
        have hv : ViewL o4 3 w4 ⟨2, [1], 1⟩ av cv := hv0 1
        clear s1 hv0
        go_wp2_with fail
        have hg : Gr w4 (((w4.alloc (.cells #[.int .i64 2, .slice av 1 cv, .int .i64 1] 35)).alloc (.cells (madeCells #[.int .u8 0] n) 5)).alloc (.cells #[.int .u8 kind, .int .i64 table, .int .i64 key, .string (zeros n)] 66)) := ((Gr.alloc _ _).trans (Gr.alloc _ _)).trans (Gr.alloc _ _)
        generalize ((w4.alloc (.cells #[.int .i64 2, .slice av 1 cv, .int .i64 1] 35)).alloc (.cells (madeCells #[.int .u8 0] n) 5)).alloc (.cells #[.int .u8 kind, .int .i64 table, .int .i64 key, .string (zeros n)] 66) = w5 at hg ⊢
        have s1 := hg.stp 0 o4
        replace K := K.step s1 (by decide)
        replace hM := hM.keep s1 (by decide)
        replace hR := hR.keep s1 (by decide)
        replace hV := hV.keep s1 (by decide)
        replace hv := hv.keep s1 (by decide)
        clear s1 hg
        refine (Run_bad o4 8 _ pr aR cR phs hR ⟨2, [1], 1⟩ av cv kind table (key, zeros n) k0 k256 (by unfold badS; rw [HL.out]; simp only; rw [ZS.out]; omega) (by rw [ZS.out]; omega)).mono ?_
        rintro e w6 ⟨rfl, hg⟩
        have s1 := hg.stp 0 o4
        replace K := K.step s1 (by decide)
        replace hR := hR.keep s1 (by decide)
        clear s1 hg hV hM hv
        have HH := Lib.hid (RHeap_none _ 8 w6 pr aR cR phs hR table (by rw [HL.out]; omega))
        clear hR
        go_wp2_with fail
        refine HH.out.mono ?_
        rintro e w' ⟨rfl, rfl⟩
        go_wp2
        go_ret
        exact ⟨rfl, K.bel⟩
    · skip
      go_enter Try.func8, Try.ntmps8
      go_wp2_with fail
      refine (row8_calls _).mono ?_
      rintro e w0 ⟨rfl, hb⟩
      have K := K0.step (Below.stp hb 0 _ 9) (by decide)
      clear K0 hb
      go_wp2_with fail
      refine (TxNew_L (lab (fun _ => 9) w.heap.size 9) 1 _).mono ?_
      rintro e w1 ⟨o1, pm, bo, bd, rfl, hM, s1⟩
      replace K := K.step s1 (by decide)
      clear s1
      go_wp2_with fail
      refine (RNew_L o1 8 (by decide) _ pm 3 3 (by decide) (by decide) rfl).mono ?_
      rintro e w2 ⟨pr, o2, phs, aR, cR, rfl, hl, hR, hV, s1⟩
      replace K := K.step s1 (by decide)
      replace hM := hM.keep s1 (by decide)
      have HL := Lib.hid hl
      clear s1 hl
      go_wp2_with fail
      refine (Begin_L o2 1 _ pm bo bd _ hM).mono ?_
      rintro e w3 ⟨he, hM0, s1⟩
      obtain rfl : e = .returned (.tuple #[.int .i64 1, .int .i64 0]) := he
      replace K := K.step s1 (by decide)
      replace hR := hR.keep s1 (by decide)
      replace hV := hV.keep s1 (by decide)
      replace hM : MgrL o2 1 w3 pm bo bd [1] := hM0
      clear s1 hM0
      go_wp2_with fail
      refine (Now_L o2 1 3 _ pm bo bd _ hM).mono ?_
      rintro e w4 ⟨o4, av, cv, he, hv0, s1⟩
      obtain rfl : e = .returned (.agg #[.int .i64 2, .slice av 1 cv]) := he
      replace K := K.step s1 (by decide)
      replace hM := hM.keep s1 (by decide)
      replace hR := hR.keep s1 (by decide)
      replace hV := hV.keep s1 (by decide)
      have hv : ViewL o4 3 w4 ⟨2, [1], 1⟩ av cv := hv0 1
      clear s1 hv0
      go_wp2_with fail
      have hg : Gr w4 (((w4.alloc (.cells #[.int .i64 2, .slice av 1 cv, .int .i64 1] 35)).alloc (.cells (madeCells #[.int .u8 0] n) 5)).alloc (.cells #[.int .u8 kind, .int .i64 table, .int .i64 key, .string (zeros n)] 66)) := ((Gr.alloc _ _).trans (Gr.alloc _ _)).trans (Gr.alloc _ _)
      generalize ((w4.alloc (.cells #[.int .i64 2, .slice av 1 cv, .int .i64 1] 35)).alloc (.cells (madeCells #[.int .u8 0] n) 5)).alloc (.cells #[.int .u8 kind, .int .i64 table, .int .i64 key, .string (zeros n)] 66) = w5 at hg ⊢
      have s1 := hg.stp 0 o4
      replace K := K.step s1 (by decide)
      replace hM := hM.keep s1 (by decide)
      replace hR := hR.keep s1 (by decide)
      replace hV := hV.keep s1 (by decide)
      replace hv := hv.keep s1 (by decide)
      clear s1 hg
      refine (Run_bad o4 8 _ pr aR cR phs hR ⟨2, [1], 1⟩ av cv kind table (key, zeros n) k0 k256 (by unfold badS; rw [HL.out]; simp only; rw [ZS.out]; omega) (by rw [ZS.out]; omega)).mono ?_
      rintro e w6 ⟨rfl, hg⟩
      have s1 := hg.stp 0 o4
      replace K := K.step s1 (by decide)
      replace hR := hR.keep s1 (by decide)
      clear s1 hg hV hM hv
      have HH := Lib.hid (RHeap_none _ 8 w6 pr aR cR phs hR table (by rw [HL.out]; omega))
      clear hR
      go_wp2_with fail
      refine HH.out.mono ?_
      rintro e w' ⟨rfl, rfl⟩
      go_wp2
      go_ret
      exact ⟨rfl, K.bel⟩
  by_cases t2 : 2 < table
  · skip
    by_cases kl : kind < 1
    · skip
      go_enter Try.func8, Try.ntmps8
      go_wp2_with fail
      refine (row8_calls _).mono ?_
      rintro e w0 ⟨rfl, hb⟩
      have K := K0.step (Below.stp hb 0 _ 9) (by decide)
      clear K0 hb
      go_wp2_with fail
      refine (TxNew_L (lab (fun _ => 9) w.heap.size 9) 1 _).mono ?_
      rintro e w1 ⟨o1, pm, bo, bd, rfl, hM, s1⟩
      replace K := K.step s1 (by decide)
      clear s1
      go_wp2_with fail
      refine (RNew_L o1 8 (by decide) _ pm 3 3 (by decide) (by decide) rfl).mono ?_
      rintro e w2 ⟨pr, o2, phs, aR, cR, rfl, hl, hR, hV, s1⟩
      replace K := K.step s1 (by decide)
      replace hM := hM.keep s1 (by decide)
      have HL := Lib.hid hl
      clear s1 hl
      go_wp2_with fail
      refine (Begin_L o2 1 _ pm bo bd _ hM).mono ?_
      rintro e w3 ⟨he, hM0, s1⟩
      obtain rfl : e = .returned (.tuple #[.int .i64 1, .int .i64 0]) := he
      replace K := K.step s1 (by decide)
      replace hR := hR.keep s1 (by decide)
      replace hV := hV.keep s1 (by decide)
      replace hM : MgrL o2 1 w3 pm bo bd [1] := hM0
      clear s1 hM0
      go_wp2_with fail
      refine (Now_L o2 1 3 _ pm bo bd _ hM).mono ?_
      rintro e w4 ⟨o4, av, cv, he, hv0, s1⟩
      obtain rfl : e = .returned (.agg #[.int .i64 2, .slice av 1 cv]) := he
      replace K := K.step s1 (by decide)
      replace hM := hM.keep s1 (by decide)
      replace hR := hR.keep s1 (by decide)
      replace hV := hV.keep s1 (by decide)
      have hv : ViewL o4 3 w4 ⟨2, [1], 1⟩ av cv := hv0 1
      clear s1 hv0
      go_wp2_with fail
      have hg : Gr w4 (((w4.alloc (.cells #[.int .i64 2, .slice av 1 cv, .int .i64 1] 35)).alloc (.cells (madeCells #[.int .u8 0] n) 5)).alloc (.cells #[.int .u8 kind, .int .i64 table, .int .i64 key, .string (zeros n)] 66)) := ((Gr.alloc _ _).trans (Gr.alloc _ _)).trans (Gr.alloc _ _)
      generalize ((w4.alloc (.cells #[.int .i64 2, .slice av 1 cv, .int .i64 1] 35)).alloc (.cells (madeCells #[.int .u8 0] n) 5)).alloc (.cells #[.int .u8 kind, .int .i64 table, .int .i64 key, .string (zeros n)] 66) = w5 at hg ⊢
      have s1 := hg.stp 0 o4
      replace K := K.step s1 (by decide)
      replace hM := hM.keep s1 (by decide)
      replace hR := hR.keep s1 (by decide)
      replace hV := hV.keep s1 (by decide)
      replace hv := hv.keep s1 (by decide)
      clear s1 hg
      refine (Run_bad o4 8 _ pr aR cR phs hR ⟨2, [1], 1⟩ av cv kind table (key, zeros n) k0 k256 (by unfold badS; rw [HL.out]; simp only; rw [ZS.out]; omega) (by rw [ZS.out]; omega)).mono ?_
      rintro e w6 ⟨rfl, hg⟩
      have s1 := hg.stp 0 o4
      replace K := K.step s1 (by decide)
      replace hR := hR.keep s1 (by decide)
      clear s1 hg hV hM hv
      have HH := Lib.hid (RHeap_none _ 8 w6 pr aR cR phs hR table (by rw [HL.out]; omega))
      clear hR
      go_wp2_with fail
      refine HH.out.mono ?_
      rintro e w' ⟨rfl, rfl⟩
      go_wp2
      go_ret
      exact ⟨rfl, K.bel⟩
    by_cases kh : 6 < kind
    · skip
      go_enter Try.func8, Try.ntmps8
      go_wp2_with fail
      refine (row8_calls _).mono ?_
      rintro e w0 ⟨rfl, hb⟩
      have K := K0.step (Below.stp hb 0 _ 9) (by decide)
      clear K0 hb
      go_wp2_with fail
      refine (TxNew_L (lab (fun _ => 9) w.heap.size 9) 1 _).mono ?_
      rintro e w1 ⟨o1, pm, bo, bd, rfl, hM, s1⟩
      replace K := K.step s1 (by decide)
      clear s1
      go_wp2_with fail
      refine (RNew_L o1 8 (by decide) _ pm 3 3 (by decide) (by decide) rfl).mono ?_
      rintro e w2 ⟨pr, o2, phs, aR, cR, rfl, hl, hR, hV, s1⟩
      replace K := K.step s1 (by decide)
      replace hM := hM.keep s1 (by decide)
      have HL := Lib.hid hl
      clear s1 hl
      go_wp2_with fail
      refine (Begin_L o2 1 _ pm bo bd _ hM).mono ?_
      rintro e w3 ⟨he, hM0, s1⟩
      obtain rfl : e = .returned (.tuple #[.int .i64 1, .int .i64 0]) := he
      replace K := K.step s1 (by decide)
      replace hR := hR.keep s1 (by decide)
      replace hV := hV.keep s1 (by decide)
      replace hM : MgrL o2 1 w3 pm bo bd [1] := hM0
      clear s1 hM0
      go_wp2_with fail
      refine (Now_L o2 1 3 _ pm bo bd _ hM).mono ?_
      rintro e w4 ⟨o4, av, cv, he, hv0, s1⟩
      obtain rfl : e = .returned (.agg #[.int .i64 2, .slice av 1 cv]) := he
      replace K := K.step s1 (by decide)
      replace hM := hM.keep s1 (by decide)
      replace hR := hR.keep s1 (by decide)
      replace hV := hV.keep s1 (by decide)
      have hv : ViewL o4 3 w4 ⟨2, [1], 1⟩ av cv := hv0 1
      clear s1 hv0
      go_wp2_with fail
      have hg : Gr w4 (((w4.alloc (.cells #[.int .i64 2, .slice av 1 cv, .int .i64 1] 35)).alloc (.cells (madeCells #[.int .u8 0] n) 5)).alloc (.cells #[.int .u8 kind, .int .i64 table, .int .i64 key, .string (zeros n)] 66)) := ((Gr.alloc _ _).trans (Gr.alloc _ _)).trans (Gr.alloc _ _)
      generalize ((w4.alloc (.cells #[.int .i64 2, .slice av 1 cv, .int .i64 1] 35)).alloc (.cells (madeCells #[.int .u8 0] n) 5)).alloc (.cells #[.int .u8 kind, .int .i64 table, .int .i64 key, .string (zeros n)] 66) = w5 at hg ⊢
      have s1 := hg.stp 0 o4
      replace K := K.step s1 (by decide)
      replace hM := hM.keep s1 (by decide)
      replace hR := hR.keep s1 (by decide)
      replace hV := hV.keep s1 (by decide)
      replace hv := hv.keep s1 (by decide)
      clear s1 hg
      refine (Run_bad o4 8 _ pr aR cR phs hR ⟨2, [1], 1⟩ av cv kind table (key, zeros n) k0 k256 (by unfold badS; rw [HL.out]; simp only; rw [ZS.out]; omega) (by rw [ZS.out]; omega)).mono ?_
      rintro e w6 ⟨rfl, hg⟩
      have s1 := hg.stp 0 o4
      replace K := K.step s1 (by decide)
      replace hR := hR.keep s1 (by decide)
      clear s1 hg hV hM hv
      have HH := Lib.hid (RHeap_none _ 8 w6 pr aR cR phs hR table (by rw [HL.out]; omega))
      clear hR
      go_wp2_with fail
      refine HH.out.mono ?_
      rintro e w' ⟨rfl, rfl⟩
      go_wp2
      go_ret
      exact ⟨rfl, K.bel⟩
    by_cases k3 : kind < 3
    · by_cases h40 : 40 < long % 60
      · have n40 : 40 < n := by have := HYtannjecmfbhkeaa.out; omega
        go_enter Try.func8, Try.ntmps8
        go_wp2_with fail
        refine (row8_calls _).mono ?_
        rintro e w0 ⟨rfl, hb⟩
        have K := K0.step (Below.stp hb 0 _ 9) (by decide)
        clear K0 hb
        go_wp2_with fail
        refine (TxNew_L (lab (fun _ => 9) w.heap.size 9) 1 _).mono ?_
        rintro e w1 ⟨o1, pm, bo, bd, rfl, hM, s1⟩
        replace K := K.step s1 (by decide)
        clear s1
        go_wp2_with fail
        refine (RNew_L o1 8 (by decide) _ pm 3 3 (by decide) (by decide) rfl).mono ?_
        rintro e w2 ⟨pr, o2, phs, aR, cR, rfl, hl, hR, hV, s1⟩
        replace K := K.step s1 (by decide)
        replace hM := hM.keep s1 (by decide)
        have HL := Lib.hid hl
        clear s1 hl
        go_wp2_with fail
        refine (Begin_L o2 1 _ pm bo bd _ hM).mono ?_
        rintro e w3 ⟨he, hM0, s1⟩
        obtain rfl : e = .returned (.tuple #[.int .i64 1, .int .i64 0]) := he
        replace K := K.step s1 (by decide)
        replace hR := hR.keep s1 (by decide)
        replace hV := hV.keep s1 (by decide)
        replace hM : MgrL o2 1 w3 pm bo bd [1] := hM0
        clear s1 hM0
        go_wp2_with fail
        refine (Now_L o2 1 3 _ pm bo bd _ hM).mono ?_
        rintro e w4 ⟨o4, av, cv, he, hv0, s1⟩
        obtain rfl : e = .returned (.agg #[.int .i64 2, .slice av 1 cv]) := he
        replace K := K.step s1 (by decide)
        replace hM := hM.keep s1 (by decide)
        replace hR := hR.keep s1 (by decide)
        replace hV := hV.keep s1 (by decide)
        have hv : ViewL o4 3 w4 ⟨2, [1], 1⟩ av cv := hv0 1
        clear s1 hv0
        go_wp2_with fail
        have hg : Gr w4 (((w4.alloc (.cells #[.int .i64 2, .slice av 1 cv, .int .i64 1] 35)).alloc (.cells (madeCells #[.int .u8 0] n) 5)).alloc (.cells #[.int .u8 kind, .int .i64 table, .int .i64 key, .string (zeros n)] 66)) := ((Gr.alloc _ _).trans (Gr.alloc _ _)).trans (Gr.alloc _ _)
        generalize ((w4.alloc (.cells #[.int .i64 2, .slice av 1 cv, .int .i64 1] 35)).alloc (.cells (madeCells #[.int .u8 0] n) 5)).alloc (.cells #[.int .u8 kind, .int .i64 table, .int .i64 key, .string (zeros n)] 66) = w5 at hg ⊢
        have s1 := hg.stp 0 o4
        replace K := K.step s1 (by decide)
        replace hM := hM.keep s1 (by decide)
        replace hR := hR.keep s1 (by decide)
        replace hV := hV.keep s1 (by decide)
        replace hv := hv.keep s1 (by decide)
        clear s1 hg
        refine (Run_bad o4 8 _ pr aR cR phs hR ⟨2, [1], 1⟩ av cv kind table (key, zeros n) k0 k256 (by unfold badS; rw [HL.out]; simp only; rw [ZS.out]; omega) (by rw [ZS.out]; omega)).mono ?_
        rintro e w6 ⟨rfl, hg⟩
        have s1 := hg.stp 0 o4
        replace K := K.step s1 (by decide)
        replace hR := hR.keep s1 (by decide)
        clear s1 hg hV hM hv
        have HH := Lib.hid (RHeap_none _ 8 w6 pr aR cR phs hR table (by rw [HL.out]; omega))
        clear hR
        go_wp2_with fail
        refine HH.out.mono ?_
        rintro e w' ⟨rfl, rfl⟩
        go_wp2
        go_ret
        exact ⟨rfl, K.bel⟩
      · have n40 : n ≤ 40 := by have := HYtannjecmfbhkeaa.out; omega
        go_enter Try.func8, Try.ntmps8
        go_wp2_with fail
        refine (row8_calls _).mono ?_
        rintro e w0 ⟨rfl, hb⟩
        have K := K0.step (Below.stp hb 0 _ 9) (by decide)
        clear K0 hb
        go_wp2_with fail
        refine (TxNew_L (lab (fun _ => 9) w.heap.size 9) 1 _).mono ?_
        rintro e w1 ⟨o1, pm, bo, bd, rfl, hM, s1⟩
        replace K := K.step s1 (by decide)
        clear s1
        go_wp2_with fail
        refine (RNew_L o1 8 (by decide) _ pm 3 3 (by decide) (by decide) rfl).mono ?_
        rintro e w2 ⟨pr, o2, phs, aR, cR, rfl, hl, hR, hV, s1⟩
        replace K := K.step s1 (by decide)
        replace hM := hM.keep s1 (by decide)
        have HL := Lib.hid hl
        clear s1 hl
        go_wp2_with fail
        refine (Begin_L o2 1 _ pm bo bd _ hM).mono ?_
        rintro e w3 ⟨he, hM0, s1⟩
        obtain rfl : e = .returned (.tuple #[.int .i64 1, .int .i64 0]) := he
        replace K := K.step s1 (by decide)
        replace hR := hR.keep s1 (by decide)
        replace hV := hV.keep s1 (by decide)
        replace hM : MgrL o2 1 w3 pm bo bd [1] := hM0
        clear s1 hM0
        go_wp2_with fail
        refine (Now_L o2 1 3 _ pm bo bd _ hM).mono ?_
        rintro e w4 ⟨o4, av, cv, he, hv0, s1⟩
        obtain rfl : e = .returned (.agg #[.int .i64 2, .slice av 1 cv]) := he
        replace K := K.step s1 (by decide)
        replace hM := hM.keep s1 (by decide)
        replace hR := hR.keep s1 (by decide)
        replace hV := hV.keep s1 (by decide)
        have hv : ViewL o4 3 w4 ⟨2, [1], 1⟩ av cv := hv0 1
        clear s1 hv0
        go_wp2_with fail
        have hg : Gr w4 (((w4.alloc (.cells #[.int .i64 2, .slice av 1 cv, .int .i64 1] 35)).alloc (.cells (madeCells #[.int .u8 0] n) 5)).alloc (.cells #[.int .u8 kind, .int .i64 table, .int .i64 key, .string (zeros n)] 66)) := ((Gr.alloc _ _).trans (Gr.alloc _ _)).trans (Gr.alloc _ _)
        generalize ((w4.alloc (.cells #[.int .i64 2, .slice av 1 cv, .int .i64 1] 35)).alloc (.cells (madeCells #[.int .u8 0] n) 5)).alloc (.cells #[.int .u8 kind, .int .i64 table, .int .i64 key, .string (zeros n)] 66) = w5 at hg ⊢
        have s1 := hg.stp 0 o4
        replace K := K.step s1 (by decide)
        replace hM := hM.keep s1 (by decide)
        replace hR := hR.keep s1 (by decide)
        replace hV := hV.keep s1 (by decide)
        replace hv := hv.keep s1 (by decide)
        clear s1 hg
        refine (Run_bad o4 8 _ pr aR cR phs hR ⟨2, [1], 1⟩ av cv kind table (key, zeros n) k0 k256 (by unfold badS; rw [HL.out]; simp only; rw [ZS.out]; omega) (by rw [ZS.out]; omega)).mono ?_
        rintro e w6 ⟨rfl, hg⟩
        have s1 := hg.stp 0 o4
        replace K := K.step s1 (by decide)
        replace hR := hR.keep s1 (by decide)
        clear s1 hg hV hM hv
        have HH := Lib.hid (RHeap_none _ 8 w6 pr aR cR phs hR table (by rw [HL.out]; omega))
        clear hR
        go_wp2_with fail
        refine HH.out.mono ?_
        rintro e w' ⟨rfl, rfl⟩
        go_wp2
        go_ret
        exact ⟨rfl, K.bel⟩
    · skip
      go_enter Try.func8, Try.ntmps8
      go_wp2_with fail
      refine (row8_calls _).mono ?_
      rintro e w0 ⟨rfl, hb⟩
      have K := K0.step (Below.stp hb 0 _ 9) (by decide)
      clear K0 hb
      go_wp2_with fail
      refine (TxNew_L (lab (fun _ => 9) w.heap.size 9) 1 _).mono ?_
      rintro e w1 ⟨o1, pm, bo, bd, rfl, hM, s1⟩
      replace K := K.step s1 (by decide)
      clear s1
      go_wp2_with fail
      refine (RNew_L o1 8 (by decide) _ pm 3 3 (by decide) (by decide) rfl).mono ?_
      rintro e w2 ⟨pr, o2, phs, aR, cR, rfl, hl, hR, hV, s1⟩
      replace K := K.step s1 (by decide)
      replace hM := hM.keep s1 (by decide)
      have HL := Lib.hid hl
      clear s1 hl
      go_wp2_with fail
      refine (Begin_L o2 1 _ pm bo bd _ hM).mono ?_
      rintro e w3 ⟨he, hM0, s1⟩
      obtain rfl : e = .returned (.tuple #[.int .i64 1, .int .i64 0]) := he
      replace K := K.step s1 (by decide)
      replace hR := hR.keep s1 (by decide)
      replace hV := hV.keep s1 (by decide)
      replace hM : MgrL o2 1 w3 pm bo bd [1] := hM0
      clear s1 hM0
      go_wp2_with fail
      refine (Now_L o2 1 3 _ pm bo bd _ hM).mono ?_
      rintro e w4 ⟨o4, av, cv, he, hv0, s1⟩
      obtain rfl : e = .returned (.agg #[.int .i64 2, .slice av 1 cv]) := he
      replace K := K.step s1 (by decide)
      replace hM := hM.keep s1 (by decide)
      replace hR := hR.keep s1 (by decide)
      replace hV := hV.keep s1 (by decide)
      have hv : ViewL o4 3 w4 ⟨2, [1], 1⟩ av cv := hv0 1
      clear s1 hv0
      go_wp2_with fail
      have hg : Gr w4 (((w4.alloc (.cells #[.int .i64 2, .slice av 1 cv, .int .i64 1] 35)).alloc (.cells (madeCells #[.int .u8 0] n) 5)).alloc (.cells #[.int .u8 kind, .int .i64 table, .int .i64 key, .string (zeros n)] 66)) := ((Gr.alloc _ _).trans (Gr.alloc _ _)).trans (Gr.alloc _ _)
      generalize ((w4.alloc (.cells #[.int .i64 2, .slice av 1 cv, .int .i64 1] 35)).alloc (.cells (madeCells #[.int .u8 0] n) 5)).alloc (.cells #[.int .u8 kind, .int .i64 table, .int .i64 key, .string (zeros n)] 66) = w5 at hg ⊢
      have s1 := hg.stp 0 o4
      replace K := K.step s1 (by decide)
      replace hM := hM.keep s1 (by decide)
      replace hR := hR.keep s1 (by decide)
      replace hV := hV.keep s1 (by decide)
      replace hv := hv.keep s1 (by decide)
      clear s1 hg
      refine (Run_bad o4 8 _ pr aR cR phs hR ⟨2, [1], 1⟩ av cv kind table (key, zeros n) k0 k256 (by unfold badS; rw [HL.out]; simp only; rw [ZS.out]; omega) (by rw [ZS.out]; omega)).mono ?_
      rintro e w6 ⟨rfl, hg⟩
      have s1 := hg.stp 0 o4
      replace K := K.step s1 (by decide)
      replace hR := hR.keep s1 (by decide)
      clear s1 hg hV hM hv
      have HH := Lib.hid (RHeap_none _ 8 w6 pr aR cR phs hR table (by rw [HL.out]; omega))
      clear hR
      go_wp2_with fail
      refine HH.out.mono ?_
      rintro e w' ⟨rfl, rfl⟩
      go_wp2
      go_ret
      exact ⟨rfl, K.bel⟩
  obtain ⟨i, rfl⟩ : ∃ i : Nat, table = i := ⟨table.toNat, by omega⟩
  have i3 : i < 3 := by omega
  have i2 : (i : Int) ≤ 2 := by omega
  have i2b : decide (2 < i) = false := decide_eq_false (by omega)
  by_cases kl : kind < 1
  · skip
    go_enter Try.func8, Try.ntmps8
    go_wp2_with fail
    refine (row8_calls _).mono ?_
    rintro e w0 ⟨rfl, hb⟩
    have K := K0.step (Below.stp hb 0 _ 9) (by decide)
    clear K0 hb
    go_wp2_with fail
    refine (TxNew_L (lab (fun _ => 9) w.heap.size 9) 1 _).mono ?_
    rintro e w1 ⟨o1, pm, bo, bd, rfl, hM, s1⟩
    replace K := K.step s1 (by decide)
    clear s1
    go_wp2_with fail
    refine (RNew_L o1 8 (by decide) _ pm 3 3 (by decide) (by decide) rfl).mono ?_
    rintro e w2 ⟨pr, o2, phs, aR, cR, rfl, hl, hR, hV, s1⟩
    replace K := K.step s1 (by decide)
    replace hM := hM.keep s1 (by decide)
    have HL := Lib.hid hl
    clear s1 hl
    go_wp2_with fail
    refine (Begin_L o2 1 _ pm bo bd _ hM).mono ?_
    rintro e w3 ⟨he, hM0, s1⟩
    obtain rfl : e = .returned (.tuple #[.int .i64 1, .int .i64 0]) := he
    replace K := K.step s1 (by decide)
    replace hR := hR.keep s1 (by decide)
    replace hV := hV.keep s1 (by decide)
    replace hM : MgrL o2 1 w3 pm bo bd [1] := hM0
    clear s1 hM0
    go_wp2_with fail
    refine (Now_L o2 1 3 _ pm bo bd _ hM).mono ?_
    rintro e w4 ⟨o4, av, cv, he, hv0, s1⟩
    obtain rfl : e = .returned (.agg #[.int .i64 2, .slice av 1 cv]) := he
    replace K := K.step s1 (by decide)
    replace hM := hM.keep s1 (by decide)
    replace hR := hR.keep s1 (by decide)
    replace hV := hV.keep s1 (by decide)
    have hv : ViewL o4 3 w4 ⟨2, [1], 1⟩ av cv := hv0 1
    clear s1 hv0
    go_wp2_with fail
    have hg : Gr w4 (((w4.alloc (.cells #[.int .i64 2, .slice av 1 cv, .int .i64 1] 35)).alloc (.cells (madeCells #[.int .u8 0] n) 5)).alloc (.cells #[.int .u8 kind, .int .i64 i, .int .i64 key, .string (zeros n)] 66)) := ((Gr.alloc _ _).trans (Gr.alloc _ _)).trans (Gr.alloc _ _)
    generalize ((w4.alloc (.cells #[.int .i64 2, .slice av 1 cv, .int .i64 1] 35)).alloc (.cells (madeCells #[.int .u8 0] n) 5)).alloc (.cells #[.int .u8 kind, .int .i64 i, .int .i64 key, .string (zeros n)] 66) = w5 at hg ⊢
    have s1 := hg.stp 0 o4
    replace K := K.step s1 (by decide)
    replace hM := hM.keep s1 (by decide)
    replace hR := hR.keep s1 (by decide)
    replace hV := hV.keep s1 (by decide)
    replace hv := hv.keep s1 (by decide)
    clear s1 hg
    refine (Run_bad o4 8 _ pr aR cR phs hR ⟨2, [1], 1⟩ av cv kind i (key, zeros n) k0 k256 (by unfold badS; rw [HL.out]; simp only; rw [ZS.out]; omega) (by rw [ZS.out]; omega)).mono ?_
    rintro e w6 ⟨rfl, hg⟩
    have s1 := hg.stp 0 o4
    replace K := K.step s1 (by decide)
    replace hR := hR.keep s1 (by decide)
    clear s1 hg hV hM hv
    obtain ⟨p, hp⟩ : ∃ p, phs[i]? = some p := ⟨_, List.getElem?_eq_getElem (by rw [HL.out]; omega)⟩
    have HH := Lib.hid (RHeap_calls _ 8 w6 pr aR cR phs hR i p hp)
    clear hp
    clear hR
    go_wp2_with fail
    refine HH.out.mono ?_
    rintro e w' ⟨rfl, rfl⟩
    go_wp2
    go_ret
    exact ⟨ret_ok i i3, K.bel⟩
  by_cases kh : 6 < kind
  · skip
    go_enter Try.func8, Try.ntmps8
    go_wp2_with fail
    refine (row8_calls _).mono ?_
    rintro e w0 ⟨rfl, hb⟩
    have K := K0.step (Below.stp hb 0 _ 9) (by decide)
    clear K0 hb
    go_wp2_with fail
    refine (TxNew_L (lab (fun _ => 9) w.heap.size 9) 1 _).mono ?_
    rintro e w1 ⟨o1, pm, bo, bd, rfl, hM, s1⟩
    replace K := K.step s1 (by decide)
    clear s1
    go_wp2_with fail
    refine (RNew_L o1 8 (by decide) _ pm 3 3 (by decide) (by decide) rfl).mono ?_
    rintro e w2 ⟨pr, o2, phs, aR, cR, rfl, hl, hR, hV, s1⟩
    replace K := K.step s1 (by decide)
    replace hM := hM.keep s1 (by decide)
    have HL := Lib.hid hl
    clear s1 hl
    go_wp2_with fail
    refine (Begin_L o2 1 _ pm bo bd _ hM).mono ?_
    rintro e w3 ⟨he, hM0, s1⟩
    obtain rfl : e = .returned (.tuple #[.int .i64 1, .int .i64 0]) := he
    replace K := K.step s1 (by decide)
    replace hR := hR.keep s1 (by decide)
    replace hV := hV.keep s1 (by decide)
    replace hM : MgrL o2 1 w3 pm bo bd [1] := hM0
    clear s1 hM0
    go_wp2_with fail
    refine (Now_L o2 1 3 _ pm bo bd _ hM).mono ?_
    rintro e w4 ⟨o4, av, cv, he, hv0, s1⟩
    obtain rfl : e = .returned (.agg #[.int .i64 2, .slice av 1 cv]) := he
    replace K := K.step s1 (by decide)
    replace hM := hM.keep s1 (by decide)
    replace hR := hR.keep s1 (by decide)
    replace hV := hV.keep s1 (by decide)
    have hv : ViewL o4 3 w4 ⟨2, [1], 1⟩ av cv := hv0 1
    clear s1 hv0
    go_wp2_with fail
    have hg : Gr w4 (((w4.alloc (.cells #[.int .i64 2, .slice av 1 cv, .int .i64 1] 35)).alloc (.cells (madeCells #[.int .u8 0] n) 5)).alloc (.cells #[.int .u8 kind, .int .i64 i, .int .i64 key, .string (zeros n)] 66)) := ((Gr.alloc _ _).trans (Gr.alloc _ _)).trans (Gr.alloc _ _)
    generalize ((w4.alloc (.cells #[.int .i64 2, .slice av 1 cv, .int .i64 1] 35)).alloc (.cells (madeCells #[.int .u8 0] n) 5)).alloc (.cells #[.int .u8 kind, .int .i64 i, .int .i64 key, .string (zeros n)] 66) = w5 at hg ⊢
    have s1 := hg.stp 0 o4
    replace K := K.step s1 (by decide)
    replace hM := hM.keep s1 (by decide)
    replace hR := hR.keep s1 (by decide)
    replace hV := hV.keep s1 (by decide)
    replace hv := hv.keep s1 (by decide)
    clear s1 hg
    refine (Run_bad o4 8 _ pr aR cR phs hR ⟨2, [1], 1⟩ av cv kind i (key, zeros n) k0 k256 (by unfold badS; rw [HL.out]; simp only; rw [ZS.out]; omega) (by rw [ZS.out]; omega)).mono ?_
    rintro e w6 ⟨rfl, hg⟩
    have s1 := hg.stp 0 o4
    replace K := K.step s1 (by decide)
    replace hR := hR.keep s1 (by decide)
    clear s1 hg hV hM hv
    obtain ⟨p, hp⟩ : ∃ p, phs[i]? = some p := ⟨_, List.getElem?_eq_getElem (by rw [HL.out]; omega)⟩
    have HH := Lib.hid (RHeap_calls _ 8 w6 pr aR cR phs hR i p hp)
    clear hp
    clear hR
    go_wp2_with fail
    refine HH.out.mono ?_
    rintro e w' ⟨rfl, rfl⟩
    go_wp2
    go_ret
    exact ⟨ret_ok i i3, K.bel⟩
  by_cases k3 : kind < 3
  · by_cases h40 : 40 < long % 60
    · have n40 : 40 < n := by have := HYtannjecmfbhkeaa.out; omega
      go_enter Try.func8, Try.ntmps8
      go_wp2_with fail
      refine (row8_calls _).mono ?_
      rintro e w0 ⟨rfl, hb⟩
      have K := K0.step (Below.stp hb 0 _ 9) (by decide)
      clear K0 hb
      go_wp2_with fail
      refine (TxNew_L (lab (fun _ => 9) w.heap.size 9) 1 _).mono ?_
      rintro e w1 ⟨o1, pm, bo, bd, rfl, hM, s1⟩
      replace K := K.step s1 (by decide)
      clear s1
      go_wp2_with fail
      refine (RNew_L o1 8 (by decide) _ pm 3 3 (by decide) (by decide) rfl).mono ?_
      rintro e w2 ⟨pr, o2, phs, aR, cR, rfl, hl, hR, hV, s1⟩
      replace K := K.step s1 (by decide)
      replace hM := hM.keep s1 (by decide)
      have HL := Lib.hid hl
      clear s1 hl
      go_wp2_with fail
      refine (Begin_L o2 1 _ pm bo bd _ hM).mono ?_
      rintro e w3 ⟨he, hM0, s1⟩
      obtain rfl : e = .returned (.tuple #[.int .i64 1, .int .i64 0]) := he
      replace K := K.step s1 (by decide)
      replace hR := hR.keep s1 (by decide)
      replace hV := hV.keep s1 (by decide)
      replace hM : MgrL o2 1 w3 pm bo bd [1] := hM0
      clear s1 hM0
      go_wp2_with fail
      refine (Now_L o2 1 3 _ pm bo bd _ hM).mono ?_
      rintro e w4 ⟨o4, av, cv, he, hv0, s1⟩
      obtain rfl : e = .returned (.agg #[.int .i64 2, .slice av 1 cv]) := he
      replace K := K.step s1 (by decide)
      replace hM := hM.keep s1 (by decide)
      replace hR := hR.keep s1 (by decide)
      replace hV := hV.keep s1 (by decide)
      have hv : ViewL o4 3 w4 ⟨2, [1], 1⟩ av cv := hv0 1
      clear s1 hv0
      go_wp2_with fail
      have hg : Gr w4 (((w4.alloc (.cells #[.int .i64 2, .slice av 1 cv, .int .i64 1] 35)).alloc (.cells (madeCells #[.int .u8 0] n) 5)).alloc (.cells #[.int .u8 kind, .int .i64 i, .int .i64 key, .string (zeros n)] 66)) := ((Gr.alloc _ _).trans (Gr.alloc _ _)).trans (Gr.alloc _ _)
      generalize ((w4.alloc (.cells #[.int .i64 2, .slice av 1 cv, .int .i64 1] 35)).alloc (.cells (madeCells #[.int .u8 0] n) 5)).alloc (.cells #[.int .u8 kind, .int .i64 i, .int .i64 key, .string (zeros n)] 66) = w5 at hg ⊢
      have s1 := hg.stp 0 o4
      replace K := K.step s1 (by decide)
      replace hM := hM.keep s1 (by decide)
      replace hR := hR.keep s1 (by decide)
      replace hV := hV.keep s1 (by decide)
      replace hv := hv.keep s1 (by decide)
      clear s1 hg
      refine (Run_bad o4 8 _ pr aR cR phs hR ⟨2, [1], 1⟩ av cv kind i (key, zeros n) k0 k256 (by unfold badS; rw [HL.out]; simp only; rw [ZS.out]; omega) (by rw [ZS.out]; omega)).mono ?_
      rintro e w6 ⟨rfl, hg⟩
      have s1 := hg.stp 0 o4
      replace K := K.step s1 (by decide)
      replace hR := hR.keep s1 (by decide)
      clear s1 hg hV hM hv
      obtain ⟨p, hp⟩ : ∃ p, phs[i]? = some p := ⟨_, List.getElem?_eq_getElem (by rw [HL.out]; omega)⟩
      have HH := Lib.hid (RHeap_calls _ 8 w6 pr aR cR phs hR i p hp)
      clear hp
      clear hR
      go_wp2_with fail
      refine HH.out.mono ?_
      rintro e w' ⟨rfl, rfl⟩
      go_wp2
      go_ret
      exact ⟨ret_ok i i3, K.bel⟩
    · have n40 : n ≤ 40 := by have := HYtannjecmfbhkeaa.out; omega
      go_enter Try.func8, Try.ntmps8
      go_wp2_with fail
      refine (row8_calls _).mono ?_
      rintro e w0 ⟨rfl, hb⟩
      have K := K0.step (Below.stp hb 0 _ 9) (by decide)
      clear K0 hb
      go_wp2_with fail
      refine (TxNew_L (lab (fun _ => 9) w.heap.size 9) 1 _).mono ?_
      rintro e w1 ⟨o1, pm, bo, bd, rfl, hM, s1⟩
      replace K := K.step s1 (by decide)
      clear s1
      go_wp2_with fail
      refine (RNew_L o1 8 (by decide) _ pm 3 3 (by decide) (by decide) rfl).mono ?_
      rintro e w2 ⟨pr, o2, phs, aR, cR, rfl, hl, hR, hV, s1⟩
      replace K := K.step s1 (by decide)
      replace hM := hM.keep s1 (by decide)
      have HL := Lib.hid hl
      clear s1 hl
      go_wp2_with fail
      refine (Begin_L o2 1 _ pm bo bd _ hM).mono ?_
      rintro e w3 ⟨he, hM0, s1⟩
      obtain rfl : e = .returned (.tuple #[.int .i64 1, .int .i64 0]) := he
      replace K := K.step s1 (by decide)
      replace hR := hR.keep s1 (by decide)
      replace hV := hV.keep s1 (by decide)
      replace hM : MgrL o2 1 w3 pm bo bd [1] := hM0
      clear s1 hM0
      go_wp2_with fail
      refine (Now_L o2 1 3 _ pm bo bd _ hM).mono ?_
      rintro e w4 ⟨o4, av, cv, he, hv0, s1⟩
      obtain rfl : e = .returned (.agg #[.int .i64 2, .slice av 1 cv]) := he
      replace K := K.step s1 (by decide)
      replace hM := hM.keep s1 (by decide)
      replace hR := hR.keep s1 (by decide)
      replace hV := hV.keep s1 (by decide)
      have hv : ViewL o4 3 w4 ⟨2, [1], 1⟩ av cv := hv0 1
      clear s1 hv0
      go_wp2_with fail
      have hg : Gr w4 (((w4.alloc (.cells #[.int .i64 2, .slice av 1 cv, .int .i64 1] 35)).alloc (.cells (madeCells #[.int .u8 0] n) 5)).alloc (.cells #[.int .u8 kind, .int .i64 i, .int .i64 key, .string (zeros n)] 66)) := ((Gr.alloc _ _).trans (Gr.alloc _ _)).trans (Gr.alloc _ _)
      generalize ((w4.alloc (.cells #[.int .i64 2, .slice av 1 cv, .int .i64 1] 35)).alloc (.cells (madeCells #[.int .u8 0] n) 5)).alloc (.cells #[.int .u8 kind, .int .i64 i, .int .i64 key, .string (zeros n)] 66) = w5 at hg ⊢
      have s1 := hg.stp 0 o4
      replace K := K.step s1 (by decide)
      replace hM := hM.keep s1 (by decide)
      replace hR := hR.keep s1 (by decide)
      replace hV := hV.keep s1 (by decide)
      replace hv := hv.keep s1 (by decide)
      clear s1 hg
      obtain ⟨p, hp⟩ : ∃ p, phs[i]? = some p := ⟨_, List.getElem?_eq_getElem (by rw [HL.out]; omega)⟩
      refine (Run_L (q := 6) (i := 1) (k := 3) (kr := 8) kind i p (key, zeros n) hR hV hM (by decide) hv (by decide) hp (by omega) (by omega) (by rw [ZS.out]; omega) (by rw [ZS.out]; omega) (by decide) WK.out (by simp)).mono ?_
      rintro e w6 ⟨o6, ar, cr, rfl, hr6, hV6, s1⟩
      have HE := runR_err kind (key, zeros n) (by omega) (by omega)
      generalize (runR [1] ⟨2, [1], 1⟩ [] kind (key, zeros n)) = X at HE hr6 hV6 ⊢
      obtain ⟨xr, xe, xv⟩ := X
      dsimp only at HE hr6 hV6 ⊢
      replace K := K.step s1 (by omega)
      replace hR := hR.keep s1 (by omega)
      clear s1 hV hV6 hr6 hM hv
      have HH := Lib.hid (RHeap_calls _ 8 w6 pr aR cR phs hR i p hp)
      clear hp
      clear hR
      go_wp2_with fail
      refine HH.out.mono ?_
      rintro e w' ⟨rfl, rfl⟩
      go_wp2
      go_ret
      exact ⟨ret_ok i i3, K.bel⟩
  · skip
    go_enter Try.func8, Try.ntmps8
    go_wp2_with fail
    refine (row8_calls _).mono ?_
    rintro e w0 ⟨rfl, hb⟩
    have K := K0.step (Below.stp hb 0 _ 9) (by decide)
    clear K0 hb
    go_wp2_with fail
    refine (TxNew_L (lab (fun _ => 9) w.heap.size 9) 1 _).mono ?_
    rintro e w1 ⟨o1, pm, bo, bd, rfl, hM, s1⟩
    replace K := K.step s1 (by decide)
    clear s1
    go_wp2_with fail
    refine (RNew_L o1 8 (by decide) _ pm 3 3 (by decide) (by decide) rfl).mono ?_
    rintro e w2 ⟨pr, o2, phs, aR, cR, rfl, hl, hR, hV, s1⟩
    replace K := K.step s1 (by decide)
    replace hM := hM.keep s1 (by decide)
    have HL := Lib.hid hl
    clear s1 hl
    go_wp2_with fail
    refine (Begin_L o2 1 _ pm bo bd _ hM).mono ?_
    rintro e w3 ⟨he, hM0, s1⟩
    obtain rfl : e = .returned (.tuple #[.int .i64 1, .int .i64 0]) := he
    replace K := K.step s1 (by decide)
    replace hR := hR.keep s1 (by decide)
    replace hV := hV.keep s1 (by decide)
    replace hM : MgrL o2 1 w3 pm bo bd [1] := hM0
    clear s1 hM0
    go_wp2_with fail
    refine (Now_L o2 1 3 _ pm bo bd _ hM).mono ?_
    rintro e w4 ⟨o4, av, cv, he, hv0, s1⟩
    obtain rfl : e = .returned (.agg #[.int .i64 2, .slice av 1 cv]) := he
    replace K := K.step s1 (by decide)
    replace hM := hM.keep s1 (by decide)
    replace hR := hR.keep s1 (by decide)
    replace hV := hV.keep s1 (by decide)
    have hv : ViewL o4 3 w4 ⟨2, [1], 1⟩ av cv := hv0 1
    clear s1 hv0
    go_wp2_with fail
    have hg : Gr w4 (((w4.alloc (.cells #[.int .i64 2, .slice av 1 cv, .int .i64 1] 35)).alloc (.cells (madeCells #[.int .u8 0] n) 5)).alloc (.cells #[.int .u8 kind, .int .i64 i, .int .i64 key, .string (zeros n)] 66)) := ((Gr.alloc _ _).trans (Gr.alloc _ _)).trans (Gr.alloc _ _)
    generalize ((w4.alloc (.cells #[.int .i64 2, .slice av 1 cv, .int .i64 1] 35)).alloc (.cells (madeCells #[.int .u8 0] n) 5)).alloc (.cells #[.int .u8 kind, .int .i64 i, .int .i64 key, .string (zeros n)] 66) = w5 at hg ⊢
    have s1 := hg.stp 0 o4
    replace K := K.step s1 (by decide)
    replace hM := hM.keep s1 (by decide)
    replace hR := hR.keep s1 (by decide)
    replace hV := hV.keep s1 (by decide)
    replace hv := hv.keep s1 (by decide)
    clear s1 hg
    obtain ⟨p, hp⟩ : ∃ p, phs[i]? = some p := ⟨_, List.getElem?_eq_getElem (by rw [HL.out]; omega)⟩
    refine (Run_L (q := 6) (i := 1) (k := 3) (kr := 8) kind i p (key, zeros n) hR hV hM (by decide) hv (by decide) hp (by omega) (by omega) (by rw [ZS.out]; omega) (by rw [ZS.out]; omega) (by decide) WK.out (by simp)).mono ?_
    rintro e w6 ⟨o6, ar, cr, rfl, hr6, hV6, s1⟩
    have HE := runR_err kind (key, zeros n) (by omega) (by omega)
    generalize (runR [1] ⟨2, [1], 1⟩ [] kind (key, zeros n)) = X at HE hr6 hV6 ⊢
    obtain ⟨xr, xe, xv⟩ := X
    dsimp only at HE hr6 hV6 ⊢
    replace K := K.step s1 (by omega)
    replace hR := hR.keep s1 (by omega)
    clear s1 hV hV6 hr6 hM hv
    have HH := Lib.hid (RHeap_calls _ 8 w6 pr aR cR phs hR i p hp)
    clear hp
    clear hR
    go_wp2_with fail
    refine HH.out.mono ?_
    rintro e w' ⟨rfl, rfl⟩
    go_wp2
    go_ret
    exact ⟨ret_ok i i3, K.bel⟩
end Go.Proofs.Ytannjecmfbhkeaa
