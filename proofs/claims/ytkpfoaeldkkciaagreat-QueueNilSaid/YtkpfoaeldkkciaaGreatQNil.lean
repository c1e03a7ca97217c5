/- Of no queue: what each function answers. -/
import Derived.Test.YtkpfoaeldkkciaaGreatTxn
namespace Go.Proofs.YtkpfoaeldkkciaaGreat
open Go Go.RowKit Go.Lib Go.Maps
theorem N_Cursors (w : World) : Calls Tryz.prog 13 #[.pointer none] w fun e w' => e = .returned (.pointer none) ∧ Gr w w' := by
  go_enter Tryz.func13, Tryz.ntmps13
  go_wp2
  go_ret
  exact ⟨rfl, Gr.refl _⟩
theorem N_Ticks (w : World) : Calls Tryz.prog 15 #[.pointer none] w fun e w' => e = .returned (.pointer none) ∧ Gr w w' := by
  go_enter Tryz.func15, Tryz.ntmps15
  go_wp2
  go_ret
  exact ⟨rfl, Gr.refl _⟩
theorem N_Spools (w : World) : Calls Tryz.prog 32 #[.pointer none] w fun e w' => e = .returned (.pointer none) ∧ Gr w w' := by
  go_enter Tryz.func32, Tryz.ntmps32
  go_wp2
  go_ret
  exact ⟨rfl, Gr.refl _⟩
theorem N_Retries (w : World) : Calls Tryz.prog 43 #[.pointer none] w fun e w' => e = .returned (.pointer none) ∧ Gr w w' := by
  go_enter Tryz.func43, Tryz.ntmps43
  go_wp2
  go_ret
  exact ⟨rfl, Gr.refl _⟩
theorem N_NextID (w : World) : Calls Tryz.prog 42 #[.pointer none] w fun e w' => e = .returned (.int .i64 0) ∧ Gr w w' := by
  go_enter Tryz.func42, Tryz.ntmps42
  go_wp2
  go_ret
  exact ⟨rfl, Gr.refl _⟩
theorem N_SetNextID (w : World) (n : Int) : Calls Tryz.prog 39 #[.pointer none, .int .i64 n] w fun e w' => e = .returned (.tuple #[]) ∧ Gr w w' := by
  go_enter Tryz.func39, Tryz.ntmps39
  go_wp2
  go_end0
  exact ⟨rfl, Gr.refl _⟩
theorem N_Register (w : World) (s : ByteArray) : Calls Tryz.prog 22 #[.pointer none, .string s] w fun e w' => e = .returned (.int .i64 4) ∧ Gr w w' := by
  go_enter Tryz.func22, Tryz.ntmps22
  go_wp2
  go_ret
  exact ⟨rfl, Gr.refl _⟩
theorem N_Maint (w : World) (a b : Int) : Calls Tryz.prog 38 #[.pointer none, .int .i64 a, .int .i64 b] w fun e w' => e = .returned (.slice none 0 0) ∧ Gr w w' := by
  go_enter Tryz.func38, Tryz.ntmps38
  go_wp2
  go_ret
  exact ⟨rfl, Gr.refl _⟩
theorem N_of (w : World) (s : ByteArray) : Calls Tryz.prog 151 #[.pointer none, .string s] w fun e w' => e = .returned (.tuple #[.pointer none, .int .i64 4]) ∧ Gr w w' := by
  go_enter Tryz.func151, Tryz.ntmps151
  go_wp2
  go_ret2
  exact ⟨rfl, Gr.refl _⟩
theorem N_SLen (w : World) : Calls Tryz.prog 141 #[.pointer none] w fun e w' => e = .returned (.int .i64 0) ∧ Gr w w' := by
  go_enter Tryz.func141, Tryz.ntmps141
  go_wp2
  go_ret
  exact ⟨rfl, Gr.refl _⟩
theorem N_TkLen (w : World) : Calls Tryz.prog 79 #[.pointer none] w fun e w' => e = .returned (.int .i64 0) ∧ Gr w w' := by
  go_enter Tryz.func79, Tryz.ntmps79
  go_wp2
  go_ret
  exact ⟨rfl, Gr.refl _⟩
theorem N_CAll (w : World) : Calls Tryz.prog 14 #[.pointer none] w fun e w' => e = .returned (.slice none 0 0) ∧ Gr w w' := by
  go_enter Tryz.func14, Tryz.ntmps14
  go_wp2
  go_ret
  exact ⟨rfl, Gr.refl _⟩
theorem N_SForget (w : World) (x : Int) : Calls Tryz.prog 88 #[.pointer none, .int .i64 x] w fun e w' => e = .returned (.int .i64 0) ∧ Gr w w' := by
  go_enter Tryz.func88, Tryz.ntmps88
  go_wp2_with fail
  refine (N_SLen _).mono ?_
  rintro e w1 ⟨rfl, g1⟩
  go_wp2
  go_ret
  exact ⟨rfl, (Gr.alloc _ _).trans g1⟩
theorem N_SRotate (w : World) : Calls Tryz.prog 89 #[.pointer none, .bool false] w fun e w' => e = .returned (.tuple #[.int .u8 0, .int .i64 4]) ∧ Gr w w' := by
  go_enter Tryz.func89, Tryz.ntmps89
  go_wp2
  go_ret2
  exact ⟨rfl, Gr.refl _⟩
theorem N_CLeast (w : World) : Calls Tryz.prog 70 #[.pointer none] w fun e w' => e = .returned (.tuple #[.int .i64 0, .bool false]) ∧ Gr w w' := by
  go_enter Tryz.func70, Tryz.ntmps70
  go_wp2_with fail
  refine (N_CAll _).mono ?_
  rintro e w1 ⟨rfl, g1⟩
  go_wp2
  go_ret2
  exact ⟨rfl, (Gr.refl _).trans g1⟩
theorem N_CFinish (w : World) (s : ByteArray) : Calls Tryz.prog 100 #[.pointer none, .string s] w fun e w' => e = .returned (.tuple #[.int .i64 0, .int .i64 4]) ∧ Gr w w' := by
  go_enter Tryz.func100, Tryz.ntmps100
  go_wp2_with fail
  refine (N_of _ s).mono ?_
  rintro e w1 ⟨rfl, g1⟩
  go_wp2
  go_ret2
  exact ⟨rfl, (Gr.refl _).trans g1⟩
theorem N_CUnregister (w : World) (s : ByteArray) : Calls Tryz.prog 105 #[.pointer none, .string s] w fun e w' => e = .returned (.int .i64 4) ∧ Gr w w' := by
  go_enter Tryz.func105, Tryz.ntmps105
  go_wp2_with fail
  refine (N_of _ s).mono ?_
  rintro e w1 ⟨rfl, g1⟩
  go_wp2
  go_ret
  exact ⟨rfl, (Gr.refl _).trans g1⟩
theorem N_Finish (w : World) (s : ByteArray) : Calls Tryz.prog 36 #[.pointer none, .string s] w fun e w' => e = .returned (.tuple #[.int .i64 0, .int .i64 4]) ∧ Gr w w' := by
  go_enter Tryz.func36, Tryz.ntmps36
  go_wp2_with fail
  refine (N_Cursors _).mono ?_
  rintro e w1 ⟨rfl, g1⟩
  go_wp2_with fail
  refine (N_CFinish _ s).mono ?_
  rintro e w2 ⟨rfl, g2⟩
  go_wp2
  go_ret2
  exact ⟨rfl, ((Gr.refl _).trans g1).trans g2⟩
theorem N_Unregister (w : World) (s : ByteArray) : Calls Tryz.prog 40 #[.pointer none, .string s] w fun e w' => e = .returned (.int .i64 4) ∧ Gr w w' := by
  go_enter Tryz.func40, Tryz.ntmps40
  go_wp2_with fail
  refine (N_Cursors _).mono ?_
  rintro e w1 ⟨rfl, g1⟩
  go_wp2_with fail
  refine (N_CUnregister _ s).mono ?_
  rintro e w2 ⟨rfl, g2⟩
  go_wp2
  go_ret
  exact ⟨rfl, ((Gr.refl _).trans g1).trans g2⟩
theorem N_Forget (w : World) (x : Int) : Calls Tryz.prog 29 #[.pointer none, .int .i64 x] w fun e w' => e = .returned (.int .i64 0) ∧ Gr w w' := by
  go_enter Tryz.func29, Tryz.ntmps29
  go_wp2_with fail
  refine (N_Spools _).mono ?_
  rintro e w1 ⟨rfl, g1⟩
  go_wp2_with fail
  refine (N_SForget _ x).mono ?_
  rintro e w2 ⟨rfl, g2⟩
  go_wp2
  go_ret
  exact ⟨rfl, ((Gr.refl _).trans g1).trans g2⟩
theorem N_Free (w : World) : Calls Tryz.prog 41 #[.pointer none] w fun e w' => e = .returned (.bool false) ∧ Gr w w' := by
  have mixed : Tryz.prog.follows .mixedOrders = true := by kernel_rfl
  go_enter Tryz.func41, Tryz.ntmps41
  go_wp2_with fail
  generalize hW : w = W
  have g0 : Gr w W := by rw [hW]; exact Gr.refl _
  clear hW
  (refine wp_region_quiet_grown mixed (by kernel_rfl) ?_; (repeat (first | go_big_quiet_step (fail) | quiet_step (fail))); refine wpQuiet_nil ?_; intro _ hw'; obtain ⟨⟨nq, osq⟩, hw''⟩ := hw'; subst hw'')
  go_wp2
  go_ret
  exact ⟨rfl, g0.trans (Gr.grow _ _ _)⟩
theorem N_Rotate (w : World) : Calls Tryz.prog 30 #[.pointer none] w fun e w' => e = .returned (.tuple #[.int .u8 0, .int .i64 4]) ∧ Gr w w' := by
  go_enter Tryz.func30, Tryz.ntmps30
  go_wp2_with fail
  refine (N_Spools _).mono ?_
  rintro e w1 ⟨rfl, g1⟩
  go_wp2_with fail
  refine (N_Free _).mono ?_
  rintro e w2 ⟨rfl, g2⟩
  go_wp2_with fail
  refine (N_SRotate _).mono ?_
  rintro e w3 ⟨rfl, g3⟩
  go_wp2
  go_ret2
  exact ⟨rfl, (((Gr.refl _).trans g1).trans g2).trans g3⟩
theorem N_TkTrim (w : World) (n : Int) : Calls Tryz.prog 71 #[.pointer none, .int .i64 n] w fun e w' => e = .returned (.int .i64 0) ∧ Gr w w' := by
  go_enter Tryz.func71, Tryz.ntmps71
  go_wp2_with fail
  refine (N_TkLen _).mono ?_
  rintro e w1 ⟨rfl, g1⟩
  go_wp2
  go_ret
  exact ⟨rfl, ((Gr.alloc _ _).trans (Gr.alloc _ _)).trans g1⟩
theorem N_Trim (w : World) : Calls Tryz.prog 12 #[.pointer none] w fun e w' => e = .returned (.int .i64 0) ∧ Gr w w' := by
  go_enter Tryz.func12, Tryz.ntmps12
  go_wp2_with fail
  refine (N_Cursors _).mono ?_
  rintro e w1 ⟨rfl, g1⟩
  go_wp2_with fail
  refine (N_CLeast _).mono ?_
  rintro e w2 ⟨rfl, g2⟩
  go_wp2_with fail
  refine (N_Ticks _).mono ?_
  rintro e w3 ⟨rfl, g3⟩
  go_wp2_with fail
  refine (N_TkTrim _ _).mono ?_
  rintro e w4 ⟨rfl, g4⟩
  go_wp2
  go_ret
  exact ⟨rfl, ((((Gr.refl _).trans g1).trans g2).trans g3).trans g4⟩
theorem N_CGet (w : World) (s : ByteArray) : Calls Tryz.prog 96 #[.pointer none, .string s] w fun e w' => e = .returned (.tuple #[.agg #[.string ⟨#[]⟩, .int .i64 0, .int .i64 0], .bool false]) ∧ Gr w w' := by
  go_enter Tryz.func96, Tryz.ntmps96
  go_wp2_with fail
  refine (N_of _ s).mono ?_
  rintro e w1 ⟨rfl, g1⟩
  have r0 := g1.cell (a := ⟨w.heap.size, 0, none⟩) (v := .string ⟨#[]⟩) (by simp [go_sem])
  have f0 := g1.frozen (a := ⟨w.heap.size, 0, none⟩) (v := .string ⟨#[]⟩) (by simp [go_sem]) (by simp [go_sem])
  have r1 := g1.cell (a := ⟨w.heap.size, 1, none⟩) (v := .int .i64 0) (by simp [go_sem])
  have f1 := g1.frozen (a := ⟨w.heap.size, 1, none⟩) (v := .int .i64 0) (by simp [go_sem]) (by simp [go_sem])
  have r2 := g1.cell (a := ⟨w.heap.size, 2, none⟩) (v := .int .i64 0) (by simp [go_sem])
  have f2 := g1.frozen (a := ⟨w.heap.size, 2, none⟩) (v := .int .i64 0) (by simp [go_sem]) (by simp [go_sem])
  have G := Lib.hid g1
  clear g1
  go_wp2
  refine bodyPost_ret (v := .tuple #[.agg #[.string ⟨#[]⟩, .int .i64 0, .int .i64 0], .bool false]) ?_ rfl ?_
  · simp [results, Tryz.results96, go_sem, r0, r1, r2]
  · exact ⟨rfl, ((((Gr.alloc _ _).trans G.out).setCell (by simp) _).setCell (by simp) _).setCell (by simp) _⟩
theorem N_Tick (w : World) (n : Int) : Calls Tryz.prog 21 #[.pointer none, .int .i64 n] w fun e w' => e = .returned (.tuple #[.agg #[.int .i64 0, .int .i64 0, .slice none 0 0, .int .i64 0], .int .i64 4]) ∧ Gr w w' := by
  go_enter Tryz.func21, Tryz.ntmps21
  go_wp2
  refine bodyPost_ret (v := .tuple #[.agg #[.int .i64 0, .int .i64 0, .slice none 0 0, .int .i64 0], .int .i64 4]) ?_ rfl ?_
  · simp [results, Tryz.results21, go_sem]
  · exact ⟨rfl, Gr.alloc _ _⟩
theorem N_Next (w : World) (s : ByteArray) : Calls Tryz.prog 34 #[.pointer none, .string s] w fun e w' => e = .returned (.tuple #[.agg #[.int .i64 0, .int .i64 0, .slice none 0 0, .int .i64 0], .int .i64 4]) ∧ Gr w w' := by
  go_enter Tryz.func34, Tryz.ntmps34
  go_wp2_with fail
  refine (N_Cursors _).mono ?_
  rintro e w1 ⟨rfl, g1⟩
  go_wp2_with fail
  refine (N_CGet _ s).mono ?_
  rintro e w2 ⟨rfl, g2⟩
  have g3 := g1.trans g2
  have r0 := g3.cell (a := ⟨w.heap.size, 0, none⟩) (v := .int .i64 0) (by simp [go_sem])
  have f0 := g3.frozen (a := ⟨w.heap.size, 0, none⟩) (v := .int .i64 0) (by simp [go_sem]) (by simp [go_sem])
  have r1 := g3.cell (a := ⟨w.heap.size, 1, none⟩) (v := .int .i64 0) (by simp [go_sem])
  have f1 := g3.frozen (a := ⟨w.heap.size, 1, none⟩) (v := .int .i64 0) (by simp [go_sem]) (by simp [go_sem])
  have r2 := g3.cell (a := ⟨w.heap.size, 2, none⟩) (v := .slice none 0 0) (by simp [go_sem])
  have f2 := g3.frozen (a := ⟨w.heap.size, 2, none⟩) (v := .slice none 0 0) (by simp [go_sem]) (by simp [go_sem])
  have r3 := g3.cell (a := ⟨w.heap.size, 3, none⟩) (v := .int .i64 0) (by simp [go_sem])
  have f3 := g3.frozen (a := ⟨w.heap.size, 3, none⟩) (v := .int .i64 0) (by simp [go_sem]) (by simp [go_sem])
  have lt : w.heap.size < w2.heap.size := World.block_lt_of_cell? _ _ r0
  have G := Lib.hid g3
  clear g1 g2 g3
  go_wp2
  refine bodyPost_ret (v := .tuple #[.agg #[.int .i64 0, .int .i64 0, .slice none 0 0, .int .i64 0], .int .i64 4]) ?_ rfl ?_
  · simp [results, Tryz.results34, go_sem, r0, r1, r2, r3, lt]
  · exact ⟨rfl, ((((((Gr.alloc _ _).trans G.out).setCell (by simp) _).setCell (by simp) _).setCell (by simp) _).setCell (by simp) _).trans (Gr.alloc _ _)⟩
theorem N_Batch (w : World) (s : ByteArray) : Calls Tryz.prog 35 #[.pointer none, .string s] w fun e w' => e = .returned (.tuple #[.slice none 0 0, .int .i64 4]) ∧ Gr w w' := by
  go_enter Tryz.func35, Tryz.ntmps35
  go_wp2_with fail
  refine (N_Cursors _).mono ?_
  rintro e w1 ⟨rfl, g1⟩
  go_wp2_with fail
  refine (N_CGet _ s).mono ?_
  rintro e w2 ⟨rfl, g2⟩
  go_wp2
  go_ret2
  exact ⟨rfl, (g1.trans g2).trans (Gr.alloc _ _)⟩
theorem N_Retry (w : World) (s : ByteArray) (a b : Int) : Calls Tryz.prog 37 #[.pointer none, .string s, .int .i64 a, .int .i64 b] w fun e w' => e = .returned (.int .i64 4) ∧ Gr w w' := by
  go_enter Tryz.func37, Tryz.ntmps37
  go_wp2_with fail
  refine (N_Batch _ s).mono ?_
  rintro e w1 ⟨rfl, g1⟩
  go_wp2
  go_ret
  exact ⟨rfl, (Gr.alloc _ _).trans g1⟩
theorem N_Write (w : World) (x t k : Int) (a : Int) (s : ByteArray) : Calls Tryz.prog 26 #[.pointer none, .int .i64 x, .int .i64 t, .int .u8 k, .agg #[.int .i64 a, .string s]] w fun e w' => e = .returned (.agg #[.int .i64 0, .int .i64 0, .string ⟨#[]⟩, .int .i64 0, .int .i64 0, .int .u8 0, .int .i64 0, .string ⟨#[]⟩]) ∧ Gr w w' := by
  go_enter Tryz.func26, Tryz.ntmps26
  go_wp2
  refine bodyPost_ret (v := .agg #[.int .i64 0, .int .i64 0, .string ⟨#[]⟩, .int .i64 0, .int .i64 0, .int .u8 0, .int .i64 0, .string ⟨#[]⟩]) ?_ rfl ?_
  · simp [results, Tryz.results26, go_sem]
  · exact ⟨rfl, (Gr.alloc _ _).trans (Gr.alloc _ _)⟩
end Go.Proofs.YtkpfoaeldkkciaaGreat
