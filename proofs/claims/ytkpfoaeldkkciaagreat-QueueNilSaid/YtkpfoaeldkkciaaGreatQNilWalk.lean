/- QueueNil: of no queue. -/
import Derived.Test.YtkpfoaeldkkciaaGreatQNew
namespace Go.Proofs.YtkpfoaeldkkciaaGreat
open Go Go.RowKit Go.Lib Go.Maps
set_option maxHeartbeats 16000000 in
set_option maxRecDepth 100000 in
theorem QueueNil_walk (s : ByteArray) (n : Int) (w : World) (hs : s.size ≤ 9223372036854775807) : Calls Tryz.prog 7 #[.string s, .int .i64 n] w fun e w' => e = .returned (.bool true) ∧ Below w.heap.size w w' := by
  by_cases h60 : 60 < s.size
  · have h60z : (60 : Int) < (s.size : Int) := by omega
    go_enter Tryz.func7, Tryz.ntmps7
    go_wp2_with fail
    refine (early_calls _).mono ?_
    rintro e w1 ⟨rfl, g⟩
    go_wp2
    go_ret
    exact ⟨rfl, g.below⟩
  have h60z : (s.size : Int) ≤ 60 := by omega
  go_enter Tryz.func7, Tryz.ntmps7
  go_wp2_with fail
  refine (N_SetNextID _ n).mono ?_
  rintro e w1 ⟨rfl, g1⟩
  go_wp2_with fail
  refine (N_Tick _ n).mono ?_
  rintro e w2 ⟨rfl, g2⟩
  go_wp2_with fail
  refine (N_Next _ s).mono ?_
  rintro e w3 ⟨rfl, g3⟩
  go_wp2_with fail
  refine (N_Batch _ s).mono ?_
  rintro e w4 ⟨rfl, g4⟩
  go_wp2_with fail
  refine (N_Finish _ s).mono ?_
  rintro e w5 ⟨rfl, g5⟩
  go_wp2_with fail
  refine (N_Rotate _).mono ?_
  rintro e w6 ⟨rfl, g6⟩
  go_wp2_with fail
  refine (N_Write _ n 0 1 0 ⟨#[]⟩).mono ?_
  rintro e w7 ⟨rfl, g7⟩
  go_wp2_with fail
  refine (early_calls _).mono ?_
  rintro e w8 ⟨rfl, g8⟩
  have x0 := g8.cell (a := ⟨w7.heap.size, 0, none⟩) (v := .int .i64 0) (by simp [go_sem])
  go_wp2_with fail
  refine (N_Register _ s).mono ?_
  rintro e w9 ⟨rfl, g9⟩
  go_wp2_with fail
  refine (N_Unregister _ s).mono ?_
  rintro e w10 ⟨rfl, g10⟩
  go_wp2_with fail
  refine (N_Retry _ s n n).mono ?_
  rintro e w11 ⟨rfl, g11⟩
  go_wp2_with fail
  refine (N_Maint _ n n).mono ?_
  rintro e w12 ⟨rfl, g12⟩
  go_wp2_with fail
  refine (N_Trim _).mono ?_
  rintro e w13 ⟨rfl, g13⟩
  go_wp2_with fail
  refine (N_Forget _ n).mono ?_
  rintro e w14 ⟨rfl, g14⟩
  go_wp2_with fail
  refine (N_Free _).mono ?_
  rintro e w15 ⟨rfl, g15⟩
  go_wp2_with fail
  refine (N_NextID _).mono ?_
  rintro e w16 ⟨rfl, g16⟩
  go_wp2_with fail
  refine (N_Spools _).mono ?_
  rintro e w17 ⟨rfl, g17⟩
  go_wp2_with fail
  refine (N_Ticks _).mono ?_
  rintro e w18 ⟨rfl, g18⟩
  go_wp2_with fail
  refine (N_Cursors _).mono ?_
  rintro e w19 ⟨rfl, g19⟩
  go_wp2_with fail
  refine (N_Retries _).mono ?_
  rintro e w20 ⟨rfl, g20⟩
  go_wp2
  go_ret
  exact ⟨rfl, Gr.below (((((((((((((((((((((((g1).trans g2).trans (Gr.alloc _ _)).trans g3).trans (Gr.alloc _ _)).trans g4).trans g5).trans g6).trans g7).trans (Gr.alloc _ _)).trans g8).trans g9).trans g10).trans g11).trans g12).trans g13).trans g14).trans g15).trans g16).trans g17).trans g18).trans g19).trans g20)⟩
end Go.Proofs.YtkpfoaeldkkciaaGreat
