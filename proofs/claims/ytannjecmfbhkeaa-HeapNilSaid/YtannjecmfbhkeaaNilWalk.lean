/- HeapNil: of no heap, and of one without a manager. -/
import Derived.Test.YtannjecmfbhkeaaNil
namespace Go.Proofs.Ytannjecmfbhkeaa
open Go Go.RowKit Go.Lib Go.Maps
theorem HNew_nil (w : World) : Calls Try.prog 13 #[.pointer none] w fun e w' => e = .returned (.pointer (some ⟨w.heap.size, 0, none⟩)) ∧ Gr w w' ∧ w'.cell? ⟨w.heap.size, 0, none⟩ = some (.pointer none) := by
  go_enter Try.func13, Try.ntmps13
  go_wp2
  go_ret
  exact ⟨rfl, Gr.alloc _ _, by simp [go_sem]⟩
set_option maxHeartbeats 4000000 in
set_option maxRecDepth 100000 in
theorem HeapNil_walk (key own : Int) (w : World) : Calls Try.prog 7 #[.int .i64 key, .int .i64 own] w fun e w' => e = .returned (.bool true) ∧ Below w.heap.size w w' := by
  go_enter Try.func7, Try.ntmps7
  go_wp2
  obtain ⟨vb, hvb⟩ : ∃ vb, w.heap.size = vb := ⟨_, rfl⟩
  obtain ⟨W0, hW0⟩ : ∃ W0, w.alloc (.cells #[.int .i64 0, .slice none 0 0, .int .i64 own] 35) = W0 := ⟨_, rfl⟩
  have b0 : W0.cell? ⟨vb, 0, none⟩ = some (.int .i64 0) := by rw [← hW0, ← hvb]; simp [go_sem]
  have b1 : W0.cell? ⟨vb, 1, none⟩ = some (.slice none 0 0) := by rw [← hW0, ← hvb]; simp [go_sem]
  have b2 : W0.cell? ⟨vb, 2, none⟩ = some (.int .i64 own) := by rw [← hW0, ← hvb]; simp [go_sem]
  have G0 : Hid (Gr w W0) := by rw [← hW0]; exact Gr.alloc _ _
  rw [hW0, hvb]
  clear hW0 hvb
  have HB := Lib.hid (And.intro b0 (And.intro b1 b2))
  clear b0 b1 b2
  go_loopw [5, 7] (fun vh vi W => ∃ (k : Nat) (hp : Option Addr), vh = .pointer hp ∧ vi = .int .i64 k ∧ k ≤ 2 ∧ Hid (NilH W hp ∧ Gr W0 W)) (fun _ vi _ => 2 - (RowKit.intOf vi).toNat)
  case atStart => exact ⟨0, none, rfl, rfl, by omega, Or.inl rfl, Gr.refl _⟩
  case round =>
    obtain ⟨k, hp, rfl, rfl, hk, hI⟩ := hrel
    by_cases hlt : k < 2
    · have hltz : (k : Int) < 2 := by omega
      have N := hI.out.1
      have G := hI.out.2
      have b0 := G.cell HB.out.1
      have b1 := G.cell HB.out.2.1
      have b2 := G.cell HB.out.2.2
      have hvl : vb < wr.heap.size := World.block_lt_of_cell? _ ⟨vb, 0, none⟩ b0
      go_wp2_with fail
      refine (HGet_nil _ hp 0 own none 0 0 key N).mono ?_
      rintro e v1 ⟨rfl, hg⟩
      replace N := N.gr hg
      replace G := G.trans hg
      replace b0 := hg.cell b0
      replace b1 := hg.cell b1
      replace b2 := hg.cell b2
      have hvl : vb < v1.heap.size := World.block_lt_of_cell? _ ⟨vb, 0, none⟩ b0
      clear hg
      go_wp2_with fail
      refine (Truncate_nil _ hp 0 own none 0 0 (N.gr (Gr.alloc _ _))).mono ?_
      rintro e v2 ⟨rfl, hg⟩
      replace hg := (Gr.alloc _ _).trans hg
      replace N := N.gr hg
      replace G := G.trans hg
      replace b0 := hg.cell b0
      replace b1 := hg.cell b1
      replace b2 := hg.cell b2
      have hvl : vb < v2.heap.size := World.block_lt_of_cell? _ ⟨vb, 0, none⟩ b0
      clear hg
      have mixed : Try.prog.follows .mixedOrders = true := by kernel_rfl
      have g0 : ∀ n os, (Sort.grow (v2.drewN n) os).cell? ⟨vb, 0, none⟩ = some (.int .i64 0) := fun n os => (Gr.grow _ n os).cell b0
      have g1 : ∀ n os, (Sort.grow (v2.drewN n) os).cell? ⟨vb, 1, none⟩ = some (.slice none 0 0) := fun n os => (Gr.grow _ n os).cell b1
      have g2 : ∀ n os, (Sort.grow (v2.drewN n) os).cell? ⟨vb, 2, none⟩ = some (.int .i64 own) := fun n os => (Gr.grow _ n os).cell b2
      have HN := Lib.hid N
      have HG := Lib.hid G
      clear N G b0 b1 b2 hI
      go_wp2_with fail
      (refine wp_region_quiet_grown mixed (by kernel_rfl) ?_; (repeat (first | go_big_quiet_step (first | (go_at_call 18; refine Calls.grown_of_gr (Scan_nil _ hp 0 own none 0 0 (by exact HN.out.gr (Gr.grow _ _ _)))) | (go_at_call 27; refine Calls.grown_of_gr (HLen_nil _ hp (by exact HN.out.gr (Gr.grow _ _ _)))) | (go_at_call 28; refine Calls.grown_of_gr (HVacuum_nil _ hp 0 none 0 0 (by exact HN.out.gr (Gr.grow _ _ _)))) | (go_at_call 16; refine Calls.grown_of_gr (Insert_nil _ hp 0 own none 0 0 0 ⟨#[]⟩ (by exact HN.out.gr (Gr.grow _ _ _)))) | (go_at_call 22; refine Calls.grown_of_gr (Update_nil _ hp 0 own none 0 0 0 ⟨#[]⟩ (by exact HN.out.gr (Gr.grow _ _ _)))) | (go_at_call 23; refine Calls.grown_of_gr (Delete_nil _ hp 0 own none 0 0 key (by exact HN.out.gr (Gr.grow _ _ _)))) | (go_at_call 25; refine Calls.grown_of_gr (Redo_nil _ hp own none 0 0 (by exact HN.out.gr (Gr.grow _ _ _))))) | quiet_step (first | (go_at_call 18; refine Calls.grown_of_gr (Scan_nil _ hp 0 own none 0 0 (by exact HN.out.gr (Gr.grow _ _ _)))) | (go_at_call 27; refine Calls.grown_of_gr (HLen_nil _ hp (by exact HN.out.gr (Gr.grow _ _ _)))) | (go_at_call 28; refine Calls.grown_of_gr (HVacuum_nil _ hp 0 none 0 0 (by exact HN.out.gr (Gr.grow _ _ _)))) | (go_at_call 16; refine Calls.grown_of_gr (Insert_nil _ hp 0 own none 0 0 0 ⟨#[]⟩ (by exact HN.out.gr (Gr.grow _ _ _)))) | (go_at_call 22; refine Calls.grown_of_gr (Update_nil _ hp 0 own none 0 0 0 ⟨#[]⟩ (by exact HN.out.gr (Gr.grow _ _ _)))) | (go_at_call 23; refine Calls.grown_of_gr (Delete_nil _ hp 0 own none 0 0 key (by exact HN.out.gr (Gr.grow _ _ _)))) | (go_at_call 25; refine Calls.grown_of_gr (Redo_nil _ hp own none 0 0 (by exact HN.out.gr (Gr.grow _ _ _))))))); refine wpQuiet_nil ?_; intro _ hw'; obtain ⟨⟨nq, osq⟩, hw''⟩ := hw'; subst hw'')
      have G := HG.out.trans (Gr.grow v2 nq osq)
      go_wp2_with fail
      refine (HNew_nil _).mono ?_
      rintro e v10 ⟨rfl, hg, hc⟩
      replace G := G.trans hg
      have hI2 : Hid (NilH v10 (some ⟨v2.heap.size + osq.size, 0, none⟩) ∧ Gr W0 v10) := ⟨Or.inr ⟨_, rfl, by first | exact hc | simpa using hc | simpa [go_sem] using hc⟩, G⟩
      clear G hc hg g0 g1 g2 mixed
      go_wp2
      go_roundw
      case rel => exact ⟨k + 1, _, rfl, by go_num, by omega, hI2⟩
      case measure => simp [RowKit.intOf]; omega
    · have hge : (2 : Int) ≤ k := by omega
      go_wp2_with fail
      refine (clash_calls _).mono ?_
      rintro e w2 ⟨rfl, hb⟩
      go_wp2
      go_ret
      exact ⟨rfl, G0.out.below.trans ((hI.out.2.below.mono G0.out.size).trans (hb.mono (Nat.le_trans G0.out.size hI.out.2.size)))⟩
end Go.Proofs.Ytannjecmfbhkeaa
