/- What a heap that isn't there, or has no manager, answers. -/
import Derived.Test.YtannjecmfbhkeaaClash
namespace Go.Proofs.Ytannjecmfbhkeaa
open Go Go.RowKit Go.Lib Go.Maps
/-- No heap, or one without a manager. -/
def NilH (w : World) (hp : Option Addr) : Prop := hp = none ∨ ∃ ph, hp = some ⟨ph, 0, none⟩ ∧ w.cell? ⟨ph, 0, none⟩ = some (.pointer none)
theorem NilH.gr {w w' : World} {hp : Option Addr} (h : NilH w hp) (g : Gr w w') : NilH w' hp := by
  rcases h with rfl | ⟨ph, rfl, h⟩
  · exact Or.inl rfl
  · exact Or.inr ⟨ph, rfl, g.cell h⟩
section
variable (w : World) (hp : Option Addr) (a b : Int) (x : Option Addr) (n c : Nat)
theorem none_nil (h : NilH w hp) : Calls Try.prog 44 #[.pointer hp] w fun e w' => e = .returned (.bool true) ∧ w = w' := by
  rcases h with rfl | ⟨ph, rfl, h⟩
  · go_enter Try.func44, Try.ntmps44
    go_wp2
    go_ret
    exact ⟨rfl, rfl⟩
  · go_enter Try.func44, Try.ntmps44
    go_wp2
    go_ret
    exact ⟨rfl, rfl⟩
theorem none_nilH (h : NilH w hp) : Hid (∀ W, Gr w W → Calls Try.prog 44 #[.pointer hp] W fun e w' => e = .returned (.bool true) ∧ W = w') :=
  fun W g => none_nil W hp (h.gr g)
theorem HLen_nil (h : NilH w hp) : Calls Try.prog 27 #[.pointer hp] w fun e w' => e = .returned (.int .i64 0) ∧ Gr w w' := by
  have HN := none_nilH w hp h
  clear h
  go_enter Try.func27, Try.ntmps27
  go_wp2_with (go_at_call 44; refine (HN.out _ (by exact Gr.refl _)).mono ?_; rintro e w1 ⟨rfl, rfl⟩)
  go_ret
  exact ⟨rfl, Gr.refl _⟩
theorem Scan_nil (h : NilH w hp) : Calls Try.prog 18 #[.pointer hp, .agg #[.int .i64 a, .slice x n c, .int .i64 b]] w fun e w' => e = .returned (.slice none 0 0) ∧ Gr w w' := by
  have HN := none_nilH w hp h
  clear h
  go_enter Try.func18, Try.ntmps18
  go_wp2_with (go_at_call 44; refine (HN.out _ (by exact Gr.alloc _ _)).mono ?_; rintro e w1 ⟨rfl, rfl⟩)
  go_ret
  exact ⟨rfl, Gr.alloc _ _⟩
theorem HGet_nil (key : Int) (h : NilH w hp) : Calls Try.prog 26 #[.pointer hp, .agg #[.int .i64 a, .slice x n c, .int .i64 b], .int .i64 key] w fun e w' => e = .returned (.tuple #[.agg #[.int .i64 0, .string ⟨#[]⟩], .bool false]) ∧ Gr w w' := by
  have HN := none_nilH w hp h
  clear h
  go_enter Try.func26, Try.ntmps26
  go_wp2_with (go_at_call 44; refine (HN.out _ (by exact (Gr.alloc _ _).trans (Gr.alloc _ _))).mono ?_; rintro e w1 ⟨rfl, rfl⟩)
  exact bodyPost_ret (v := .tuple #[.agg #[.int .i64 0, .string ⟨#[]⟩], .bool false]) (by simp [results, Try.results26, go_sem]) rfl ⟨rfl, (Gr.alloc _ _).trans (Gr.alloc _ _)⟩
theorem ready_nil (h : NilH w hp) : Calls Try.prog 37 #[.pointer hp, .agg #[.int .i64 a, .slice x n c, .int .i64 b]] w fun e w' => e = .returned (.int .i64 4) ∧ Gr w w' := by
  have HN := none_nilH w hp h
  clear h
  go_enter Try.func37, Try.ntmps37
  go_wp2_with (go_at_call 44; refine (HN.out _ (by exact Gr.alloc _ _)).mono ?_; rintro e w1 ⟨rfl, rfl⟩)
  go_ret
  exact ⟨rfl, Gr.alloc _ _⟩
theorem ready_nilH (h : NilH w hp) : Hid (∀ W, Gr w W → Calls Try.prog 37 #[.pointer hp, .agg #[.int .i64 a, .slice x n c, .int .i64 b]] W fun e w' => e = .returned (.int .i64 4) ∧ Gr W w') :=
  fun W g => ready_nil W hp a b x n c (h.gr g)
theorem Insert_nil (k : Int) (s : ByteArray) (h : NilH w hp) : Calls Try.prog 16 #[.pointer hp, .agg #[.int .i64 a, .slice x n c, .int .i64 b], .agg #[.int .i64 k, .string s]] w fun e w' => e = .returned (.int .i64 4) ∧ Gr w w' := by
  have HN := ready_nilH w hp a b x n c h
  clear h
  go_enter Try.func16, Try.ntmps16
  go_wp2_with (go_at_call 37; refine (HN.out _ (by exact ((Gr.alloc _ _).trans (Gr.alloc _ _)).trans (Gr.alloc _ _))).mono ?_; rintro e w1 ⟨rfl, hg⟩)
  go_ret
  exact ⟨rfl, (((Gr.alloc _ _).trans (Gr.alloc _ _)).trans (Gr.alloc _ _)).trans hg⟩
theorem kill_nil (k : Int) (h : NilH w hp) : Calls Try.prog 51 #[.pointer hp, .agg #[.int .i64 a, .slice x n c, .int .i64 b], .int .i64 k] w fun e w' => e = .returned (.int .i64 4) ∧ Gr w w' := by
  have HN := ready_nilH w hp a b x n c h
  clear h
  go_enter Try.func51, Try.ntmps51
  go_wp2_with (go_at_call 37; refine (HN.out _ (by exact Gr.alloc _ _)).mono ?_; rintro e w1 ⟨rfl, hg⟩)
  go_ret
  exact ⟨rfl, (Gr.alloc _ _).trans hg⟩
theorem kill_nilH (k : Int) (h : NilH w hp) : Hid (∀ W, Gr w W → Calls Try.prog 51 #[.pointer hp, .agg #[.int .i64 a, .slice x n c, .int .i64 b], .int .i64 k] W fun e w' => e = .returned (.int .i64 4) ∧ Gr W w') :=
  fun W g => kill_nil W hp a b x n c k (h.gr g)
theorem Delete_nil (k : Int) (h : NilH w hp) : Calls Try.prog 23 #[.pointer hp, .agg #[.int .i64 a, .slice x n c, .int .i64 b], .int .i64 k] w fun e w' => e = .returned (.int .i64 4) ∧ Gr w w' := by
  have HN := kill_nilH w hp a b x n c k h
  clear h
  go_enter Try.func23, Try.ntmps23
  go_wp2_with (go_at_call 51; refine (HN.out _ (by exact Gr.alloc _ _)).mono ?_; rintro e w1 ⟨rfl, hg⟩)
  go_ret
  exact ⟨rfl, (Gr.alloc _ _).trans hg⟩
theorem Update_nil (k : Int) (s : ByteArray) (h : NilH w hp) : Calls Try.prog 22 #[.pointer hp, .agg #[.int .i64 a, .slice x n c, .int .i64 b], .agg #[.int .i64 k, .string s]] w fun e w' => e = .returned (.int .i64 4) ∧ Gr w w' := by
  have HN := kill_nilH w hp a b x n c k h
  clear h
  go_enter Try.func22, Try.ntmps22
  go_wp2_with (go_at_call 51; refine (HN.out _ (by exact (Gr.alloc _ _).trans (Gr.alloc _ _))).mono ?_; rintro e w1 ⟨rfl, hg⟩)
  go_ret
  exact ⟨rfl, ((Gr.alloc _ _).trans (Gr.alloc _ _)).trans hg⟩
theorem Truncate_nil (h : NilH w hp) : Calls Try.prog 19 #[.pointer hp, .agg #[.int .i64 a, .slice x n c, .int .i64 b]] w fun e w' => e = .returned (.tuple #[.slice none 0 0, .int .i64 4]) ∧ Gr w w' := by
  have HN := ready_nilH w hp a b x n c h
  clear h
  go_enter Try.func19, Try.ntmps19
  go_wp2_with (go_at_call 37; refine (HN.out _ (by first | exact Gr.alloc _ _ | exact (Gr.alloc _ _).trans (Gr.alloc _ _))).mono ?_; rintro e w1 ⟨rfl, hg⟩)
  go_ret2
  exact ⟨rfl, by first | exact (Gr.alloc _ _).trans hg | exact ((Gr.alloc _ _).trans (Gr.alloc _ _)).trans hg⟩
theorem Redo_nil (k : Int) (oa : Option Addr) (on oc : Nat) (h : NilH w hp) : Calls Try.prog 25 #[.pointer hp, .int .i64 k, .slice oa on oc] w fun e w' => e = .returned (.int .i64 4) ∧ Gr w w' := by
  have HN := none_nilH w hp h
  clear h
  go_enter Try.func25, Try.ntmps25
  go_wp2_with (go_at_call 44; refine (HN.out _ (by first | exact Gr.refl _ | exact Gr.alloc _ _ | exact (Gr.alloc _ _).trans (Gr.alloc _ _))).mono ?_; rintro e w1 ⟨rfl, rfl⟩)
  go_ret
  exact ⟨rfl, by first | exact Gr.refl _ | exact Gr.alloc _ _ | exact (Gr.alloc _ _).trans (Gr.alloc _ _)⟩
theorem HVacuum_nil (h : NilH w hp) : Calls Try.prog 28 #[.pointer hp, .agg #[.int .i64 a, .slice x n c]] w fun e w' => e = .returned (.int .i64 0) ∧ Gr w w' := by
  have HN : Hid (∀ W, Gr w W → Calls Try.prog 27 #[.pointer hp] W fun e w' => e = .returned (.int .i64 0) ∧ Gr W w') := fun W g => HLen_nil W hp (h.gr g)
  clear h
  go_enter Try.func28, Try.ntmps28
  go_wp2_with (go_at_call 27; refine (HN.out _ (by exact (Gr.alloc _ _).trans (Gr.alloc _ _))).mono ?_; rintro e w1 ⟨rfl, hg⟩)
  go_ret
  exact ⟨rfl, ((Gr.alloc _ _).trans (Gr.alloc _ _)).trans hg⟩
end
end Go.Proofs.Ytannjecmfbhkeaa
