/- A new queue; the document's example. -/
import Derived.Test.YtkpfoaeldkkciaaGreatQNil
namespace Go.Proofs.YtkpfoaeldkkciaaGreat
open Go Go.RowKit Go.Lib Go.Maps
/-- What a new queue is: its parts lie in blocks of their own. -/
def QMade (w : World) (pm : Nat) (e : Ending) (w' : World) : Prop :=
  ∃ pq ps pt pc pr bm, e = .returned (.pointer (some ⟨pq, 0, none⟩)) ∧ Gr w w' ∧
    w'.heap[pq]? = some (.cells #[.pointer (some ⟨pm, 0, none⟩), .pointer (some ⟨ps, 0, none⟩), .pointer (some ⟨pt, 0, none⟩), .pointer (some ⟨pc, 0, none⟩), .pointer (some ⟨pr, 0, none⟩), .int .i64 1] 118) ∧
    w'.heap[ps]? = some (.cells #[.slice none 0 0, .slice none 0 0, .slice none 0 0, .int .i64 0] 146) ∧
    w'.heap[pt]? = some (.cells #[.slice none 0 0, .int .i64 0] 131) ∧
    w'.heap[pc]? = some (.cells #[.map (some bm)] 127) ∧
    w'.heap[pr]? = some (.cells #[.slice none 0 0] 184) ∧
    w.heap.size ≤ ps ∧ ps < pt ∧ pt < bm ∧ bm < pc ∧ pc < pr ∧ pr < pq
theorem SNew_calls (w : World) : Calls Tryz.prog 80 #[] w fun e w' => e = .returned (.pointer (some ⟨w.heap.size, 0, none⟩)) ∧ w.alloc (.cells #[.slice none 0 0, .slice none 0 0, .slice none 0 0, .int .i64 0] 146) = w' := by
  go_enter Tryz.func80, Tryz.ntmps80
  go_wp2
  go_ret
  exact ⟨rfl, rfl⟩
theorem TkNew_calls (w : World) : Calls Tryz.prog 81 #[] w fun e w' => e = .returned (.pointer (some ⟨w.heap.size, 0, none⟩)) ∧ w.alloc (.cells #[.slice none 0 0, .int .i64 0] 131) = w' := by
  go_enter Tryz.func81, Tryz.ntmps81
  go_wp2
  go_ret
  exact ⟨rfl, rfl⟩
theorem RtNew_calls (w : World) : Calls Tryz.prog 83 #[] w fun e w' => e = .returned (.pointer (some ⟨w.heap.size, 0, none⟩)) ∧ w.alloc (.cells #[.slice none 0 0] 184) = w' := by
  go_enter Tryz.func83, Tryz.ntmps83
  go_wp2
  go_ret
  exact ⟨rfl, rfl⟩
theorem CNew_calls (w : World) : Calls Tryz.prog 82 #[] w fun e w' => e = .returned (.pointer (some ⟨w.heap.size + 1, 0, none⟩)) ∧ (w.alloc (.map #[] 0)).alloc (.cells #[.map (some w.heap.size)] 127) = w' := by
  have hmm := @run_makeMap Tryz.prog
  go_enter Tryz.func82, Tryz.ntmps82
  go_wp2
  go_ret
  exact ⟨rfl, rfl⟩
theorem hsz {w : World} {o : Obj} : (w.alloc o).heap.size = w.heap.size + 1 := by simp
theorem nth {w : World} {o : Obj} {k : Nat} (h : w.heap.size = k) : (w.alloc o).heap[k]? = some o := by rw [← h]; exact heap_alloc_new w o
set_option maxHeartbeats 800000 in
theorem QNew_calls (w : World) (pm : Nat) : Calls Tryz.prog 20 #[.pointer (some ⟨pm, 0, none⟩)] w fun e w' => QMade w pm e w' := by
  go_enter Tryz.func20, Tryz.ntmps20
  go_wp2_with fail
  refine (SNew_calls _).mono ?_
  rintro e w1 ⟨rfl, rfl⟩
  go_wp2_with fail
  refine (TkNew_calls _).mono ?_
  rintro e w1 ⟨rfl, rfl⟩
  go_wp2_with fail
  refine (CNew_calls _).mono ?_
  rintro e w1 ⟨rfl, rfl⟩
  go_wp2_with fail
  refine (RtNew_calls _).mono ?_
  rintro e w1 ⟨rfl, rfl⟩
  go_wp2
  go_ret
  refine ⟨w.heap.size + 1 + 1 + 1 + 1 + 1, w.heap.size, w.heap.size + 1, w.heap.size + 1 + 1 + 1, w.heap.size + 1 + 1 + 1 + 1, w.heap.size + 1 + 1, by simp, ((((((Gr.alloc _ _).trans (Gr.alloc _ _)).trans (Gr.alloc _ _)).trans (Gr.alloc _ _)).trans (Gr.alloc _ _)).trans (Gr.alloc _ _)), ?_, ?_, ?_, ?_, ?_, by omega, by omega, by omega, by omega, by omega, by omega⟩
  · exact nth (w := ((((w.alloc _).alloc _).alloc _).alloc _).alloc _) (by simp)
  · exact (heap_alloc_old _ _ (by simp only [hsz]; omega)).trans ((heap_alloc_old _ _ (by simp only [hsz]; omega)).trans ((heap_alloc_old _ _ (by simp only [hsz]; omega)).trans ((heap_alloc_old _ _ (by simp only [hsz]; omega)).trans ((heap_alloc_old _ _ (by simp only [hsz]; omega)).trans (nth rfl)))))
  · exact (heap_alloc_old _ _ (by simp only [hsz]; omega)).trans ((heap_alloc_old _ _ (by simp only [hsz]; omega)).trans ((heap_alloc_old _ _ (by simp only [hsz]; omega)).trans ((heap_alloc_old _ _ (by simp only [hsz]; omega)).trans (nth (w := w.alloc _) (by simp)))))
  · exact (heap_alloc_old _ _ (by simp only [hsz]; omega)).trans ((heap_alloc_old _ _ (by simp only [hsz]; omega)).trans (nth (w := ((w.alloc _).alloc _).alloc _) (by simp)))
  · exact (heap_alloc_old _ _ (by simp only [hsz]; omega)).trans (nth (w := (((w.alloc _).alloc _).alloc _).alloc _) (by simp))
theorem TkLast_calls (w : World) (pt : Nat) (n : Int) (h : w.cell? ⟨pt, 1, none⟩ = some (.int .i64 n)) : Calls Tryz.prog 17 #[.pointer (some ⟨pt, 0, none⟩)] w fun e w' => e = .returned (.int .i64 n) ∧ w = w' := by
  go_enter Tryz.func17, Tryz.ntmps17
  go_wp2
  go_ret
  exact ⟨rfl, rfl⟩
theorem QTicks_calls (w : World) (pq pt : Nat) (h : w.cell? ⟨pq, 2, none⟩ = some (.pointer (some ⟨pt, 0, none⟩))) : Calls Tryz.prog 15 #[.pointer (some ⟨pq, 0, none⟩)] w fun e w' => e = .returned (.pointer (some ⟨pt, 0, none⟩)) ∧ w = w' := by
  go_enter Tryz.func15, Tryz.ntmps15
  go_wp2
  go_ret
  exact ⟨rfl, rfl⟩
theorem QNextID_calls (w : World) (pq : Nat) (n : Int) (h : w.cell? ⟨pq, 5, none⟩ = some (.int .i64 n)) : Calls Tryz.prog 42 #[.pointer (some ⟨pq, 0, none⟩)] w fun e w' => e = .returned (.int .i64 n) ∧ w = w' := by
  go_enter Tryz.func42, Tryz.ntmps42
  go_wp2
  go_ret
  exact ⟨rfl, rfl⟩
theorem QRegister_wait (w : World) (pq pt : Nat) (s : ByteArray) (h : w.cell? ⟨pq, 2, none⟩ = some (.pointer (some ⟨pt, 0, none⟩))) (h1 : w.cell? ⟨pt, 1, none⟩ = some (.int .i64 0)) :
    Calls Tryz.prog 22 #[.pointer (some ⟨pq, 0, none⟩), .string s] w fun e w' => e = .returned (.int .i64 9) ∧ w = w' := by
  have HL := Lib.hid (TkLast_calls w pt 0 h1)
  clear h1
  go_enter Tryz.func22, Tryz.ntmps22
  go_wp2_with (go_at_call 17; refine HL.out.mono ?_; rintro e w' ⟨rfl, rfl⟩)
  go_ret
  exact ⟨rfl, rfl⟩
set_option maxHeartbeats 800000 in
theorem early_calls (w : World) : Calls Tryz.prog 9 #[] w fun e w' => e = .returned (.bool true) ∧ Gr w w' := by
  go_enter Tryz.func9, Tryz.ntmps9
  go_wp2_with fail
  refine (TxNew_calls _).mono ?_
  rintro e w1 ⟨pm, bo, bd, rfl, _, g1, _⟩
  go_wp2_with fail
  refine (QNew_calls _ pm).mono ?_
  rintro e w2 ⟨pq, ps, pt, pc, pr, bm, rfl, g2, hq, hs, ht, hc, hr, _⟩
  have q2 : w2.cell? ⟨pq, 2, none⟩ = some (.pointer (some ⟨pt, 0, none⟩)) := by unfold World.cell?; rw [hq]; rfl
  have q5 : w2.cell? ⟨pq, 5, none⟩ = some (.int .i64 1) := by unfold World.cell?; rw [hq]; rfl
  have t1 : w2.cell? ⟨pt, 1, none⟩ = some (.int .i64 0) := by unfold World.cell?; rw [ht]; rfl
  have HG := Lib.hid (g1.trans g2)
  have Q2 := Lib.hid q2
  have Q5 := Lib.hid q5
  have T1 := Lib.hid t1
  clear hq hs ht hc hr g1 g2 q2 q5 t1
  go_wp2_with fail
  refine (QRegister_wait w2 pq pt _ Q2.out T1.out).mono ?_
  rintro e w' ⟨rfl, rfl⟩
  go_wp2_with fail
  refine (QNextID_calls w2 pq 1 Q5.out).mono ?_
  rintro e w' ⟨rfl, rfl⟩
  go_wp2_with fail
  refine (QTicks_calls w2 pq pt Q2.out).mono ?_
  rintro e w' ⟨rfl, rfl⟩
  go_wp2_with fail
  refine (TkLast_calls w2 pt 0 T1.out).mono ?_
  rintro e w' ⟨rfl, rfl⟩
  go_wp2
  go_ret
  exact ⟨rfl, HG.out⟩
end Go.Proofs.YtkpfoaeldkkciaaGreat
