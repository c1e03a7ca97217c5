/- Transactions: what each function of package txn does to a manager whose states are t. -/
import Derived.Test.YtkpfoaeldkkciaaGreatBase
import Derived.Test.YtkpfoaeldkkciaaGreatChecked
namespace Go.Proofs.YtkpfoaeldkkciaaGreat
open Go Go.RowKit Go.Lib Go.Maps

abbrev kI := int_keyed Tryz.underlying2
/-- A set of numbers, as a map to true. -/
abbrev SetOk (w : World) (b : Nat) (S : List Int) : Prop := w.ownsMap Tryz.prog 2 (plainElem (H := Unit) Tryz.prog 4) b S.length (mapD S)

/-- The manager at block pm: its states are t. -/
structure MgrOk (w : World) (pm bo bd : Nat) (t : TS) : Prop where
  c0 : w.cell? ⟨pm, 0, none⟩ = some (.int .i64 ((t.length : Int) + 1))
  c1 : w.cell? ⟨pm, 1, none⟩ = some (.map (some bo))
  c2 : w.cell? ⟨pm, 2, none⟩ = some (.map (some bd))
  f0 : w.frozen? ⟨pm, 0, none⟩ = false
  hO : SetOk w bo (openL t)
  hD : SetOk w bd (doneL t)
  all : ∀ {x : Int}, 1 ≤ x → x < (t.length : Int) + 1 → stOf t x = 1 ∨ stOf t x = 2 ∨ stOf t x = 3
  six : (openL t).length ≤ 6
  most : t.length < 1048576
  apart : pm ≠ bo ∧ pm ≠ bd ∧ bo ≠ bd

theorem MgrOk.heap {w w' : World} {pm bo bd : Nat} {t : TS} (h : MgrOk w pm bo bd t) (h1 : w'.heap[pm]? = w.heap[pm]?) (h2 : w'.heap[bo]? = w.heap[bo]?) (h3 : w'.heap[bd]? = w.heap[bd]?) : MgrOk w' pm bo bd t :=
  ⟨(World.cell?_of_block h1).trans h.c0, (World.cell?_of_block h1).trans h.c1, (World.cell?_of_block h1).trans h.c2, (World.frozen?_of_block h1).trans h.f0,
   ownsMap_heap h.hO h2, ownsMap_heap h.hD h3, h.all, h.six, h.most, h.apart⟩
theorem MgrOk.lt {w : World} {pm bo bd : Nat} {t : TS} (h : MgrOk w pm bo bd t) : pm < w.heap.size ∧ bo < w.heap.size ∧ bd < w.heap.size :=
  ⟨World.block_lt_of_cell? w ⟨pm, 0, none⟩ h.c0, h.hO.lt, h.hD.lt⟩
theorem MgrOk.gr {w w' : World} {pm bo bd : Nat} {t : TS} (h : MgrOk w pm bo bd t) (hg : Gr w w') : MgrOk w' pm bo bd t :=
  h.heap (hg.heap h.lt.1) (hg.heap h.lt.2.1) (hg.heap h.lt.2.2)

theorem plainElem_bool_inv {P : Program} {e : TypeId} (he : P.underlying e = some .bool) {v : Value} {c : Bool} {ps : List MemPlace} (h : plainElem (H := Unit) P e v = some (.lit (.bool c), ps)) : v = .bool c := by
  unfold plainElem at h
  rw [he] at h
  cases v <;> simp at h
  rw [h.1]
theorem look_set {w : World} {b : Nat} {S : List Int} (h : SetOk w b S) (x : Int) (hx : (Lit.int .i64 x).wf = true) : (Instr.lookup 134 (.map (some b)) (.int .i64 x) false).run Tryz.prog w = .ok (.bool (decide (x ∈ S))) w := by
  have hz : (zeroValue 4).run Tryz.prog w = .ok (.bool false) w := by kernel_rfl
  obtain ⟨v, ps, hrun, hv⟩ := h.lookup kI Tryz.underlying134 hz (plainElem_bool Tryz.underlying4 false) (keyOf_int_mk Tryz.underlying2 hx)
  rw [atKey_mapD] at hv
  rw [hrun, plainElem_bool_inv Tryz.underlying4 hv]

set_option maxHeartbeats 800000 in
/-- State: it only reads. -/
theorem State_calls (w : World) (pm bo bd : Nat) (t : TS) (x : Int) (hM : MgrOk w pm bo bd t) (hx : (Lit.int .i64 x).wf = true) :
    Calls Tryz.prog 25 #[.pointer (some ⟨pm, 0, none⟩), .int .i64 x] w fun e w' => e = .returned (.int .u8 (stOf t x)) ∧ w = w' := by
  have c0 := hM.c0
  have c1 := hM.c1
  have c2 := hM.c2
  have lo := look_set hM.hO x hx
  have ld := look_set hM.hD x hx
  by_cases h1 : x < 1
  · have e : stOf t x = 0 := stOf_out (by omega)
    have E := Lib.hid e
    clear e
    go_enter Tryz.func25, Tryz.ntmps25
    go_wp2
    go_ret
    exact ⟨by rw [E.out]; rfl, rfl⟩
  by_cases h2 : (t.length : Int) + 1 ≤ x
  · have e : stOf t x = 0 := stOf_out (by omega)
    have E := Lib.hid e
    clear e
    go_enter Tryz.func25, Tryz.ntmps25
    go_wp2
    go_ret
    exact ⟨by rw [E.out]; rfl, rfl⟩
  by_cases h3 : stOf t x = 1
  · have E := Lib.hid h3
    rw [decide_eq_true (mem_openL.2 h3)] at lo
    clear h3
    go_enter Tryz.func25, Tryz.ntmps25
    go_wp2
    go_ret
    exact ⟨by rw [E.out]; rfl, rfl⟩
  rw [decide_eq_false (fun h => h3 (mem_openL.1 h))] at lo
  by_cases h4 : stOf t x = 2
  · have E := Lib.hid h4
    rw [decide_eq_true (mem_doneL.2 h4)] at ld
    clear h3 h4
    go_enter Tryz.func25, Tryz.ntmps25
    go_wp2
    go_ret
    exact ⟨by rw [E.out]; rfl, rfl⟩
  rw [decide_eq_false (fun h => h4 (mem_doneL.1 h))] at ld
  have h5 := hM.all (x := x) (by omega) (by omega)
  have E : Hid (stOf t x = 3) := by show stOf t x = 3; omega
  clear h3 h4 h5
  go_enter Tryz.func25, Tryz.ntmps25
  go_wp2
  go_ret
  exact ⟨by rw [E.out]; rfl, rfl⟩

/-- What a new manager is. -/
def NewMgr (w : World) (e : Ending) (w' : World) : Prop := ∃ pm bo bd, e = .returned (.pointer (some ⟨pm, 0, none⟩)) ∧ MgrOk w' pm bo bd [] ∧ Gr w w' ∧ w.heap.size ≤ pm ∧ w.heap.size ≤ bo ∧ w.heap.size ≤ bd
theorem TxNew_calls (w : World) : Calls Tryz.prog 19 #[] w fun e w' => NewMgr w e w' := by
  have hmm := @run_makeMap Tryz.prog
  go_enter Tryz.func19, Tryz.ntmps19
  go_wp2
  go_ret
  refine ⟨w.heap.size + 2, w.heap.size, w.heap.size + 1, by simp, ⟨by simp [go_sem], by simp [go_sem], by simp [go_sem], by simp [go_sem], ?_, ?_, ?_, by decide, by decide, by omega⟩, ?_, by omega, by omega, by omega⟩
  · exact ((World.ownsMap_made w Tryz.prog 2 (plainElem (H := Unit) Tryz.prog 4)).alloc _).alloc _
  · have h := World.ownsMap_made (w.alloc (.map #[] 0)) Tryz.prog 2 (plainElem (H := Unit) Tryz.prog 4)
    rw [show (w.alloc (.map #[] 0)).heap.size = w.heap.size + 1 from by simp] at h
    exact h.alloc _
  · intro x h1 h2; simp at h2; omega
  · exact (((Gr.refl w).trans (Gr.alloc _ _)).trans (Gr.alloc _ _)).trans (Gr.alloc _ _)

def mgrB (pm bo bd : Nat) (b : Nat) : Prop := b = pm ∨ b = bo ∨ b = bd
def endE (t : TS) (x : Int) : Int := if stOf t x = 1 then 0 else 7
def endT (t : TS) (x : Int) (s : Nat) : TS := if stOf t x = 1 then setSt t x s else t

set_option maxHeartbeats 800000 in
theorem mend_calls (w : World) (pm bo bd : Nat) (t : TS) (x : Int) (hM : MgrOk w pm bo bd t) (hx : (Lit.int .i64 x).wf = true) :
    Calls Tryz.prog 87 #[.pointer (some ⟨pm, 0, none⟩), .int .i64 x] w fun e w' => e = .returned (.int .i64 (endE t x)) ∧ MgrOk w' pm bo bd (endT t x 3) ∧ Tc (mgrB pm bo bd) w w' := by
  have c1 := hM.c1
  have lo := look_set hM.hO x hx
  by_cases h3 : stOf t x = 1
  · have hb := stOf_pos (t := t) (x := x) (by rw [h3]; decide)
    have hE : Hid (endE t x = 0) := by show endE t x = 0; simp [endE, h3]
    have hT : Hid (endT t x 3 = setSt t x 3) := by show endT t x 3 = setSt t x 3; simp [endT, h3]
    have hb1 := Lib.hid hb.1
    have hb2 := Lib.hid hb.2
    clear hb
    rw [decide_eq_true (mem_openL.2 h3)] at lo
    have h3' := Lib.hid h3
    clear h3
    have hM' := Lib.hid hM
    have hO := hM.hO
    clear hM
    go_enter Tryz.func87, Tryz.ntmps87
    go_wp2_with (at_delete; refine wpList_delete_own _ rfl _ _ 134 2 rfl 4 kI Tryz.underlying134 (plainElem (H := Unit) Tryz.prog 4) bo _ _ rfl hO _ _ rfl (keyOf_int_mk Tryz.underlying2 hx) ?_; intro w1 hown1 hturn1)
    go_ret
    have hM := hM'.out
    have h3 := h3'.out
    have hg := hturn1.grown
    rw [hE.out, hT.out]
    refine ⟨rfl, ?_, Tc.of_grown hg (fun b hb => by cases hb; exact Or.inr (Or.inl rfl))⟩
    have e1 : w1.heap[pm]? = w.heap[pm]? := hg.block pm hM.lt.1 (by simp; exact hM.apart.1)
    have e3 : w1.heap[bd]? = w.heap[bd]? := hg.block bd hM.lt.2.2 (by simp; exact fun h => hM.apart.2.2 h.symm)
    rw [del_mapD] at hown1
    refine ⟨by rw [length_setSt]; exact (World.cell?_of_block e1).trans hM.c0, (World.cell?_of_block e1).trans hM.c1, (World.cell?_of_block e1).trans hM.c2, (World.frozen?_of_block e1).trans hM.f0, ?_, ?_, ?_, ?_, by rw [length_setSt]; exact hM.most, hM.apart⟩
    · rw [openL_set h3 (by decide)]
      exact ownsMap_at hown1 (by rw [size_mapD]; exact Nat.le_refl _)
    · rw [doneL_set3 h3]; exact ownsMap_heap hM.hD e3
    · intro y h1 h2
      rw [length_setSt] at h2
      rw [stOf_setSt hb1.out hb2.out]
      split
      · omega
      · exact hM.all h1 h2
    · rw [openL_set h3 (by decide)]
      exact Nat.le_trans (List.length_filter_le _ _) hM.six
  · have hE : Hid (endE t x = 7) := by show endE t x = 7; simp [endE, h3]
    have hT : Hid (endT t x 3 = t) := by show endT t x 3 = t; simp [endT, h3]
    rw [decide_eq_false (fun h => h3 (mem_openL.1 h))] at lo
    clear h3
    go_enter Tryz.func87, Tryz.ntmps87
    go_wp2
    go_ret
    rw [hE.out, hT.out]
    exact ⟨rfl, hM, Tc.refl _ _⟩

set_option maxHeartbeats 800000 in
theorem Abort_calls (w : World) (pm bo bd : Nat) (t : TS) (x : Int) (hM : MgrOk w pm bo bd t) (hx : (Lit.int .i64 x).wf = true) :
    Calls Tryz.prog 28 #[.pointer (some ⟨pm, 0, none⟩), .int .i64 x] w fun e w' => e = .returned (.int .i64 (endE t x)) ∧ MgrOk w' pm bo bd (endT t x 3) ∧ Tc (mgrB pm bo bd) w w' := by
  go_enter Tryz.func28, Tryz.ntmps28
  go_wp2_with (go_at_call 87; refine (mend_calls w pm bo bd t x hM hx).mono ?_; rintro e w' ⟨rfl, hq⟩)
  go_ret
  exact ⟨rfl, hq⟩

theorem length_insS (x : Int) : ∀ l : List Int, (insS x l).length = l.length + 1
  | [] => rfl
  | y :: r => by unfold insS; split <;> simp [length_insS x r]

set_option maxHeartbeats 800000 in
theorem Commit_calls (w : World) (pm bo bd : Nat) (t : TS) (x : Int) (hM : MgrOk w pm bo bd t) (hx : (Lit.int .i64 x).wf = true) :
    Calls Tryz.prog 27 #[.pointer (some ⟨pm, 0, none⟩), .int .i64 x] w fun e w' => e = .returned (.int .i64 (endE t x)) ∧ MgrOk w' pm bo bd (endT t x 2) ∧ Tc (mgrB pm bo bd) w w' := by
  have hcall := mend_calls w pm bo bd t x hM hx
  by_cases h3 : stOf t x = 1
  · have hE : endE t x = 0 := by simp [endE, h3]
    have hT3 : endT t x 3 = setSt t x 3 := by simp [endT, h3]
    have hT : endT t x 2 = setSt t x 2 := by simp [endT, h3]
    rw [hE, hT3] at hcall
    rw [hE, hT]
    have hb := stOf_pos (t := t) (x := x) (by rw [h3]; decide)
    have H := Lib.hid (And.intro h3 hb)
    have hM0 := Lib.hid hM
    clear hE hT3 hT h3 hb hM
    go_enter Tryz.func27, Tryz.ntmps27
    go_wp2_with fail
    refine hcall.mono ?_
    rintro e w1 ⟨rfl, hM1, hT1⟩
    have d2 := hM1.c2
    have hDn := hM1.hD
    have hDl : (doneL (setSt t x 3)).length < maxLen := by
      have h1 := sel_length_le (s := 2) (t := setSt t x 3) (k := 1)
      have h2 := hM1.most
      unfold doneL maxLen; omega
    have hM1' := Lib.hid hM1
    clear hM1 hcall
    go_wp2_with (at_mapUpdate; refine wpList_mapUpdate_own _ rfl _ _ _ 134 rfl 2 4 kI Tryz.underlying134 (plainElem (H := Unit) Tryz.prog 4) bd _ _ rfl hDn hDl _ _ _ rfl rfl (keyOf_int_mk Tryz.underlying2 hx) (.lit (.bool true)) [] (plainElem_bool Tryz.underlying4 true) ?_; intro w2 hown2 hg2)
    go_ret
    obtain ⟨h3, hb⟩ := H.out
    have hM := hM0.out
    have hM1 := hM1'.out
    have hnot : x ∉ doneL (setSt t x 3) := by
      rw [doneL_set3 h3, mem_doneL, h3]; decide
    rw [put_mapD hnot, doneL_set3 h3] at hown2
    refine ⟨rfl, ?_, hT1.trans (Tc.of_grown hg2 (fun b hb => by cases hb; exact Or.inr (Or.inr rfl)))⟩
    have e1 : w2.heap[pm]? = w1.heap[pm]? := hg2.block pm hM1.lt.1 (by simp; exact hM.apart.2.1)
    have e2 : w2.heap[bo]? = w1.heap[bo]? := hg2.block bo hM1.lt.2.1 (by simp; exact hM.apart.2.2)
    refine ⟨by rw [length_setSt]; have := hM1.c0; rw [length_setSt] at this; exact (World.cell?_of_block e1).trans this, (World.cell?_of_block e1).trans hM1.c1, (World.cell?_of_block e1).trans hM1.c2, (World.frozen?_of_block e1).trans hM1.f0, ?_, ?_, ?_, ?_, by rw [length_setSt]; exact hM.most, hM.apart⟩
    · rw [openL_set h3 (by decide)]
      have := ownsMap_heap hM1.hO e2
      rw [openL_set h3 (by decide)] at this
      exact this
    · unfold SetOk
      rw [doneL_set2 h3, length_insS]
      exact hown2
    · intro y h1 h2
      rw [length_setSt] at h2
      rw [stOf_setSt hb.1 hb.2]
      split
      · omega
      · exact hM.all h1 h2
    · rw [openL_set h3 (by decide)]
      exact Nat.le_trans (List.length_filter_le _ _) hM.six
  · have hE : endE t x = 7 := by simp [endE, h3]
    have hT3 : endT t x 3 = t := by simp [endT, h3]
    have hT : endT t x 2 = t := by simp [endT, h3]
    rw [hE, hT3] at hcall
    rw [hE, hT]
    clear hE hT3 hT h3
    go_enter Tryz.func27, Tryz.ntmps27
    go_wp2_with (go_at_call 87; refine hcall.mono ?_; rintro e w' ⟨rfl, hq⟩)
    go_ret
    exact ⟨rfl, hq⟩

def full (t : TS) : Prop := (openL t).length = 6 ∨ t.length + 1 = 1048576
instance (t : TS) : Decidable (full t) := by unfold full; exact inferInstance
/-- What Begin answers, and what the states are then. -/
def begN (t : TS) : Int := if full t then 0 else t.length + 1
def begE (t : TS) : Int := if full t then 8 else 0
def begT (t : TS) : TS := if full t then t else t ++ [1]
set_option maxHeartbeats 1600000 in
theorem Begin_calls (w : World) (pm bo bd : Nat) (t : TS) (hM : MgrOk w pm bo bd t) :
    Calls Tryz.prog 24 #[.pointer (some ⟨pm, 0, none⟩)] w fun e w' => e = .returned (.tuple #[.int .i64 (begN t), .int .i64 (begE t)]) ∧ MgrOk w' pm bo bd (begT t) ∧ Tc (mgrB pm bo bd) w w' := by
  have c0 := hM.c0
  have c1 := hM.c1
  have hO := hM.hO
  by_cases hf : full t
  · have hN : begN t = 0 := by simp [begN, hf]
    have hE : begE t = 8 := by simp [begE, hf]
    have hT : begT t = t := by simp [begT, hf]
    rw [hN, hE, hT]
    clear hN hE hT
    have hM' := Lib.hid hM
    by_cases h6 : (openL t).length = 6
    · have hsz : (6 : Int) ≤ (Maps.size (mapD (openL t)) : Int) := by rw [size_mapD]; omega
      clear hf h6 hM
      go_enter Tryz.func24, Tryz.ntmps24
      go_wp2_with (at_len; refine wpList_len_own _ rfl _ 134 rfl 2 4 Tryz.underlying134 (plainElem (H := Unit) Tryz.prog 4) bo _ _ rfl hO ?_)
      go_ret2
      exact ⟨rfl, hM'.out, Tc.refl _ _⟩
    · have hsz : ¬ (6 : Int) ≤ (Maps.size (mapD (openL t)) : Int) := by rw [size_mapD]; have := hM.six; omega
      have hn : (1048576 : Int) ≤ (t.length : Int) + 1 := by
        rcases hf with h | h
        · exact absurd h h6
        · omega
      clear hf h6 hM
      go_enter Tryz.func24, Tryz.ntmps24
      go_wp2_with (at_len; refine wpList_len_own _ rfl _ 134 rfl 2 4 Tryz.underlying134 (plainElem (H := Unit) Tryz.prog 4) bo _ _ rfl hO ?_)
      go_ret2
      exact ⟨rfl, hM'.out, Tc.refl _ _⟩
  · have hN : begN t = t.length + 1 := by simp [begN, hf]
    have hE : begE t = 0 := by simp [begE, hf]
    have hT : begT t = t ++ [1] := by simp [begT, hf]
    rw [hN, hE, hT]
    clear hN hE hT
    have h6 : (openL t).length < 6 := by have := hM.six; unfold full at hf; omega
    have hlen : t.length + 1 < 1048576 := by have := hM.most; unfold full at hf; omega
    have hsz : ¬ (6 : Int) ≤ (Maps.size (mapD (openL t)) : Int) := by rw [size_mapD]; omega
    have hn : ¬ (1048576 : Int) ≤ (t.length : Int) + 1 := by omega
    have hn2 : (t.length : Int) < 1048575 := by omega
    have f0 := hM.f0
    have hM' := Lib.hid hM
    have H6 := Lib.hid (And.intro h6 hlen)
    have hpm := hM.apart.1
    have c1' : (w.setCell ⟨pm, 0, none⟩ (.int .i64 ((t.length : Int) + 1 + 1))).cell? ⟨pm, 1, none⟩ = some (.map (some bo)) := by
      rw [World.cell?_setCell_other w _ _ _ (by simp)]; exact c1
    have hO1 : SetOk (w.setCell ⟨pm, 0, none⟩ (.int .i64 ((t.length : Int) + 1 + 1))) bo (openL t) := hO.setCell (fun h => hpm h.symm) _
    have hwf : (Lit.int .i64 ((t.length : Int) + 1)).wf = true := by simp [Lit.wf, IntKind.min, IntKind.max, IntKind.signed, IntKind.bits]; omega
    have hbig : (openL t).length < maxLen := by unfold maxLen; omega
    have hnot : Hid (((t.length : Int) + 1) ∉ openL t) := by
      show _ ∉ _
      rw [mem_openL, stOf_out (by omega)]; decide
    clear hf h6 hlen hM hpm
    go_enter Tryz.func24, Tryz.ntmps24
    go_wp2_with (first
      | (at_len; refine wpList_len_own _ rfl _ 134 rfl 2 4 Tryz.underlying134 (plainElem (H := Unit) Tryz.prog 4) bo _ _ rfl hO ?_)
      | (at_mapUpdate; refine wpList_mapUpdate_own _ rfl _ _ _ 134 rfl 2 4 kI Tryz.underlying134 (plainElem (H := Unit) Tryz.prog 4) bo _ _ rfl hO1 hbig _ _ _ rfl rfl (keyOf_int_mk Tryz.underlying2 hwf) (.lit (.bool true)) [] (plainElem_bool Tryz.underlying4 true) ?_; intro w2 hown2 hg2))
    go_ret2
    have hM := hM'.out
    obtain ⟨h6, hlen⟩ := H6.out
    have hsc : (w.setCell ⟨pm, 0, none⟩ (.int .i64 ((t.length : Int) + 1 + 1))).heap.size = w.heap.size := by simp
    have g : Tc (mgrB pm bo bd) w w2 := ((Tc.refl _ w).setCell (p := ⟨pm, 0, none⟩) (Or.inl rfl) _).trans (Tc.of_grown hg2 (fun b hb => by cases hb; exact Or.inr (Or.inl rfl)))
    refine ⟨rfl, ?_, g⟩
    have e1 : w2.heap[pm]? = (w.setCell ⟨pm, 0, none⟩ (.int .i64 ((t.length : Int) + 1 + 1))).heap[pm]? := hg2.block pm (by rw [hsc]; exact hM.lt.1) (by simp; exact hM.apart.1)
    have e3 : w2.heap[bd]? = w.heap[bd]? := (hg2.block bd (by rw [hsc]; exact hM.lt.2.2) (by simp; exact fun h => hM.apart.2.2 h.symm)).trans (Below.heap_setCell _ _ _ _ (fun h => hM.apart.2.1 h.symm))
    rw [put_mapD hnot.out, insS_end _ (fun y hy => by have := sel_bounds hy; omega)] at hown2
    refine ⟨?_, (World.cell?_of_block e1).trans c1', ?_, ?_, ?_, ?_, ?_, ?_, by simp; omega, hM.apart⟩
    · rw [World.cell?_of_block (w := w.setCell ⟨pm, 0, none⟩ (.int .i64 ((t.length : Int) + 1 + 1))) (a := ⟨pm, 0, none⟩) e1, World.cell?_setCell_same' _ _ _ (by rw [hM.c0]; rfl)]
      simp
    · rw [World.cell?_of_block (w := w.setCell ⟨pm, 0, none⟩ (.int .i64 ((t.length : Int) + 1 + 1))) (a := ⟨pm, 2, none⟩) e1, World.cell?_setCell_other w _ _ _ (by simp)]; exact hM.c2
    · rw [World.frozen?_of_block (w := w.setCell ⟨pm, 0, none⟩ (.int .i64 ((t.length : Int) + 1 + 1))) (a := ⟨pm, 0, none⟩) e1, World.frozen?_setCell]; exact hM.f0
    · unfold SetOk; rw [openL_snoc, List.length_append]; exact hown2
    · unfold SetOk; rw [doneL_snoc]; exact ownsMap_heap hM.hD e3
    · intro y h1 h2
      rw [stOf_snoc]
      split
      · exact Or.inl rfl
      · refine hM.all h1 ?_
        simp at h2; omega
    · rw [openL_snoc, List.length_append]; simp; omega
end Go.Proofs.YtkpfoaeldkkciaaGreat
