/- blocks, find, and the closures. -/
import Derived.Test.YtannjecmfbhkeaaHeapRead
namespace Go.Proofs.Ytannjecmfbhkeaa
open Go Go.RowKit Go.Lib Go.Maps
section
variable (w : World) (pm bo bd : Nat) (t : TS) (ph : Nat) (a : Option Addr) (c : Nat) (vs : List Vr) (v : Vw) (va : Option Addr) (vc : Nat)

def deadB (t : TS) (own died : Int) : Bool := decide (0 < died) && (decide (died = own) || decide (stOf t died = 2))
set_option maxHeartbeats 1600000 in
theorem blocks_calls (x : Vr) (hH : Hp w pm bo bd t ph a c vs) (hb : wfI x.born) (hd : wfI x.died) :
    Calls Try.prog 41 #[.pointer (some ⟨ph, 0, none⟩), vwV v va vc, .agg (encV x).toArray] w fun e w' => e = .returned (.bool (blocksB t v.own x)) ∧ Gr w w' := by
  have h0 := hH.h0
  have hph := World.block_lt_of_cell? w ⟨ph, 0, none⟩ hH.h0
  obtain ⟨key, text, born, died⟩ := x
  simp only at hb hd
  unfold encV
  have hS : ∀ W, Gr w W → Calls Try.prog 52 #[.pointer (some ⟨pm, 0, none⟩), .int .i64 died] W fun e w' => e = .returned (.int .u8 (stOf t died)) ∧ W = w' :=
    fun W hg => State_calls W pm bo bd t died (hH.M.gr hg) hd
  have hO : ∀ W, Gr w W → Calls Try.prog 50 #[.pointer (some ⟨ph, 0, none⟩), vwV v va vc, .int .i64 born] W fun e w' => e = .returned (.bool (othersB t v.own born)) ∧ Gr W w' :=
    fun W hg => others_calls W pm bo bd t ph a c vs v va vc born (hH.gr hg) hb
  have E : Hid (blocksB t v.own ⟨key, text, born, died⟩ = (othersB t v.own born && !deadB t v.own died)) := rfl
  have HS := Lib.hid hS
  clear hS hH
  have mixed : Try.prog.follows .mixedOrders = true := by kernel_rfl
  have mk : ∀ W, (w.alloc (.cells #[.int .i64 v.max, .slice va v.opn.length vc, .int .i64 v.own] 35)).alloc (.cells #[.int .i64 key, .string text, .int .i64 born, .int .i64 died] 90) = W → Gr w W ∧ ∀ n os,
      (Sort.grow (W.drewN n) os).cell? ⟨ph, 0, none⟩ = some (.pointer (some ⟨pm, 0, none⟩)) ∧
      (Sort.grow (W.drewN n) os).cell? ⟨w.heap.size, 0, none⟩ = some (.int .i64 v.max) ∧
      (Sort.grow (W.drewN n) os).cell? ⟨w.heap.size, 1, none⟩ = some (.slice va v.opn.length vc) ∧
      (Sort.grow (W.drewN n) os).cell? ⟨w.heap.size, 2, none⟩ = some (.int .i64 v.own) ∧
      (Sort.grow (W.drewN n) os).cell? ⟨w.heap.size + 1, 2, none⟩ = some (.int .i64 born) ∧
      (Sort.grow (W.drewN n) os).cell? ⟨w.heap.size + 1, 3, none⟩ = some (.int .i64 died) := by
    rintro W rfl
    have hG := (Gr.alloc w (.cells #[.int .i64 v.max, .slice va v.opn.length vc, .int .i64 v.own] 35)).trans (Gr.alloc _ (.cells #[.int .i64 key, .string text, .int .i64 born, .int .i64 died] 90))
    refine ⟨hG, fun n os => ⟨(hG.trans (Gr.grow _ n os)).cell h0, ?_, ?_, ?_, ?_, ?_⟩⟩ <;> exact (Gr.grow _ n os).cell (by simp [go_sem])
  have MK := Lib.hid mk
  clear mk h0
  cases ho : othersB t v.own born
  all_goals rw [ho] at hO
  all_goals have HO := Lib.hid hO
  all_goals have HB := Lib.hid ho
  all_goals clear hO ho
  all_goals
    by_cases h1 : 0 < died
    · by_cases h2 : died = v.own
      · have ED : Hid (deadB t v.own v.own = true) := by show _ = _; rw [h2] at h1; simp [deadB, h1]
        subst h2
        go_enter Try.func41, Try.ntmps41
        go_wp2_with fail
        generalize hW : (w.alloc (.cells #[.int .i64 v.max, .slice va v.opn.length vc, .int .i64 v.own] 35)).alloc (.cells #[.int .i64 key, .string text, .int .i64 born, .int .i64 v.own] 90) = W
        have G := Lib.hid (MK.out W hW).1
        have g0 := fun n os => ((MK.out W hW).2 n os).1
        have g1 := fun n os => ((MK.out W hW).2 n os).2.1
        have g2 := fun n os => ((MK.out W hW).2 n os).2.2.1
        have g3 := fun n os => ((MK.out W hW).2 n os).2.2.2.1
        have g4 := fun n os => ((MK.out W hW).2 n os).2.2.2.2.1
        have g5 := fun n os => ((MK.out W hW).2 n os).2.2.2.2.2
        clear hW
        (refine wp_region_quiet_grown mixed (by kernel_rfl) ?_; (repeat (first | go_big_quiet_step (fail) | quiet_step (fail))); refine wpQuiet_nil ?_; intro _ hw'; obtain ⟨⟨nq, osq⟩, hw''⟩ := hw'; subst hw'')
        go_wp2_with (go_at_call 50; refine (HO.out _ (by exact G.out.trans (Gr.grow _ _ _))).mono ?_; rintro e w1 ⟨rfl, hg⟩)
        go_ret
        rw [E.out, ED.out, HB.out]
        exact ⟨rfl, (G.out.trans (Gr.grow _ _ _)).trans hg⟩
      · have h2' : (died == v.own) = false := by simpa using h2
        by_cases h3 : stOf t died = 2
        · have ED : Hid (deadB t v.own died = true) := by show _ = _; simp [deadB, h1, h3]
          have HS2 : Hid (∀ W, Gr w W → Calls Try.prog 52 #[.pointer (some ⟨pm, 0, none⟩), .int .i64 died] W fun e w' => e = .returned (.int .u8 2) ∧ W = w') := by
            have := HS.out; rw [h3] at this; exact this
          clear h2 h3 HS
          go_enter Try.func41, Try.ntmps41
          go_wp2_with fail
          generalize hW : (w.alloc (.cells #[.int .i64 v.max, .slice va v.opn.length vc, .int .i64 v.own] 35)).alloc (.cells #[.int .i64 key, .string text, .int .i64 born, .int .i64 died] 90) = W
          have G := Lib.hid (MK.out W hW).1
          have g0 := fun n os => ((MK.out W hW).2 n os).1
          have g1 := fun n os => ((MK.out W hW).2 n os).2.1
          have g2 := fun n os => ((MK.out W hW).2 n os).2.2.1
          have g3 := fun n os => ((MK.out W hW).2 n os).2.2.2.1
          have g4 := fun n os => ((MK.out W hW).2 n os).2.2.2.2.1
          have g5 := fun n os => ((MK.out W hW).2 n os).2.2.2.2.2
          clear hW
          (refine wp_region_quiet_grown mixed (by kernel_rfl) ?_; (repeat (first | go_big_quiet_step (first | (go_at_call 52; refine Calls.grown_of_same (HS2.out _ (by exact G.out.trans (Gr.grow _ _ _))))) | quiet_step (first | (go_at_call 52; refine Calls.grown_of_same (HS2.out _ (by exact G.out.trans (Gr.grow _ _ _))))))); refine wpQuiet_nil ?_; intro _ hw'; obtain ⟨⟨nq, osq⟩, hw''⟩ := hw'; subst hw'')
          go_wp2_with (go_at_call 50; refine (HO.out _ (by exact G.out.trans (Gr.grow _ _ _))).mono ?_; rintro e w1 ⟨rfl, hg⟩)
          go_ret
          rw [E.out, ED.out, HB.out]
          exact ⟨rfl, (G.out.trans (Gr.grow _ _ _)).trans hg⟩
        · have ED : Hid (deadB t v.own died = false) := by show _ = _; simp [deadB, h2, h3]
          have h3' : ((stOf t died : Int) == 2) = false := by simp; omega
          clear h2 h3
          go_enter Try.func41, Try.ntmps41
          go_wp2_with fail
          generalize hW : (w.alloc (.cells #[.int .i64 v.max, .slice va v.opn.length vc, .int .i64 v.own] 35)).alloc (.cells #[.int .i64 key, .string text, .int .i64 born, .int .i64 died] 90) = W
          have G := Lib.hid (MK.out W hW).1
          have g0 := fun n os => ((MK.out W hW).2 n os).1
          have g1 := fun n os => ((MK.out W hW).2 n os).2.1
          have g2 := fun n os => ((MK.out W hW).2 n os).2.2.1
          have g3 := fun n os => ((MK.out W hW).2 n os).2.2.2.1
          have g4 := fun n os => ((MK.out W hW).2 n os).2.2.2.2.1
          have g5 := fun n os => ((MK.out W hW).2 n os).2.2.2.2.2
          clear hW
          (refine wp_region_quiet_grown mixed (by kernel_rfl) ?_; (repeat (first | go_big_quiet_step (first | (go_at_call 52; refine Calls.grown_of_same (HS.out _ (by exact G.out.trans (Gr.grow _ _ _))))) | quiet_step (first | (go_at_call 52; refine Calls.grown_of_same (HS.out _ (by exact G.out.trans (Gr.grow _ _ _))))))); refine wpQuiet_nil ?_; intro _ hw'; obtain ⟨⟨nq, osq⟩, hw''⟩ := hw'; subst hw'')
          go_wp2_with (go_at_call 50; refine (HO.out _ (by exact G.out.trans (Gr.grow _ _ _))).mono ?_; rintro e w1 ⟨rfl, hg⟩)
          go_ret
          rw [E.out, ED.out, HB.out]
          exact ⟨rfl, (G.out.trans (Gr.grow _ _ _)).trans hg⟩
    · have ED : Hid (deadB t v.own died = false) := by show _ = _; simp [deadB, h1]
      have h1' : decide (0 < died) = false := decide_eq_false h1
      go_enter Try.func41, Try.ntmps41
      go_wp2_with fail
      generalize hW : (w.alloc (.cells #[.int .i64 v.max, .slice va v.opn.length vc, .int .i64 v.own] 35)).alloc (.cells #[.int .i64 key, .string text, .int .i64 born, .int .i64 died] 90) = W
      have G := Lib.hid (MK.out W hW).1
      have g0 := fun n os => ((MK.out W hW).2 n os).1
      have g1 := fun n os => ((MK.out W hW).2 n os).2.1
      have g2 := fun n os => ((MK.out W hW).2 n os).2.2.1
      have g3 := fun n os => ((MK.out W hW).2 n os).2.2.2.1
      have g4 := fun n os => ((MK.out W hW).2 n os).2.2.2.2.1
      have g5 := fun n os => ((MK.out W hW).2 n os).2.2.2.2.2
      clear hW
      (refine wp_region_quiet_grown mixed (by kernel_rfl) ?_; (repeat (first | go_big_quiet_step (fail) | quiet_step (fail))); refine wpQuiet_nil ?_; intro _ hw'; obtain ⟨⟨nq, osq⟩, hw''⟩ := hw'; subst hw'')
      go_wp2_with (go_at_call 50; refine (HO.out _ (by exact G.out.trans (Gr.grow _ _ _))).mono ?_; rintro e w1 ⟨rfl, hg⟩)
      go_ret
      rw [E.out, ED.out, HB.out]
      exact ⟨rfl, (G.out.trans (Gr.grow _ _ _)).trans hg⟩
set_option maxHeartbeats 1600000 in
theorem find1_calls (key : Int) (kb hb vb : Nat) (x : Vr) (hH : Hp w pm bo bd t ph a c vs) (hv : VwOk w v va vc) (hB : Box w kb hb vb key ph v va vc) (hb' : wfI x.born) (hd : wfI x.died) :
    Calls Try.prog 64 #[.agg (encV x).toArray, .pointer (some ⟨kb, 0, none⟩), .pointer (some ⟨hb, 0, none⟩), .pointer (some ⟨vb, 0, none⟩)] w fun e w' => e = .returned (.bool (decide (x.key = key) && visB t v x)) ∧ Gr w w' := by
  have hS : ∀ W, Gr w W → Calls Try.prog 45 #[.pointer (some ⟨ph, 0, none⟩), vwV v va vc, .agg (encV x).toArray] W fun e w' => e = .returned (.bool (visB t v x)) ∧ Gr W w' :=
    fun W hg => sees_calls W pm bo bd t ph a c vs v va vc x (hH.gr hg) (hv.gr hg) hb' hd
  obtain ⟨xk, text, born, died⟩ := x
  unfold encV at hS ⊢
  have HS := Lib.hid hS
  obtain ⟨bk, bh, bv0, bv1, bv2⟩ := hB
  have lk := World.block_lt_of_cell? w ⟨kb, 0, none⟩ bk
  have lh := World.block_lt_of_cell? w ⟨hb, 0, none⟩ bh
  have lv := World.block_lt_of_cell? w ⟨vb, 0, none⟩ bv0
  simp only at lk lh lv
  clear hS hH hv
  by_cases h1 : xk = key
  · subst h1
    have E : Hid ((decide (xk = xk) && visB t v ⟨xk, text, born, died⟩) = visB t v ⟨xk, text, born, died⟩) := by show _ = _; simp
    go_enter Try.func64, Try.ntmps64
    go_wp2_with (go_at_call 45; refine (HS.out _ (by exact Gr.alloc _ _)).mono ?_; rintro e w1 ⟨rfl, hg⟩)
    go_ret
    rw [E.out]
    exact ⟨rfl, (Gr.alloc _ _).trans hg⟩
  · have h1' : (xk == key) = false := by simpa using h1
    have E : Hid ((decide (xk = key) && visB t v ⟨xk, text, born, died⟩) = false) := by show _ = _; simp [h1]
    clear h1
    go_enter Try.func64, Try.ntmps64
    go_wp2
    go_ret
    rw [E.out]
    exact ⟨rfl, Gr.alloc _ _⟩

set_option maxHeartbeats 1600000 in
theorem find_calls (key : Int) (hH : Hp w pm bo bd t ph a c vs) (hv : VwOk w v va vc) :
    Calls Try.prog 38 #[.pointer (some ⟨ph, 0, none⟩), vwV v va vc, .int .i64 key] w fun e w' => e = .returned (.int .i64 (findI t v vs key)) ∧ Gr w w' := by
  have eg := enters_of Try.func64 (by kernel_rfl) rfl
  have hmf : ∀ (fn : Fn) (first cap : Array Value) (w : World), (Instr.makeFunc fn first cap).run Try.prog w = .ok (.func fn first cap) w := fun _ _ _ _ => rfl
  have h1 := hH.h1
  have hph := World.block_lt_of_cell? w ⟨ph, 0, none⟩ hH.h0
  simp only at hph
  have hp1 : ph < w.heap.size + 1 := by omega
  have hp2 : ph < w.heap.size + 1 + 1 := by omega
  have hI : ∀ W, Gr w W → Box W (w.heap.size + 1 + 1) w.heap.size (w.heap.size + 1) key ph v va vc →
      Calls Try.prog 53 #[.slice a vs.length c, .func (.func 64) #[] #[.pointer (some ⟨w.heap.size + 1 + 1, 0, none⟩), .pointer (some ⟨w.heap.size, 0, none⟩), .pointer (some ⟨w.heap.size + 1, 0, none⟩)]] W fun e w' => e = .returned (.int .i64 (findI t v vs key)) ∧ Gr W w' :=
    fun W hg hB => IndexV_calls W a c vs _ 64 _ eg (hH.gr hg).row (by have := hH.lim; omega) (fun W2 x hg2 hx => find1_calls W2 pm bo bd t ph a c vs v va vc key _ _ _ x (hH.gr (hg.trans hg2)) (hv.gr (hg.trans hg2)) (hB.gr hg2) (hH.wf x hx).2.1 (hH.wf x hx).2.2)
  have HI := Lib.hid hI
  clear hI hH hv
  go_enter Try.func38, Try.ntmps38
  go_wp2_with (go_at_call 53; refine (HI.out _ (by exact ((Gr.alloc _ _).trans (Gr.alloc _ _)).trans (Gr.alloc _ _)) (by exact ⟨by simp [go_sem], by simp [go_sem], by simp [go_sem], by simp [go_sem], by simp [go_sem]⟩)).mono ?_; rintro e w1 ⟨rfl, hg⟩)
  go_ret
  exact ⟨rfl, (((Gr.alloc _ _).trans (Gr.alloc _ _)).trans (Gr.alloc _ _)).trans hg⟩

set_option maxHeartbeats 1600000 in
theorem Insert1_calls (key : Int) (kb hb vb : Nat) (x : Vr) (hH : Hp w pm bo bd t ph a c vs) (hB : Box w kb hb vb key ph v va vc) (hb' : wfI x.born) (hd : wfI x.died) :
    Calls Try.prog 40 #[.agg (encV x).toArray, .pointer (some ⟨kb, 0, none⟩), .pointer (some ⟨hb, 0, none⟩), .pointer (some ⟨vb, 0, none⟩)] w fun e w' => e = .returned (.bool (decide (x.key = key) && blocksB t v.own x)) ∧ Gr w w' := by
  have hS : ∀ W, Gr w W → Calls Try.prog 41 #[.pointer (some ⟨ph, 0, none⟩), vwV v va vc, .agg (encV x).toArray] W fun e w' => e = .returned (.bool (blocksB t v.own x)) ∧ Gr W w' :=
    fun W hg => blocks_calls W pm bo bd t ph a c vs v va vc x (hH.gr hg) hb' hd
  obtain ⟨xk, text, born, died⟩ := x
  unfold encV at hS ⊢
  have HS := Lib.hid hS
  obtain ⟨bk, bh, bv0, bv1, bv2⟩ := hB
  have lk := World.block_lt_of_cell? w ⟨kb, 0, none⟩ bk
  have lh := World.block_lt_of_cell? w ⟨hb, 0, none⟩ bh
  have lv := World.block_lt_of_cell? w ⟨vb, 0, none⟩ bv0
  simp only at lk lh lv
  clear hS hH
  by_cases h1 : xk = key
  · subst h1
    have E : Hid ((decide (xk = xk) && blocksB t v.own ⟨xk, text, born, died⟩) = blocksB t v.own ⟨xk, text, born, died⟩) := by show _ = _; simp
    go_enter Try.func40, Try.ntmps40
    go_wp2_with (go_at_call 41; refine (HS.out _ (by exact Gr.alloc _ _)).mono ?_; rintro e w1 ⟨rfl, hg⟩)
    go_ret
    rw [E.out]
    exact ⟨rfl, (Gr.alloc _ _).trans hg⟩
  · have h1' : (xk == key) = false := by simpa using h1
    have E : Hid ((decide (xk = key) && blocksB t v.own ⟨xk, text, born, died⟩) = false) := by show _ = _; simp [h1]
    clear h1
    go_enter Try.func40, Try.ntmps40
    go_wp2
    go_ret
    rw [E.out]
    exact ⟨rfl, Gr.alloc _ _⟩

set_option maxHeartbeats 1600000 in
theorem Truncate1_calls (kb hb vb : Nat) (key : Int) (x : Vr) (hH : Hp w pm bo bd t ph a c vs) (hv : VwOk w v va vc) (hB : Box w kb hb vb key ph v va vc) (hb' : wfI x.born) (hd : wfI x.died) :
    Calls Try.prog 49 #[.agg (encV x).toArray, .pointer (some ⟨hb, 0, none⟩), .pointer (some ⟨vb, 0, none⟩)] w fun e w' => e = .returned (.bool (visB t v x && othersB t v.own x.died)) ∧ Gr w w' := by
  have hS : ∀ W, Gr w W → Calls Try.prog 45 #[.pointer (some ⟨ph, 0, none⟩), vwV v va vc, .agg (encV x).toArray] W fun e w' => e = .returned (.bool (visB t v x)) ∧ Gr W w' :=
    fun W hg => sees_calls W pm bo bd t ph a c vs v va vc x (hH.gr hg) (hv.gr hg) hb' hd
  have hO : ∀ W, Gr w W → Calls Try.prog 50 #[.pointer (some ⟨ph, 0, none⟩), vwV v va vc, .int .i64 x.died] W fun e w' => e = .returned (.bool (othersB t v.own x.died)) ∧ Gr W w' :=
    fun W hg => others_calls W pm bo bd t ph a c vs v va vc x.died (hH.gr hg) hd
  obtain ⟨xk, text, born, died⟩ := x
  unfold encV at hS ⊢
  simp only at hO hd
  have HO := Lib.hid hO
  obtain ⟨_, bh, bv0, bv1, bv2⟩ := hB
  have lh := World.block_lt_of_cell? w ⟨hb, 0, none⟩ bh
  have lv := World.block_lt_of_cell? w ⟨vb, 0, none⟩ bv0
  simp only at lh lv
  clear hO hH hv
  cases hq : visB t v ⟨xk, text, born, died⟩
  · rw [hq] at hS
    have HS := Lib.hid hS
    have E : Hid ((false && othersB t v.own died) = false) := rfl
    clear hS hq
    go_enter Try.func49, Try.ntmps49
    go_wp2_with (go_at_call 45; refine (HS.out _ (by exact Gr.alloc _ _)).mono ?_; rintro e w1 ⟨rfl, hg⟩)
    go_ret
    exact ⟨rfl, (Gr.alloc _ _).trans hg⟩
  · rw [hq] at hS
    have HS := Lib.hid hS
    have E : Hid ((true && othersB t v.own died) = othersB t v.own died) := by show _ = _; simp
    clear hS hq
    go_enter Try.func49, Try.ntmps49
    go_wp2_with fail
    refine (HS.out _ (by exact Gr.alloc _ _)).mono ?_
    rintro e w1 ⟨rfl, hg⟩
    have hGr := (Gr.alloc w (.cells #[.int .i64 xk, .string text, .int .i64 born, .int .i64 died] 90)).trans hg
    have ch := hGr.cell bh
    have c0 := hGr.cell bv0
    have c1 := hGr.cell bv1
    have c2 := hGr.cell bv2
    have c3 := hg.cell (a := ⟨w.heap.size, 3, none⟩) (v := .int .i64 died) (by simp [go_sem])
    have G := Lib.hid hGr
    clear hg hGr
    go_wp2_with (go_at_call 50; refine (HO.out _ G.out).mono ?_; rintro e w2 ⟨rfl, hg⟩)
    go_ret
    rw [E.out]
    exact ⟨rfl, G.out.trans hg⟩
end
end Go.Proofs.Ytannjecmfbhkeaa
