/- Redo. -/
import Derived.Test.YtannjecmfbhkeaaRedoPure
import Derived.Test.YtannjecmfbhkeaaSmall2
namespace Go.Proofs.Ytannjecmfbhkeaa
open Go Go.RowKit Go.Lib Go.Maps
def encO (p : Bool × Rw) : List Value := [.bool p.1, .int .i64 p.2.1, .string p.2.2]
/-- A row of what was done. -/
abbrev OpRow (w : World) (a : Option Addr) (c : Nat) (l : List (Bool × Rw)) : Prop := w.ownsRow 0 54 3 (.slice a l.length c) l.length (l.flatMap encO)
theorem OpRow.at {w : World} {a : Option Addr} {c : Nat} {l : List (Bool × Rw)} (h : OpRow w a c l) {k : Nat} {x : Bool × Rw} (hx : l[k]? = some x) :
    ∃ g, a = some ⟨g, 0, none⟩ ∧ w.cell? ⟨g, k * 3, none⟩ = some (.bool x.1) ∧ w.cell? ⟨g, k * 3 + 1, none⟩ = some (.int .i64 x.2.1) ∧ w.cell? ⟨g, k * 3 + 2, none⟩ = some (.string x.2.2) := by
  obtain ⟨hk, _⟩ := List.getElem?_eq_some_iff.1 hx
  rcases h.2 with ⟨_, h0⟩ | ⟨g, cap, cur, hv, _⟩
  · omega
  · simp only [Value.slice.injEq] at hv
    have key : ∀ i v, (encO x)[i]? = some v → w.cell? ⟨g, k * 3 + i, none⟩ = some v := fun i v hv2 => by
      have := h.cells (g := g) (by rw [hv.1]; rfl) (k * 3 + i) v (flat_get (enc := encO) (k := 3) (fun _ => rfl) hx hv2)
      rw [show (⟨g, 0, none⟩ : Addr).add (k * 3 + i) = ⟨g, k * 3 + i, none⟩ from by unfold Addr.add; split <;> simp_all] at this
      exact this
    exact ⟨g, hv.1, key 0 _ rfl, key 1 _ rfl, key 2 _ rfl⟩
/-- What Redo's closure finds in its boxes. -/
structure OBox (w : World) (ob hb ph : Nat) (g : Bool) (r : Rw) : Prop where
  c0 : w.cell? ⟨ob, 0, none⟩ = some (.bool g)
  c1 : w.cell? ⟨ob, 1, none⟩ = some (.int .i64 r.1)
  c2 : w.cell? ⟨ob, 2, none⟩ = some (.string r.2)
  h : w.cell? ⟨hb, 0, none⟩ = some (.pointer (some ⟨ph, 0, none⟩))
theorem OBox.gr {w w' : World} {ob hb ph : Nat} {g : Bool} {r : Rw} (h : OBox w ob hb ph g r) (hg : Gr w w') : OBox w' ob hb ph g r :=
  ⟨hg.cell h.c0, hg.cell h.c1, hg.cell h.c2, hg.cell h.h⟩
section
variable (w : World) (pm bo bd : Nat) (t : TS) (ph : Nat) (a : Option Addr) (c : Nat) (vs : List Vr)
set_option maxHeartbeats 1600000 in
theorem Redo1_calls (ob hb : Nat) (g : Bool) (r : Rw) (x : Vr) (hH : Hp w pm bo bd t ph a c vs) (hB : OBox w ob hb ph g r) (hb' : wfI x.born) (hd : wfI x.died) :
    Calls Try.prog 54 #[.agg (encV x).toArray, .pointer (some ⟨ob, 0, none⟩), .pointer (some ⟨hb, 0, none⟩)] w fun e w' => e = .returned (.bool (redoB t r.1 x)) ∧ Gr w w' := by
  have mixed : Try.prog.follows .mixedOrders = true := by kernel_rfl
  have hS : ∀ W y, Gr w W → wfI y → Calls Try.prog 52 #[.pointer (some ⟨pm, 0, none⟩), .int .i64 y] W fun e w' => e = .returned (.int .u8 (stOf t y)) ∧ W = w' :=
    fun W y hg hy => State_calls W pm bo bd t y (hH.M.gr hg) hy
  obtain ⟨xk, text, born, died⟩ := x
  obtain ⟨key, rt⟩ := r
  simp only at hb' hd
  unfold encV
  have h0 := hH.h0
  have mk : ∀ W, w.alloc (.cells #[.int .i64 xk, .string text, .int .i64 born, .int .i64 died] 90) = W → Gr w W ∧ ∀ n os,
      (Sort.grow (W.drewN n) os).cell? ⟨ph, 0, none⟩ = some (.pointer (some ⟨pm, 0, none⟩)) ∧
      (Sort.grow (W.drewN n) os).cell? ⟨hb, 0, none⟩ = some (.pointer (some ⟨ph, 0, none⟩)) ∧
      (Sort.grow (W.drewN n) os).cell? ⟨ob, 1, none⟩ = some (.int .i64 key) ∧
      (Sort.grow (W.drewN n) os).cell? ⟨w.heap.size, 0, none⟩ = some (.int .i64 xk) ∧
      (Sort.grow (W.drewN n) os).cell? ⟨w.heap.size, 2, none⟩ = some (.int .i64 born) ∧
      (Sort.grow (W.drewN n) os).cell? ⟨w.heap.size, 3, none⟩ = some (.int .i64 died) := by
    rintro W rfl
    have hG := Gr.alloc w (.cells #[.int .i64 xk, .string text, .int .i64 born, .int .i64 died] 90)
    refine ⟨hG, fun n os => ⟨(hG.trans (Gr.grow _ n os)).cell h0, (hG.trans (Gr.grow _ n os)).cell hB.h, (hG.trans (Gr.grow _ n os)).cell hB.c1, ?_, ?_, ?_⟩⟩ <;> exact (Gr.grow _ n os).cell (by simp [go_sem])
  have MK := Lib.hid mk
  have HS := Lib.hid hS
  have WB := Lib.hid hb'
  have WD := Lib.hid hd
  clear mk h0 hS hH hB hb' hd
  by_cases h1 : xk = key
  · subst h1
    by_cases h2 : stOf t born = 2
    · have h2' : ((stOf t born : Int) == 2) = true := by rw [h2]; rfl
      by_cases h3 : stOf t died = 2
      · have h3' : ((stOf t died : Int) != 2) = false := by rw [h3]; rfl
        have E : Hid (redoB t xk ⟨xk, text, born, died⟩ = false) := by show _ = _; simp [redoB, h3]
        clear h2 h3
        go_enter Try.func54, Try.ntmps54
        go_wp2_with fail
        generalize hW : w.alloc (.cells #[.int .i64 xk, .string text, .int .i64 born, .int .i64 died] 90) = W
        have G := Lib.hid (MK.out W hW).1
        have g0 := fun n os => ((MK.out W hW).2 n os).1
        have g1 := fun n os => ((MK.out W hW).2 n os).2.1
        have g2 := fun n os => ((MK.out W hW).2 n os).2.2.1
        have g3 := fun n os => ((MK.out W hW).2 n os).2.2.2.1
        have g4 := fun n os => ((MK.out W hW).2 n os).2.2.2.2.1
        have g5 := fun n os => ((MK.out W hW).2 n os).2.2.2.2.2
        clear hW
        (refine wp_region_quiet_grown mixed (by kernel_rfl) ?_; (repeat (first | go_big_quiet_step (first | (go_at_call 52; refine Calls.grown_of_same (HS.out _ _ (by exact G.out.trans (Gr.grow _ _ _)) WB.out)) | (go_at_call 52; refine Calls.grown_of_same (HS.out _ _ (by exact G.out.trans (Gr.grow _ _ _)) WD.out))) | quiet_step (first | (go_at_call 52; refine Calls.grown_of_same (HS.out _ _ (by exact G.out.trans (Gr.grow _ _ _)) WB.out)) | (go_at_call 52; refine Calls.grown_of_same (HS.out _ _ (by exact G.out.trans (Gr.grow _ _ _)) WD.out))))); refine wpQuiet_nil ?_; intro _ hw'; obtain ⟨⟨nq, osq⟩, hw''⟩ := hw'; subst hw'')
        go_wp2
        go_ret
        rw [E.out]
        exact ⟨rfl, G.out.trans (Gr.grow _ _ _)⟩
      · have h3' : ((stOf t died : Int) != 2) = true := by simp; omega
        have E : Hid (redoB t xk ⟨xk, text, born, died⟩ = true) := by show _ = _; simp [redoB, h2, h3]
        clear h2 h3
        go_enter Try.func54, Try.ntmps54
        go_wp2_with fail
        generalize hW : w.alloc (.cells #[.int .i64 xk, .string text, .int .i64 born, .int .i64 died] 90) = W
        have G := Lib.hid (MK.out W hW).1
        have g0 := fun n os => ((MK.out W hW).2 n os).1
        have g1 := fun n os => ((MK.out W hW).2 n os).2.1
        have g2 := fun n os => ((MK.out W hW).2 n os).2.2.1
        have g3 := fun n os => ((MK.out W hW).2 n os).2.2.2.1
        have g4 := fun n os => ((MK.out W hW).2 n os).2.2.2.2.1
        have g5 := fun n os => ((MK.out W hW).2 n os).2.2.2.2.2
        clear hW
        (refine wp_region_quiet_grown mixed (by kernel_rfl) ?_; (repeat (first | go_big_quiet_step (first | (go_at_call 52; refine Calls.grown_of_same (HS.out _ _ (by exact G.out.trans (Gr.grow _ _ _)) WB.out)) | (go_at_call 52; refine Calls.grown_of_same (HS.out _ _ (by exact G.out.trans (Gr.grow _ _ _)) WD.out))) | quiet_step (first | (go_at_call 52; refine Calls.grown_of_same (HS.out _ _ (by exact G.out.trans (Gr.grow _ _ _)) WB.out)) | (go_at_call 52; refine Calls.grown_of_same (HS.out _ _ (by exact G.out.trans (Gr.grow _ _ _)) WD.out))))); refine wpQuiet_nil ?_; intro _ hw'; obtain ⟨⟨nq, osq⟩, hw''⟩ := hw'; subst hw'')
        go_wp2
        go_ret
        rw [E.out]
        exact ⟨rfl, G.out.trans (Gr.grow _ _ _)⟩
    · have h2' : ((stOf t born : Int) == 2) = false := by simp; omega
      have E : Hid (redoB t xk ⟨xk, text, born, died⟩ = false) := by show _ = _; simp [redoB, h2]
      clear h2
      go_enter Try.func54, Try.ntmps54
      go_wp2_with fail
      generalize hW : w.alloc (.cells #[.int .i64 xk, .string text, .int .i64 born, .int .i64 died] 90) = W
      have G := Lib.hid (MK.out W hW).1
      have g0 := fun n os => ((MK.out W hW).2 n os).1
      have g1 := fun n os => ((MK.out W hW).2 n os).2.1
      have g2 := fun n os => ((MK.out W hW).2 n os).2.2.1
      have g3 := fun n os => ((MK.out W hW).2 n os).2.2.2.1
      have g4 := fun n os => ((MK.out W hW).2 n os).2.2.2.2.1
      have g5 := fun n os => ((MK.out W hW).2 n os).2.2.2.2.2
      clear hW
      (refine wp_region_quiet_grown mixed (by kernel_rfl) ?_; (repeat (first | go_big_quiet_step (first | (go_at_call 52; refine Calls.grown_of_same (HS.out _ _ (by exact G.out.trans (Gr.grow _ _ _)) WB.out))) | quiet_step (first | (go_at_call 52; refine Calls.grown_of_same (HS.out _ _ (by exact G.out.trans (Gr.grow _ _ _)) WB.out))))); refine wpQuiet_nil ?_; intro _ hw'; obtain ⟨⟨nq, osq⟩, hw''⟩ := hw'; subst hw'')
      go_wp2
      go_ret
      rw [E.out]
      exact ⟨rfl, G.out.trans (Gr.grow _ _ _)⟩
  · have h1' : (xk == key) = false := by simpa using h1
    have E : Hid (redoB t key ⟨xk, text, born, died⟩ = false) := by show _ = _; simp [redoB, h1]
    clear h1
    go_enter Try.func54, Try.ntmps54
    go_wp2_with fail
    generalize hW : w.alloc (.cells #[.int .i64 xk, .string text, .int .i64 born, .int .i64 died] 90) = W
    have G := Lib.hid (MK.out W hW).1
    have g0 := fun n os => ((MK.out W hW).2 n os).1
    have g1 := fun n os => ((MK.out W hW).2 n os).2.1
    have g2 := fun n os => ((MK.out W hW).2 n os).2.2.1
    have g3 := fun n os => ((MK.out W hW).2 n os).2.2.2.1
    have g4 := fun n os => ((MK.out W hW).2 n os).2.2.2.2.1
    have g5 := fun n os => ((MK.out W hW).2 n os).2.2.2.2.2
    clear hW
    (refine wp_region_quiet_grown mixed (by kernel_rfl) ?_; (repeat (first | go_big_quiet_step (fail) | quiet_step (fail))); refine wpQuiet_nil ?_; intro _ hw'; obtain ⟨⟨nq, osq⟩, hw''⟩ := hw'; subst hw'')
    go_wp2
    go_ret
    rw [E.out]
    exact ⟨rfl, G.out.trans (Gr.grow _ _ _)⟩

/-- .. without a draw. -/
theorem HS_died2 {W w' : World} {i : Nat} {o : Int} {g : Nat} (hH : Hp W pm bo bd t ph (some ⟨g, 0, none⟩) c vs) (ho : wfI o) (hW : Gr w W) (hw : W.setCell ⟨g, i * 4 + 3, none⟩ (.int .i64 o) = w') :
    HS w pm bo bd t ph (some ⟨g, 0, none⟩) (setD vs i o) w' := by
  subst hw
  have ap := hH.apR _ rfl
  simp only at ap
  have sc : ∀ b, b ≠ g → (W.setCell ⟨g, i * 4 + 3, none⟩ (.int .i64 o)).heap[b]? = W.heap[b]? := fun b hb => Below.heap_setCell _ _ _ _ hb
  refine ⟨some ⟨g, 0, none⟩, c, ?_, (hW.tc _).setCell (p := ⟨g, i * 4 + 3, none⟩) (Or.inr ⟨_, rfl, rfl⟩) _, fun b hb => Or.inl hb⟩
  refine ⟨hH.M.heap (sc pm ap.2.1.symm) (sc bo ap.2.2.1.symm) (sc bd ap.2.2.2.symm), ?_, ?_, ?_, ?_, ?_, by rw [length_setD]; exact hH.lim, hH.ap, hH.apR⟩
  · exact (World.cell?_of_block (a := ⟨ph, 0, none⟩) (sc ph ap.1.symm)).trans hH.h0
  · rw [length_setD]; exact (World.cell?_of_block (a := ⟨ph, 1, none⟩) (sc ph ap.1.symm)).trans hH.h1
  · exact (World.frozen?_of_block (a := ⟨ph, 1, none⟩) (sc ph ap.1.symm)).trans hH.f1
  · unfold VerRow
    rw [length_setD, flat_setD]
    exact ownsRow_set hH.row _ _
  · intro y hy
    rcases setD_mem hy with h | ⟨z, hz, rfl⟩
    · exact hH.wf y h
    · exact ⟨(hH.wf z hz).1, (hH.wf z hz).2.1, ho⟩
/-- What one of Redo's leaves. -/
def RdW (w0 : World) (pm bo bd : Nat) (t : TS) (ph : Nat) (a : Option Addr) (x : Int) (vs : List Vr) (ops : List (Bool × Rw)) (k : Nat) (W : World) : Prop :=
  HS w0 pm bo bd t ph a (redoAll t x vs (ops.take k)) W
theorem redoAll_len {t : TS} {x : Int} : ∀ {l : List (Bool × Rw)} {vs : List Vr}, (redoAll t x vs l).length ≤ vs.length + l.length
  | [], vs => by simp [redoAll]
  | p :: l, vs => by
    have := redoAll_len (t := t) (x := x) (l := l) (vs := redo1 t x vs p.1 p.2)
    have h2 := redo1_len (t := t) (o := x) (vs := vs) (g := p.1) (r := p.2)
    have e : redoAll t x vs (p :: l) = redoAll t x (redo1 t x vs p.1 p.2) l := rfl
    rw [e]; simp only [List.length_cons]; omega
theorem redoAll_snoc {t : TS} {x : Int} {vs : List Vr} {l : List (Bool × Rw)} {k : Nat} {p : Bool × Rw} (h : l[k]? = some p) : redoAll t x vs (l.take (k + 1)) = redo1 t x (redoAll t x vs (l.take k)) p.1 p.2 := by
  obtain ⟨hk, rfl⟩ := List.getElem?_eq_some_iff.1 h
  rw [List.take_succ_eq_append_getElem hk]
  unfold redoAll
  rw [List.foldl_append]; rfl
theorem enc_len (p : Bool × Rw) : (encO p).length = 3 := rfl
set_option maxHeartbeats 3200000 in
theorem Redo_calls (x : Int) (ops : List (Bool × Rw)) (oa : Option Addr) (oc : Nat) (hH : Hp w pm bo bd t ph a c vs) (hx : wfI x) (hO : OpRow w oa oc ops) (hwf : ∀ p ∈ ops, wfI p.2.1)
    (hlim : vs.length + ops.length < 100000000) (hap : ∀ y, oa = some y → ¬ hpB ph a y.block) :
    Calls Try.prog 25 #[.pointer (some ⟨ph, 0, none⟩), .int .i64 x, .slice oa ops.length oc] w fun e w' => e = .returned (.int .i64 (redoE t x)) ∧ HS w pm bo bd t ph a (redoV t x vs ops) w' := by
  have hmf : ∀ (fn : Fn) (first cap : Array Value) (w : World), (Instr.makeFunc fn first cap).run Try.prog w = .ok (.func fn first cap) w := fun _ _ _ _ => rfl
  have eg := enters_of Try.func54 (by kernel_rfl) rfl
  have hN : ∀ W, Gr w W → Calls Try.prog 44 #[.pointer (some ⟨ph, 0, none⟩)] W fun e w' => e = .returned (.bool false) ∧ W = w' :=
    fun W hg => none_calls W pm bo bd t ph a c vs (hH.gr hg)
  have hS : ∀ W, Gr w W → Calls Try.prog 52 #[.pointer (some ⟨pm, 0, none⟩), .int .i64 x] W fun e w' => e = .returned (.int .u8 (stOf t x)) ∧ W = w' :=
    fun W hg => State_calls W pm bo bd t x (hH.M.gr hg) hx
  have HN := Lib.hid hN
  have HH := Lib.hid hH
  have HO := Lib.hid hO
  have HX := Lib.hid hx
  have HWF := Lib.hid hwf
  have HAP := Lib.hid hap
  have h0 := hH.h0
  have hph := World.block_lt_of_cell? w ⟨ph, 0, none⟩ hH.h0
  simp only at hph
  have hn : ∀ b, w.heap.size ≤ b → ¬ hpB ph a b := fun b hb => hpB_not hH hb
  have HNB := Lib.hid hn
  clear hn hN hH hO hx hwf hap
  by_cases hst : stOf t x = 2
  · have hst' : ((stOf t x : Int) != 2) = false := by rw [hst]; rfl
    have E : Hid (redoE t x = 0) := by show _ = _; simp [redoE, hst]
    have E2 : Hid (redoV t x vs ops = redoAll t x vs ops) := by show _ = _; simp [redoV, hst]
    have HS0 := Lib.hid hS
    have H63 : ops.length ≤ 9223372036854775807 := by omega
    clear hst hS
    go_enter Try.func25, Try.ntmps25
    go_wp2_with (first
      | (go_at_call 44; refine (HN.out _ (by exact Gr.alloc _ _)).mono ?_; rintro e w' ⟨rfl, rfl⟩)
      | (go_at_call 52; refine (HS0.out _ (by exact Gr.alloc _ _)).mono ?_; rintro e w' ⟨rfl, rfl⟩))
    have G0 := Gr.alloc w (.cells #[.pointer (some ⟨ph, 0, none⟩)] 26)
    obtain ⟨W0, hW0⟩ : ∃ W0, w.alloc (.cells #[.pointer (some ⟨ph, 0, none⟩)] 26) = W0 := ⟨_, rfl⟩
    have b0 : W0.cell? ⟨w.heap.size, 0, none⟩ = some (.pointer (some ⟨ph, 0, none⟩)) := by rw [← hW0]; simp [go_sem]
    rw [hW0] at G0 ⊢
    have sz : w.heap.size < W0.heap.size := by rw [← hW0]; simp
    have HB := Lib.hid b0
    have HG0 := Lib.hid G0
    clear hW0 b0 G0
    go_loopw [23] (fun vi W => ∃ k : Nat, vi = .int .i64 k ∧ k ≤ ops.length ∧ Hid (RdW W0 pm bo bd t ph a x vs ops k W)) (fun vi _ => ops.length - (RowKit.intOf vi).toNat)
    case atStart => exact ⟨0, rfl, Nat.zero_le _, HS.same (Gr.refl _) (HH.out.gr HG0.out)⟩
    case round =>
      obtain ⟨k, rfl, hk, hI⟩ := hrel
      by_cases hlt : k < ops.length
      · have hltz : (k : Int) < (ops.length : Int) := by omega
        obtain ⟨p, hp⟩ : ∃ p, ops[k]? = some p := ⟨_, List.getElem?_eq_getElem hlt⟩
        obtain ⟨a1, c1, hH1, ht1, ha1⟩ := hI.out
        have b0 := Tc_cell ht1 HB.out (HNB.out _ (Nat.le_refl _))
        have b1 := World.block_lt_of_cell? _ _ b0
        obtain ⟨og, rfl, o0, o1, o2⟩ := OpRow.at HO.out hp
        have HAPg : ¬ hpB ph a og := HAP.out ⟨og, 0, none⟩ rfl
        have q0 := Tc_cell ht1 (HG0.out.cell o0) HAPg
        have q1 := Tc_cell ht1 (HG0.out.cell o1) HAPg
        have q2 := Tc_cell ht1 (HG0.out.cell o2) HAPg
        have NX := Lib.hid (redoAll_snoc (t := t) (x := x) (vs := vs) hp)
        have wfp := HWF.out p (List.mem_of_getElem? hp)
        have hl := redoAll_len (t := t) (x := x) (l := ops.take k) (vs := vs)
        rw [List.length_take] at hl
        have hl2 : (redoAll t x vs (ops.take k)).length < 100000000 := by omega
        obtain ⟨g, key, text⟩ := p
        simp only at q0 q1 q2 b1 wfp
        clear hl hp o0 o1 o2 hI HAPg
        generalize redoAll t x vs (ops.take k) = V at hH1 NX hl2
        have HT := Lib.hid (And.intro ht1 ha1)
        have WP := Lib.hid wfp
        have hV : ∀ W, Gr wr W → OBox W wr.heap.size w.heap.size ph g (key, text) →
            Calls Try.prog 53 #[.slice a1 V.length c1, .func (.func 54) #[] #[.pointer (some ⟨wr.heap.size, 0, none⟩), .pointer (some ⟨w.heap.size, 0, none⟩)]] W fun e w' => e = .returned (.int .i64 (redoK t V key)) ∧ Gr W w' :=
          fun W hg hB => IndexV_calls W a1 c1 V _ 54 _ eg (hH1.gr hg).row (by omega) (fun W2 y hg2 hy => Redo1_calls W2 pm bo bd t ph a1 c1 V _ _ g (key, text) y (hH1.gr (hg.trans hg2)) (hB.gr hg2) (hH1.wf y hy).2.1 (hH1.wf y hy).2.2)
        have h1 := hH1.h1
        have hph1 := World.block_lt_of_cell? wr ⟨ph, 0, none⟩ hH1.h0
        simp only at hph1
        have H1 := Lib.hid hH1
        clear ht1 ha1 wfp hH1
        rcases idxI_cases (redoB t key) V with ⟨e1, _⟩ | ⟨i, y, e1, e2, _, _⟩
        · have e1' : redoK t V key = -1 := e1
          rw [e1'] at hV
          have HV := Lib.hid hV
          cases g
          · have NX2 : Hid (redoAll t x vs (ops.take (k + 1)) = V ++ [⟨key, text, x, 0⟩]) := by
              show _ = _; rw [NX.out]; unfold redo1; simp only; rw [e1', if_neg (show ¬ (0 : Int) ≤ -1 by decide)]; rfl
            clear e1 e1' NX hV
            go_wp2_with fail
            refine (HV.out _ (Gr.alloc _ _) ⟨by simp [go_sem], by simp [go_sem], by simp [go_sem], by simp [go_sem, b0, b1]⟩).mono ?_
            rintro e w2 ⟨rfl, hg⟩
            have G := Lib.hid ((Gr.alloc wr _).trans hg)
            have r0 := hg.cell (a := ⟨wr.heap.size, 0, none⟩) (v := .bool false) (by simp [go_sem])
            have r1 := hg.cell (a := ⟨wr.heap.size, 1, none⟩) (v := .int .i64 key) (by simp [go_sem])
            have r2 := hg.cell (a := ⟨wr.heap.size, 2, none⟩) (v := .string text) (by simp [go_sem])
            have r3 := G.out.cell b0
            clear hg b0 q0 q1 q2 h1
            go_wp2_with fail
            refine (bear_calls w2 pm bo bd t ph a1 c1 V x (key, text) (H1.out.gr G.out) HX.out WP.out hl2).mono ?_
            rintro e w3 ⟨rfl, hs⟩
            have hI2 : Hid (RdW W0 pm bo bd t ph a x vs ops (k + 1) w3) := by
              show HS _ _ _ _ _ _ _ _ _
              rw [NX2.out]
              exact HS.trans HT.out.1 HT.out.2 (hs.gr G.out)
            clear hs r0 r1 r2 r3
            go_wp2
            go_roundw
            case rel => exact ⟨k + 1, by go_num, by omega, hI2⟩
            case measure => simp [RowKit.intOf]; omega
          · have NX2 : Hid (redoAll t x vs (ops.take (k + 1)) = V) := by
              show _ = _; rw [NX.out]; unfold redo1; simp only; rw [e1', if_neg (show ¬ (0 : Int) ≤ -1 by decide)]; rfl
            clear e1 e1' NX hV
            go_wp2_with fail
            refine (HV.out _ (Gr.alloc _ _) ⟨by simp [go_sem], by simp [go_sem], by simp [go_sem], by simp [go_sem, b0, b1]⟩).mono ?_
            rintro e w2 ⟨rfl, hg⟩
            have G := Lib.hid ((Gr.alloc wr _).trans hg)
            have r0 := hg.cell (a := ⟨wr.heap.size, 0, none⟩) (v := .bool true) (by simp [go_sem])
            have hI2 : Hid (RdW W0 pm bo bd t ph a x vs ops (k + 1) w2) := by
              show HS _ _ _ _ _ _ _ _ _
              rw [NX2.out]
              exact HS.trans HT.out.1 HT.out.2 (HS.same G.out H1.out)
            clear hg b0 q0 q1 q2 h1
            go_wp2
            go_roundw
            case rel => exact ⟨k + 1, by go_num, by omega, hI2⟩
            case measure => simp [RowKit.intOf]; omega
        · have e1' : redoK t V key = i := e1
          rw [e1'] at hV
          have HV := Lib.hid hV
          have hi : i < V.length := (List.getElem?_eq_some_iff.1 e2).1
          have hiz : (i : Int) < (V.length : Int) := by omega
          obtain ⟨gg, rfl, _, _, _, _⟩ := H1.out.row.at e2
          have E2 := Lib.hid e2
          have ap := H1.out.apR _ rfl
          simp only at ap
          have AP := Lib.hid ap
          have hgg := (H1.out.row.lt gg (by simp [Value.ownBlock])).2
          clear ap
          cases g
          · have NX2 : Hid (redoAll t x vs (ops.take (k + 1)) = setD V i x ++ [⟨key, text, x, 0⟩]) := by
              show _ = _; rw [NX.out]; unfold redo1; simp only; rw [e1', if_pos (show (0 : Int) ≤ (i : Int) by omega)]; rfl
            clear e1 e1' NX hV e2
            go_wp2_with fail
            refine (HV.out _ (Gr.alloc _ _) ⟨by simp [go_sem], by simp [go_sem], by simp [go_sem], by simp [go_sem, b0, b1]⟩).mono ?_
            rintro e w2 ⟨rfl, hg⟩
            have G := Lib.hid ((Gr.alloc wr _).trans hg)
            have r0 := hg.cell (a := ⟨wr.heap.size, 0, none⟩) (v := .bool false) (by simp [go_sem])
            have r1 := hg.cell (a := ⟨wr.heap.size, 1, none⟩) (v := .int .i64 key) (by simp [go_sem])
            have r2 := hg.cell (a := ⟨wr.heap.size, 2, none⟩) (v := .string text) (by simp [go_sem])
            have r3 := G.out.cell b0
            have hH2 := H1.out.gr G.out
            have k0 := hH2.h1
            obtain ⟨gg', hg', _, _, _, k1⟩ := hH2.row.at E2.out
            obtain rfl : gg = gg' := by simpa using hg'
            have k2 := ownsRow_frozen hH2.row (i * 4 + 3)
            have n1 : wr.heap.size ≠ gg := by omega
            have n2 : w.heap.size ≠ gg := fun e => HNB.out _ (Nat.le_of_eq e) (by
              rcases HT.out.2 _ rfl with h | h
              · exact Or.inr ⟨_, h, rfl⟩
              · exfalso; simp only at h; omega)
            clear hg b0 q0 q1 q2 h1 hH2 hg'
            go_wp2_with fail
            have hs1 := HS_died2 wr pm bo bd t ph c1 V (H1.out.gr G.out) HX.out G.out (i := i) rfl
            obtain ⟨a3, c3, hH3, ht3, ha3⟩ := hs1
            refine (bear_calls _ pm bo bd t ph a3 c3 (setD V i x) x (key, text) hH3 HX.out WP.out (by rw [length_setD]; exact hl2)).mono ?_
            rintro e w3 ⟨rfl, hs⟩
            have hI2 : Hid (RdW W0 pm bo bd t ph a x vs ops (k + 1) w3) := by
              show HS _ _ _ _ _ _ _ _ _
              rw [NX2.out]
              exact HS.trans HT.out.1 HT.out.2 (HS.trans ht3 ha3 hs)
            clear hs r0 r1 r2 r3 k0 k1 k2 hH3 ht3 ha3
            go_wp2
            go_roundw
            case rel => exact ⟨k + 1, by go_num, by omega, hI2⟩
            case measure => simp [RowKit.intOf]; omega
          · have NX2 : Hid (redoAll t x vs (ops.take (k + 1)) = setD V i x) := by
              show _ = _; rw [NX.out]; unfold redo1; simp only; rw [e1', if_pos (show (0 : Int) ≤ (i : Int) by omega)]; rfl
            clear e1 e1' NX hV e2
            go_wp2_with fail
            refine (HV.out _ (Gr.alloc _ _) ⟨by simp [go_sem], by simp [go_sem], by simp [go_sem], by simp [go_sem, b0, b1]⟩).mono ?_
            rintro e w2 ⟨rfl, hg⟩
            have G := Lib.hid ((Gr.alloc wr _).trans hg)
            have r0 := hg.cell (a := ⟨wr.heap.size, 0, none⟩) (v := .bool true) (by simp [go_sem])
            have r3 := G.out.cell b0
            have hH2 := H1.out.gr G.out
            have k0 := hH2.h1
            obtain ⟨gg', hg', _, _, _, k1⟩ := hH2.row.at E2.out
            obtain rfl : gg = gg' := by simpa using hg'
            have k2 := ownsRow_frozen hH2.row (i * 4 + 3)
            have n1 : wr.heap.size ≠ gg := by omega
            have hs1 : Hid (HS wr pm bo bd t ph (some ⟨gg, 0, none⟩) (setD V i x) (w2.setCell ⟨gg, i * 4 + 3, none⟩ (.int .i64 x))) := HS_died2 wr pm bo bd t ph c1 V (H1.out.gr G.out) HX.out G.out (i := i) rfl
            clear hg b0 q0 q1 q2 h1 hH2 hg'
            go_wp2
            go_roundw
            case rel => exact ⟨k + 1, by go_num, by omega, by
              show HS _ _ _ _ _ _ _ _ _
              rw [NX2.out]
              exact HS.trans HT.out.1 HT.out.2 hs1.out⟩
            case measure => simp [RowKit.intOf]; omega
      · have hltz : ¬ (k : Int) < (ops.length : Int) := by omega
        go_wp2
        go_ret
        rw [E.out, E2.out]
        have h := hI.out
        unfold RdW at h
        rw [List.take_of_length_le (by omega)] at h
        exact ⟨rfl, h.gr HG0.out⟩
  · have hst' : ((stOf t x : Int) != 2) = true := by simp; omega
    have E : Hid (redoE t x = 7) := by show _ = _; simp [redoE, hst]
    have E2 : Hid (redoV t x vs ops = vs) := by show _ = _; simp [redoV, hst]
    have HS0 := Lib.hid hS
    clear hst hS
    go_enter Try.func25, Try.ntmps25
    go_wp2_with (first
      | (go_at_call 44; refine (HN.out _ (by exact Gr.alloc _ _)).mono ?_; rintro e w' ⟨rfl, rfl⟩)
      | (go_at_call 52; refine (HS0.out _ (by exact Gr.alloc _ _)).mono ?_; rintro e w' ⟨rfl, rfl⟩))
    go_ret
    rw [E.out, E2.out]
    exact ⟨rfl, HS.same (Gr.alloc _ _) HH.out⟩
end
/-! ### in label form -/
structure OpL (own : Nat → Nat) (k : Nat) (w : World) (a : Option Addr) (c : Nat) (l : List (Bool × Rw)) : Prop where
  ok : OpRow w a c l
  lb : ∀ b, a = some b → own b.block = k
theorem OpL.keep {own own' : Nat → Nat} {i k : Nat} {w w' : World} {a : Option Addr} {c : Nat} {l : List (Bool × Rw)} (h : OpL own k w a c l) (s : Stp i own own' w w') (hn : k ≠ i) : OpL own' k w' a c l := by
  have hl : ∀ b, a = some b → b.block < w.heap.size := fun b hb => (h.ok.lt b.block (by rw [hb]; rfl)).2
  refine ⟨ownsRow_heap h.ok (fun b hb => ?_), fun b hb => (s.lbl _ (hl b hb)).trans (h.lb b hb)⟩
  cases a with
  | none => simp [Value.ownBlock] at hb
  | some y => simp [Value.ownBlock] at hb; subst hb; exact s.heap _ (hl y rfl) (by rw [h.lb y rfl]; exact hn)
theorem OpL.none (own : Nat → Nat) (k : Nat) (w : World) : OpL own k w Option.none 0 [] := ⟨World.ownsRow_nil _ _ _ _, fun _ h => by cases h⟩
theorem Redo_L {own : Nat → Nat} {i j k : Nat} {w : World} {pm bo bd ph : Nat} {t : TS} {a : Option Addr} {c : Nat} {vs : List Vr} {oa : Option Addr} {oc : Nat} {ops : List (Bool × Rw)} (x : Int)
    (hM : MgrL own i w pm bo bd t) (hH : HeapL own j w ph pm a c vs) (hij : i ≠ j) (hkj : k ≠ j) (hO : OpL own k w oa oc ops) (hx : wfI x) (hwf : ∀ p ∈ ops, wfI p.2.1) (hlim : vs.length + ops.length < 100000000) :
    Calls Try.prog 25 #[.pointer (some ⟨ph, 0, none⟩), .int .i64 x, .slice oa ops.length oc] w fun e w' => e = .returned (.int .i64 (redoE t x)) ∧ WrL own j w ph pm (redoV t x vs ops) w' :=
  (Redo_calls w pm bo bd t ph a c vs x ops oa oc (hH.hp hM hij) hx hO.ok hwf hlim (fun y hy => by
    rintro (e | ⟨z, hz, e⟩)
    · exact hkj (by rw [← hO.lb y hy, e]; exact hH.lp)
    · exact hkj (by rw [← hO.lb y hy, ← e]; exact (hH.la z hz).1))).mono fun _ _ ⟨he, h⟩ => ⟨he, h.wrl hH⟩
theorem infoOp : (Try.prog.info? 54).map (fun i => (i.zero, i.size, i.bytes)) = some (some (.agg #[.bool false, .int .i64 0, .string ByteArray.empty]), 3, 32) := by kernel_rfl
/-- What the first append to no ops leaves: they are k's. -/
theorem OpL.of_append {own : Nat → Nat} {w w1 : World} {o : Obj} {v : Value} {p : Bool × Rw} (k : Nat) (h : w1.ownsRow 0 54 3 v 1 (encO p)) (hg : (w.alloc o).grownBy w1 Option.none) (hb : ∀ b, v.ownBlock = some b → (w.alloc o).heap.size ≤ b) :
    ∃ a c, v = .slice a 1 c ∧ ∃ own', OpL own' k w1 a c [p] ∧ Stp 0 own own' w w1 := by
  obtain ⟨a, c, rfl⟩ := ownsRow_slice h
  have hz := (Gr.alloc w o).size
  have hbel : Below w.heap.size w w1 := (Gr.alloc w o).below.trans ⟨hg.os, hg.tape, hg.output, by have := hg.size; omega, fun b hb => hg.block b (by omega) (fun e => by cases e)⟩
  refine ⟨a, c, rfl, lab own w.heap.size k, ⟨by simpa [OpRow] using h, fun b hb' => lab_new ?_⟩, Below.stp hbel 0 own k⟩
  have := hb b.block (by rw [hb']; rfl)
  omega
end Go.Proofs.Ytannjecmfbhkeaa
