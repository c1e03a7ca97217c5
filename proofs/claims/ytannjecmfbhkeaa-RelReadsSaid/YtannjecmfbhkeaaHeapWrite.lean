/- What writes to a heap: bear, kill, Insert, Update, Delete; Get. -/
import Derived.Test.YtannjecmfbhkeaaHeapRead2
namespace Go.Proofs.Ytannjecmfbhkeaa
open Go Go.RowKit Go.Lib Go.Maps

/-- The blocks of a heap. -/
def hpB (ph : Nat) (a : Option Addr) (b : Nat) : Prop := b = ph ∨ ∃ x, a = some x ∧ x.block = b
/-- The heap holds vs' then; only its own blocks have been written. -/
def HS (w : World) (pm bo bd : Nat) (t : TS) (ph : Nat) (a : Option Addr) (vs' : List Vr) (w' : World) : Prop :=
  ∃ a' c', Hp w' pm bo bd t ph a' c' vs' ∧ Tc (hpB ph a) w w' ∧ ∀ b', a' = some b' → a = some b' ∨ w.heap.size ≤ b'.block
theorem HS.gr {w w1 w' : World} {pm bo bd : Nat} {t : TS} {ph : Nat} {a : Option Addr} {vs' : List Vr} (hg : Gr w w1) (h : HS w1 pm bo bd t ph a vs' w') : HS w pm bo bd t ph a vs' w' := by
  obtain ⟨a', c', h1, h2, h3⟩ := h
  exact ⟨a', c', h1, (hg.tc _).trans h2, fun b hb => (h3 b hb).imp id (fun h => Nat.le_trans hg.size h)⟩
theorem HS.same {w w' : World} {pm bo bd : Nat} {t : TS} {ph : Nat} {a : Option Addr} {c : Nat} {vs : List Vr} (hg : Gr w w') (h : Hp w pm bo bd t ph a c vs) : HS w pm bo bd t ph a vs w' :=
  ⟨a, c, h.gr hg, hg.tc _, fun _ hb => Or.inl hb⟩
theorem HS.trans {w w1 w2 : World} {pm bo bd : Nat} {t : TS} {ph : Nat} {a : Option Addr} {a1 : Option Addr} {vs2 : List Vr}
    (ht : Tc (hpB ph a) w w1) (ha : ∀ b', a1 = some b' → a = some b' ∨ w.heap.size ≤ b'.block) (h : HS w1 pm bo bd t ph a1 vs2 w2) : HS w pm bo bd t ph a vs2 w2 := by
  obtain ⟨a', c', h1, h2, h3⟩ := h
  refine ⟨a', c', h1, ?_, fun b hb => ?_⟩
  · refine ⟨h2.os.trans ht.os, h2.tape.trans ht.tape, h2.output.trans ht.output, Nat.le_trans ht.size h2.size, fun b hb hn => ?_⟩
    rw [h2.heap b (Nat.lt_of_lt_of_le hb ht.size) ?_, ht.heap b hb hn]
    rintro (rfl | ⟨y, hy, rfl⟩)
    · exact hn (Or.inl rfl)
    · rcases ha y hy with h | h
      · exact hn (Or.inr ⟨y, h, rfl⟩)
      · omega
  · rcases h3 b hb with h | h
    · exact ha b h
    · exact Or.inr (Nat.le_trans ht.size h)

theorem infoVer : (Try.prog.info? 90).map (fun i => (i.zero, i.size, i.bytes)) = some (some (.agg #[.int .i64 0, .string ByteArray.empty, .int .i64 0, .int .i64 0]), 4, 40) := by kernel_rfl
section
variable (w : World) (pm bo bd : Nat) (t : TS) (ph : Nat) (a : Option Addr) (c : Nat) (vs : List Vr) (v : Vw) (va : Option Addr) (vc : Nat)
/-- What a world is behind the append of bear, ahead of its store. -/
theorem bear_end {w1 : World} {A B : Obj} {v' : Value} {x : Int} {r : Rw} (hH : Hp w pm bo bd t ph a c vs) (hx : wfI x) (hr : wfI r.1) (hlim : vs.length < 100000000)
    (hown : w1.ownsRow 0 90 4 v' (vs.length + 1) (vs.flatMap encV ++ [.int .i64 r.1, .string r.2, .int .i64 x, .int .i64 0]))
    (hg : ((w.alloc A).alloc B).drew.grownBy w1 (Value.ownBlock (.slice a vs.length c)))
    (hbl : v'.ownBlock = Value.ownBlock (.slice a vs.length c) ∨ ∀ b, v'.ownBlock = some b → ((w.alloc A).alloc B).drew.heap.size ≤ b) :
    ∃ a' c', v' = .slice a' (vs.length + 1) c' ∧ w1.cell? ⟨ph, 1, none⟩ = some (.slice a vs.length c) ∧ w1.frozen? ⟨ph, 1, none⟩ = false ∧
      HS w pm bo bd t ph a (vs ++ [⟨r.1, r.2, x, 0⟩]) (w1.setCell ⟨ph, 1, none⟩ (.slice a' (vs.length + 1) c')) := by
  obtain ⟨a', c', rfl⟩ := ownsRow_slice hown
  have hG : Gr w ((w.alloc A).alloc B).drew := ((Gr.alloc w A).trans (Gr.alloc _ B)).trans (Gr.drew _)
  have hH1 := hH.gr hG
  have hlt : ∀ b, b < w.heap.size → b < ((w.alloc A).alloc B).drew.heap.size := fun b hb => Nat.lt_of_lt_of_le hb hG.size
  have hph := World.block_lt_of_cell? w ⟨ph, 0, none⟩ hH.h0
  simp only at hph
  have keep : ∀ b, b < w.heap.size → (∀ y, a = some y → y.block ≠ b) → w1.heap[b]? = w.heap[b]? := fun b hb hn =>
    (hg.block b (hlt b hb) (by
      cases a with
      | none => simp [Value.ownBlock]
      | some y => simp [Value.ownBlock]; exact fun e => hn y rfl e.symm)).trans (hG.heap hb)
  have kph := keep ph hph (fun y hy => (hH.apR y hy).1)
  have kpm := keep pm hH.M.lt.1 (fun y hy => (hH.apR y hy).2.1)
  have kbo := keep bo hH.M.lt.2.1 (fun y hy => (hH.apR y hy).2.2.1)
  have kbd := keep bd hH.M.lt.2.2 (fun y hy => (hH.apR y hy).2.2.2)
  have hle : w.heap.size ≤ w1.heap.size := Nat.le_trans hG.size hg.size
  -- where the row lies then
  have hnew : ∀ b', a' = some b' → a = some b' ∨ w.heap.size ≤ b'.block := by
    intro b' hb'
    subst hb'
    rcases hbl with h | h
    · left
      rcases hown.2 with ⟨h0, _⟩ | ⟨g, cap, cur, hv, _⟩
      · cases h0
      · cases hv
        rcases hH.row.2 with ⟨h0, _⟩ | ⟨g2, cap2, cur2, hv2, _⟩
        · rw [h0] at h; simp [Value.ownBlock] at h
        · rw [hv2] at h
          simp only [Value.ownBlock, Option.some.injEq] at h
          cases hv2; rw [h]
    · exact Or.inr (Nat.le_trans hG.size (h b'.block (by simp [Value.ownBlock])))
  have hne : ∀ b', a' = some b' → b'.block ≠ ph ∧ b'.block ≠ pm ∧ b'.block ≠ bo ∧ b'.block ≠ bd := by
    intro b' hb'
    rcases hnew b' hb' with h | h
    · exact hH.apR b' h
    · have h1 := hH.M.lt
      omega
  have T1 : Tc (hpB ph a) w w1 := (hG.tc _).trans (Tc.of_grown hg (fun b hb => by
    cases a with
    | none => simp [Value.ownBlock] at hb
    | some y => simp [Value.ownBlock] at hb; exact Or.inr ⟨y, rfl, hb⟩))
  refine ⟨a', c', rfl, (World.cell?_of_block kph).trans hH.h1, (World.frozen?_of_block kph).trans hH.f1, a', c', ?_, T1.setCell (p := ⟨ph, 1, none⟩) (Or.inl rfl) _, hnew⟩
  have sc : ∀ b, b ≠ ph → (w1.setCell ⟨ph, 1, none⟩ (.slice a' (vs.length + 1) c')).heap[b]? = w1.heap[b]? := fun b hb => Below.heap_setCell _ _ _ _ hb
  refine ⟨hH.M.heap ((sc pm hH.ap.1.symm).trans kpm) ((sc bo hH.ap.2.1.symm).trans kbo) ((sc bd hH.ap.2.2.symm).trans kbd), ?_, ?_, ?_, ?_, ?_, by simp; omega, hH.ap, hne⟩
  · rw [World.cell?_setCell_other _ _ _ _ (by simp)]; exact (World.cell?_of_block kph).trans hH.h0
  · rw [World.cell?_setCell_same' _ _ _ (by rw [(World.cell?_of_block kph).trans hH.h1]; rfl)]; simp
  · rw [World.frozen?_setCell]; exact (World.frozen?_of_block kph).trans hH.f1
  · unfold VerRow
    rw [List.length_append, List.flatMap_append]
    refine ownsRow_heap hown (fun b hb => sc b ?_)
    cases a' with
    | none => simp [Value.ownBlock] at hb
    | some y => simp [Value.ownBlock] at hb; subst hb; exact (hne y rfl).1
  · intro y hy
    rcases List.mem_append.1 hy with hy | hy
    · exact hH.wf y hy
    · simp at hy; subst hy; exact ⟨hr, hx, (by decide : wfI 0)⟩
set_option maxHeartbeats 1600000 in
theorem bear_calls (x : Int) (r : Rw) (hH : Hp w pm bo bd t ph a c vs) (hx : wfI x) (hr : wfI r.1) (hlim : vs.length < 100000000) :
    Calls Try.prog 42 #[.pointer (some ⟨ph, 0, none⟩), .int .i64 x, .agg (encR r).toArray] w fun e w' => e = .returned (.tuple #[]) ∧ HS w pm bo bd t ph a (vs ++ [⟨r.1, r.2, x, 0⟩]) w' := by
  obtain ⟨i0, hi, hz0, hz1, hz2⟩ := info_parts infoVer
  have h1 := hH.h1
  have f1 := hH.f1
  have hph := World.block_lt_of_cell? w ⟨ph, 0, none⟩ hH.h0
  simp only at hph
  have hp1 : ph < w.heap.size + 1 := by omega
  obtain ⟨key, text⟩ := r
  unfold encR
  have HE : Hid _ := fun (w1 : World) (A B : Obj) (v' : Value) => bear_end (w1 := w1) (A := A) (B := B) (v' := v') w pm bo bd t ph a c vs (x := x) (r := (key, text)) hH hx hr hlim
  have HR := Lib.hid hH.row
  clear hH
  go_enter Try.func42, Try.ntmps42
  go_wp2_with fail
  have hb1 : vs.length + 1 ≤ maxLen := by unfold maxLen; omega
  have hb2 : (vs.length + 1) * 40 ≤ 140737488355328 := by omega
  have hcell : ∀ u ∈ [Value.int .i64 key, .string text, .int .i64 x, .int .i64 0], u.oneCell' = true := by intro u hu; simp at hu; rcases hu with rfl | rfl | rfl | rfl <;> rfl
  have HC := Lib.hid hcell
  clear hcell
  go_region_law (refine step_append_own rfl (.tmp 10) (.tmp 14) 79 rfl 90 i0 _ 4 40 Try.underlying79 hi hz0 hz1 hz2 rfl (by decide) _ vs.length (vs.flatMap encV) rfl (by exact (HR.out.alloc _).alloc _) ⟨w.heap.size + 1, 0, none⟩ 1 1 [.int .i64 key, .string text, .int .i64 x, .int .i64 0] rfl rfl (by exact newCells2) HC.out hb1 hb2 ?_; intro v' w1 hown hgr hbl; obtain ⟨a', c', rfl, k1, k2, hs⟩ := HE.out w1 _ _ v' hown hgr hbl; have HX := Lib.hid hs; clear hs hown hgr hbl)
  all_goals (go_wp2; go_end0; exact ⟨rfl, HX.out⟩)
/-- The heap after version i has died by o. -/
theorem HS_died {W w' : World} {i : Nat} {o : Int} {g : Nat} (hH : Hp W pm bo bd t ph (some ⟨g, 0, none⟩) c vs) (ho : wfI o) (hW : Gr w W) (hw : W.drew.setCell ⟨g, i * 4 + 3, none⟩ (.int .i64 o) = w') :
    HS w pm bo bd t ph (some ⟨g, 0, none⟩) (setD vs i o) w' := by
  subst hw
  have ap := hH.apR _ rfl
  simp only at ap
  have hD := hH.gr (Gr.drew W)
  have sc : ∀ b, b ≠ g → (W.drew.setCell ⟨g, i * 4 + 3, none⟩ (.int .i64 o)).heap[b]? = W.drew.heap[b]? := fun b hb => Below.heap_setCell _ _ _ _ hb
  refine ⟨some ⟨g, 0, none⟩, c, ?_, ((hW.trans (Gr.drew W)).tc _).setCell (p := ⟨g, i * 4 + 3, none⟩) (Or.inr ⟨_, rfl, rfl⟩) _, fun b hb => Or.inl hb⟩
  refine ⟨hD.M.heap (sc pm ap.2.1.symm) (sc bo ap.2.2.1.symm) (sc bd ap.2.2.2.symm), ?_, ?_, ?_, ?_, ?_, by rw [length_setD]; exact hH.lim, hH.ap, hH.apR⟩
  · exact (World.cell?_of_block (a := ⟨ph, 0, none⟩) (sc ph ap.1.symm)).trans hD.h0
  · rw [length_setD]; exact (World.cell?_of_block (a := ⟨ph, 1, none⟩) (sc ph ap.1.symm)).trans hD.h1
  · exact (World.frozen?_of_block (a := ⟨ph, 1, none⟩) (sc ph ap.1.symm)).trans hD.f1
  · unfold VerRow
    rw [length_setD, flat_setD]
    exact ownsRow_set hD.row _ _
  · intro y hy
    rcases setD_mem hy with h | ⟨z, hz, rfl⟩
    · exact hH.wf y h
    · exact ⟨(hH.wf z hz).1, (hH.wf z hz).2.1, ho⟩
set_option maxHeartbeats 3200000 in
theorem kill_calls (key : Int) (hH : Hp w pm bo bd t ph a c vs) (hv : VwOk w v va vc) (ho : wfI v.own) :
    Calls Try.prog 51 #[.pointer (some ⟨ph, 0, none⟩), vwV v va vc, .int .i64 key] w fun e w' => e = .returned (.int .i64 (killE t v vs key)) ∧ HS w pm bo bd t ph a (killV t v vs key) w' := by
  have mixed : Try.prog.follows .mixedOrders = true := by kernel_rfl
  have hR : ∀ W, Gr w W → Calls Try.prog 37 #[.pointer (some ⟨ph, 0, none⟩), vwV v va vc] W fun e w' => e = .returned (.int .i64 (readyE t v.own)) ∧ Gr W w' :=
    fun W hg => ready_calls W pm bo bd t ph a c vs v va vc (hH.gr hg) ho
  have hF : ∀ W, Gr w W → Calls Try.prog 38 #[.pointer (some ⟨ph, 0, none⟩), vwV v va vc, .int .i64 key] W fun e w' => e = .returned (.int .i64 (findI t v vs key)) ∧ Gr W w' :=
    fun W hg => find_calls W pm bo bd t ph a c vs v va vc key (hH.gr hg) (hv.gr hg)
  have HH := Lib.hid hH
  have HO := Lib.hid ho
  by_cases hr : stOf t v.own = 1
  · have er : readyE t v.own = 0 := by simp [readyE, hr]
    rw [er] at hR
    have HR := Lib.hid hR
    clear hR er
    rcases idxI_cases (fun x => decide (x.key = key) && visB t v x) vs with ⟨h1, _⟩ | ⟨i, x, h1, h2, _, _⟩
    · have e1 : findI t v vs key = -1 := h1
      have E : Hid (killE t v vs key = 4) := by
        show _ = _
        unfold killE
        rw [if_pos hr, e1]
        cases vs[(-1 : Int).toNat]? <;> simp
      have E2 : Hid (killV t v vs key = vs) := by show _ = _; unfold killV; rw [E.out]; rfl
      rw [e1] at hF
      have HF := Lib.hid hF
      clear hF e1 h1 hH hv ho hr
      go_enter Try.func51, Try.ntmps51
      go_wp2_with fail
      refine (HR.out _ (Gr.alloc _ _)).mono ?_
      rintro e w1 ⟨rfl, hg⟩
      have b0 := hg.cell (a := ⟨w.heap.size, 0, none⟩) (v := .int .i64 v.max) (by simp [go_sem])
      have b1 := hg.cell (a := ⟨w.heap.size, 1, none⟩) (v := .slice va v.opn.length vc) (by simp [go_sem])
      have b2 := hg.cell (a := ⟨w.heap.size, 2, none⟩) (v := .int .i64 v.own) (by simp [go_sem])
      have G := Lib.hid ((Gr.alloc _ _).trans hg)
      clear hg
      go_wp2_with (go_at_call 38; refine (HF.out _ G.out).mono ?_; rintro e w2 ⟨rfl, hg⟩)
      go_ret
      rw [E.out, E2.out]
      exact ⟨rfl, HS.same (G.out.trans hg) HH.out⟩
    · have e1 : findI t v vs key = i := h1
      have hi : i < vs.length := (List.getElem?_eq_some_iff.1 h2).1
      have hK : killE t v vs key = if othersB t v.own x.died then 6 else 0 := by
        unfold killE
        rw [if_pos hr, e1, show ((i : Int)).toNat = i from by omega, h2]
        simp only
        rw [if_neg (by omega)]
      rw [e1] at hF
      have HF := Lib.hid hF
      have hoc : ∀ W, Gr w W → Calls Try.prog 50 #[.pointer (some ⟨ph, 0, none⟩), vwV v va vc, .int .i64 x.died] W fun e w' => e = .returned (.bool (othersB t v.own x.died)) ∧ Gr W w' :=
        fun W hg => others_calls W pm bo bd t ph a c vs v va vc x.died (hH.gr hg) (hH.wf x (List.mem_of_getElem? h2)).2.2
      have HK := Lib.hid hK
      have HE1 := Lib.hid e1
      have HX := Lib.hid h2
      have hiz : (i : Int) < (vs.length : Int) := by omega
      obtain ⟨g, rfl, _⟩ := hH.row.at h2
      clear hF h1 hv ho hr hK h2
      clear hH
      cases hq : othersB t v.own x.died
      all_goals rw [hq] at hoc
      all_goals have HQ := Lib.hid hoc
      all_goals have EQ := Lib.hid hq
      all_goals clear hoc hq e1 hi
      all_goals
        go_enter Try.func51, Try.ntmps51
        go_wp2_with fail
        refine (HR.out _ (Gr.alloc _ _)).mono ?_
        rintro e w1 ⟨rfl, hg⟩
        have b0 := hg.cell (a := ⟨w.heap.size, 0, none⟩) (v := .int .i64 v.max) (by simp [go_sem])
        have b1 := hg.cell (a := ⟨w.heap.size, 1, none⟩) (v := .slice va v.opn.length vc) (by simp [go_sem])
        have b2 := hg.cell (a := ⟨w.heap.size, 2, none⟩) (v := .int .i64 v.own) (by simp [go_sem])
        have G := Lib.hid ((Gr.alloc _ _).trans hg)
        clear hg
        go_wp2_with (go_at_call 38; refine (HF.out _ G.out).mono ?_; rintro e w2 ⟨rfl, hg⟩; have B0 := hg.cell b0; have B1 := hg.cell b1; have B2 := hg.cell b2; have G2 := Lib.hid (G.out.trans hg); clear hg b0 b1 b2)
        have g0 := fun n os => (Gr.grow w2 n os).cell B0
        have g1 := fun n os => (Gr.grow w2 n os).cell B1
        have g2 := fun n os => (Gr.grow w2 n os).cell B2
        have hH2 := HH.out.gr G2.out
        have g3 := fun n os => (Gr.grow w2 n os).cell hH2.h1
        obtain ⟨g', hg', d0, d1, d2, d3⟩ := hH2.row.at HX.out
        obtain rfl : g = g' := by simpa using hg'
        have g4 := fun n os => (Gr.grow w2 n os).cell d3
        clear hg' d0 d1 d2 d3 hH2
        (refine wp_region_quiet_grown mixed (by kernel_rfl) ?_; (repeat (first | go_big_quiet_step (first | (go_at_call 50; refine Calls.grown_of_gr (HQ.out _ (by exact G2.out.trans (Gr.grow _ _ _))))) | quiet_step (first | (go_at_call 50; refine Calls.grown_of_gr (HQ.out _ (by exact G2.out.trans (Gr.grow _ _ _))))))); refine wpQuiet_nil ?_; intro _ hw'; obtain ⟨⟨nq, osq⟩, hw''⟩ := hw'; subst hw'')
        generalize hW : Sort.grow (w2.drewN nq) osq = W3
        have G3 : Hid (Gr w W3) := by subst hW; exact G2.out.trans (Gr.grow _ _ _)
        have hH3 := HH.out.gr G3.out
        have H3 := Lib.hid hH3
        have k0 := hH3.h1
        have k1 : W3.cell? ⟨w.heap.size, 2, none⟩ = some (.int .i64 v.own) := by subst hW; exact g2 _ _
        obtain ⟨g', hg', e0, e1, e2, e3⟩ := hH3.row.at HX.out
        obtain rfl : g = g' := by simpa using hg'
        have k2 := ownsRow_frozen hH3.row (i * 4 + 3)
        clear hg' hW g0 g1 g2 g3 g4 B0 B1 B2 hH3 e0 e1 e2
      · go_wp2_with fail
        go_region
        all_goals go_wp2
        all_goals go_ret
        all_goals
          have hE : killE t v vs key = 0 := by rw [HK.out, EQ.out]; rfl
          rw [hE]
          unfold killV
          rw [if_pos hE, HE1.out, show ((i : Int)).toNat = i from by omega]
          exact ⟨rfl, HS_died w pm bo bd t ph c vs H3.out HO.out G3.out rfl⟩
      · go_wp2
        go_ret
        have hE : killE t v vs key = 6 := by rw [HK.out, EQ.out]; rfl
        rw [hE]
        unfold killV
        rw [hE]
        exact ⟨rfl, HS.same G3.out HH.out⟩
  · have er : readyE t v.own = 7 := by simp [readyE, hr]
    have E : Hid (killE t v vs key = 7) := by show _ = _; simp [killE, hr]
    have E2 : Hid (killV t v vs key = vs) := by show _ = _; simp [killV, killE, hr]
    rw [er] at hR
    have HR := Lib.hid hR
    clear hR er hr hF hH hv ho
    go_enter Try.func51, Try.ntmps51
    go_wp2_with (go_at_call 37; refine (HR.out _ (by exact Gr.alloc _ _)).mono ?_; rintro e w1 ⟨rfl, hg⟩)
    go_ret
    rw [E.out, E2.out]
    exact ⟨rfl, HS.same ((Gr.alloc _ _).trans hg) HH.out⟩

set_option maxHeartbeats 3200000 in
theorem Insert_calls (r : Rw) (hH : Hp w pm bo bd t ph a c vs) (hv : VwOk w v va vc) (ho : wfI v.own) (hr1 : wfI r.1) (hlim : vs.length < 100000000) :
    Calls Try.prog 16 #[.pointer (some ⟨ph, 0, none⟩), vwV v va vc, .agg (encR r).toArray] w fun e w' => e = .returned (.int .i64 (insE t v vs r.1)) ∧ HS w pm bo bd t ph a (insV t v vs r) w' := by
  have hmf : ∀ (fn : Fn) (first cap : Array Value) (w : World), (Instr.makeFunc fn first cap).run Try.prog w = .ok (.func fn first cap) w := fun _ _ _ _ => rfl
  have eg := enters_of Try.func40 (by kernel_rfl) rfl
  have hR : ∀ W, Gr w W → Calls Try.prog 37 #[.pointer (some ⟨ph, 0, none⟩), vwV v va vc] W fun e w' => e = .returned (.int .i64 (readyE t v.own)) ∧ Gr W w' :=
    fun W hg => ready_calls W pm bo bd t ph a c vs v va vc (hH.gr hg) ho
  have hF : ∀ W, Gr w W → Calls Try.prog 38 #[.pointer (some ⟨ph, 0, none⟩), vwV v va vc, .int .i64 r.1] W fun e w' => e = .returned (.int .i64 (findI t v vs r.1)) ∧ Gr W w' :=
    fun W hg => find_calls W pm bo bd t ph a c vs v va vc r.1 (hH.gr hg) (hv.gr hg)
  have hC : ∀ W, Gr w W → Box W (w.heap.size + 1 + 1) w.heap.size (w.heap.size + 1) r.1 ph v va vc →
      Calls Try.prog 39 #[.slice a vs.length c, .func (.func 40) #[] #[.pointer (some ⟨w.heap.size + 1 + 1, 0, none⟩), .pointer (some ⟨w.heap.size, 0, none⟩), .pointer (some ⟨w.heap.size + 1, 0, none⟩)]] W
        fun e w' => e = .returned (.bool (vs.any (fun x => decide (x.key = r.1) && blocksB t v.own x))) ∧ Gr W w' :=
    fun W hg hB => ContainsV_calls W a c vs _ 40 _ eg (hH.gr hg).row (by have := hH.lim; omega) (fun W2 x hg2 hx => Insert1_calls W2 pm bo bd t ph a c vs v va vc r.1 _ _ _ x (hH.gr (hg.trans hg2)) (hB.gr hg2) (hH.wf x hx).2.1 (hH.wf x hx).2.2)
  have hBr : ∀ W, Gr w W → Calls Try.prog 42 #[.pointer (some ⟨ph, 0, none⟩), .int .i64 v.own, .agg (encR r).toArray] W fun e w' => e = .returned (.tuple #[]) ∧ HS W pm bo bd t ph a (vs ++ [⟨r.1, r.2, v.own, 0⟩]) w' :=
    fun W hg => bear_calls W pm bo bd t ph a c vs v.own r (hH.gr hg) ho hr1 hlim
  have HH := Lib.hid hH
  have HF0 := Lib.hid hF
  have HC0 := Lib.hid hC
  have HB := Lib.hid hBr
  obtain ⟨key, text⟩ := r
  unfold encR at HB ⊢
  by_cases hr : stOf t v.own = 1
  · have er : readyE t v.own = 0 := by simp [readyE, hr]
    rw [er] at hR
    have HR := Lib.hid hR
    clear hR er hF hC hBr hH hv ho hlim
    by_cases hf : 0 ≤ findI t v vs key
    · have E : Hid (insE t v vs key = 5) := by show _ = _; unfold insE; rw [if_pos hr, if_pos hf]
      have E2 : Hid (insV t v vs (key, text) = vs) := by show _ = _; unfold insV; rw [E.out]; rfl
      clear hr
      go_enter Try.func16, Try.ntmps16
      go_wp2_with fail
      refine (HR.out _ (((Gr.alloc _ _).trans (Gr.alloc _ _)).trans (Gr.alloc _ _))).mono ?_
      rintro e w1 ⟨rfl, hg⟩
      have c0 := hg.cell (a := ⟨w.heap.size, 0, none⟩) (v := .pointer (some ⟨ph, 0, none⟩)) (by simp [go_sem])
      have b0 := hg.cell (a := ⟨w.heap.size + 1, 0, none⟩) (v := .int .i64 v.max) (by simp [go_sem])
      have b1 := hg.cell (a := ⟨w.heap.size + 1, 1, none⟩) (v := .slice va v.opn.length vc) (by simp [go_sem])
      have b2 := hg.cell (a := ⟨w.heap.size + 1, 2, none⟩) (v := .int .i64 v.own) (by simp [go_sem])
      have b3 := hg.cell (a := ⟨w.heap.size + 1 + 1, 0, none⟩) (v := .int .i64 key) (by simp [go_sem])
      have G := Lib.hid ((((Gr.alloc _ _).trans (Gr.alloc _ _)).trans (Gr.alloc _ _)).trans hg)
      clear hg
      go_wp2_with (go_at_call 38; refine (HF0.out _ G.out).mono ?_; rintro e w2 ⟨rfl, hg⟩)
      go_ret
      rw [E.out, E2.out]
      exact ⟨rfl, HS.same (G.out.trans hg) HH.out⟩
    · cases hq : vs.any (fun x => decide (x.key = key) && blocksB t v.own x)
      · have E : Hid (insE t v vs key = 0) := by show _ = _; unfold insE; rw [if_pos hr, if_neg hf, hq]; rfl
        have E2 : Hid (insV t v vs (key, text) = vs ++ [⟨key, text, v.own, 0⟩]) := by show _ = _; unfold insV; rw [E.out]; rfl
        have HC : Hid _ := fun W hg hB => by have := HC0.out W hg hB; rw [hq] at this; exact this
        clear hr hq HC0
        go_enter Try.func16, Try.ntmps16
        go_wp2_with fail
        refine (HR.out _ (((Gr.alloc _ _).trans (Gr.alloc _ _)).trans (Gr.alloc _ _))).mono ?_
        rintro e w1 ⟨rfl, hg⟩
        have c0 := hg.cell (a := ⟨w.heap.size, 0, none⟩) (v := .pointer (some ⟨ph, 0, none⟩)) (by simp [go_sem])
        have b0 := hg.cell (a := ⟨w.heap.size + 1, 0, none⟩) (v := .int .i64 v.max) (by simp [go_sem])
        have b1 := hg.cell (a := ⟨w.heap.size + 1, 1, none⟩) (v := .slice va v.opn.length vc) (by simp [go_sem])
        have b2 := hg.cell (a := ⟨w.heap.size + 1, 2, none⟩) (v := .int .i64 v.own) (by simp [go_sem])
        have b3 := hg.cell (a := ⟨w.heap.size + 1 + 1, 0, none⟩) (v := .int .i64 key) (by simp [go_sem])
        have b4 := hg.cell (a := ⟨w.heap.size + 1 + 1, 1, none⟩) (v := .string text) (by simp [go_sem])
        have G := Lib.hid ((((Gr.alloc _ _).trans (Gr.alloc _ _)).trans (Gr.alloc _ _)).trans hg)
        clear hg
        go_wp2_with fail
        refine (HF0.out _ G.out).mono ?_
        rintro e w2 ⟨rfl, hg⟩
        have c0' := hg.cell c0
        have b0' := hg.cell b0
        have b1' := hg.cell b1
        have b2' := hg.cell b2
        have b3' := hg.cell b3
        have b4' := hg.cell b4
        have G2 := Lib.hid (G.out.trans hg)
        have h1 := (HH.out.gr G2.out).h1
        clear hg c0 b0 b1 b2 b3 b4
        go_wp2_with fail
        refine (HC.out _ G2.out ⟨b3', c0', b0', b1', b2'⟩).mono ?_
        rintro e w3 ⟨rfl, hg⟩
        have c0 := hg.cell c0'
        have b2 := hg.cell b2'
        have b3 := hg.cell b3'
        have b4 := hg.cell b4'
        have G3 := Lib.hid (G2.out.trans hg)
        clear hg c0' b0' b1' b2' b3' b4' h1
        go_wp2_with (go_at_call 42; refine (HB.out _ G3.out).mono ?_; rintro e w4 ⟨rfl, hs⟩)
        go_ret
        rw [E.out, E2.out]
        exact ⟨rfl, hs.gr G3.out⟩
      · have E : Hid (insE t v vs key = 6) := by show _ = _; unfold insE; rw [if_pos hr, if_neg hf, hq]; rfl
        have E2 : Hid (insV t v vs (key, text) = vs) := by show _ = _; unfold insV; rw [E.out]; rfl
        have HC : Hid _ := fun W hg hB => by have := HC0.out W hg hB; rw [hq] at this; exact this
        clear hr hq HC0
        go_enter Try.func16, Try.ntmps16
        go_wp2_with fail
        refine (HR.out _ (((Gr.alloc _ _).trans (Gr.alloc _ _)).trans (Gr.alloc _ _))).mono ?_
        rintro e w1 ⟨rfl, hg⟩
        have c0 := hg.cell (a := ⟨w.heap.size, 0, none⟩) (v := .pointer (some ⟨ph, 0, none⟩)) (by simp [go_sem])
        have b0 := hg.cell (a := ⟨w.heap.size + 1, 0, none⟩) (v := .int .i64 v.max) (by simp [go_sem])
        have b1 := hg.cell (a := ⟨w.heap.size + 1, 1, none⟩) (v := .slice va v.opn.length vc) (by simp [go_sem])
        have b2 := hg.cell (a := ⟨w.heap.size + 1, 2, none⟩) (v := .int .i64 v.own) (by simp [go_sem])
        have b3 := hg.cell (a := ⟨w.heap.size + 1 + 1, 0, none⟩) (v := .int .i64 key) (by simp [go_sem])
        have G := Lib.hid ((((Gr.alloc _ _).trans (Gr.alloc _ _)).trans (Gr.alloc _ _)).trans hg)
        clear hg
        go_wp2_with fail
        refine (HF0.out _ G.out).mono ?_
        rintro e w2 ⟨rfl, hg⟩
        have c0' := hg.cell c0
        have b0' := hg.cell b0
        have b1' := hg.cell b1
        have b2' := hg.cell b2
        have b3' := hg.cell b3
        have G2 := Lib.hid (G.out.trans hg)
        have h1 := (HH.out.gr G2.out).h1
        clear hg c0 b0 b1 b2 b3
        go_wp2_with fail
        refine (HC.out _ G2.out ⟨b3', c0', b0', b1', b2'⟩).mono ?_
        rintro e w3 ⟨rfl, hg⟩
        have G3 := Lib.hid (G2.out.trans hg)
        clear hg
        go_wp2
        go_ret
        rw [E.out, E2.out]
        exact ⟨rfl, HS.same G3.out HH.out⟩
  · have er : readyE t v.own = 7 := by simp [readyE, hr]
    have E : Hid (insE t v vs key = 7) := by show _ = _; simp [insE, hr]
    have E2 : Hid (insV t v vs (key, text) = vs) := by show _ = _; simp [insV, insE, hr]
    rw [er] at hR
    have HR := Lib.hid hR
    clear hR er hr hF hC hBr hH hv ho
    go_enter Try.func16, Try.ntmps16
    go_wp2_with (go_at_call 37; refine (HR.out _ (by exact ((Gr.alloc _ _).trans (Gr.alloc _ _)).trans (Gr.alloc _ _))).mono ?_; rintro e w1 ⟨rfl, hg⟩)
    go_ret
    rw [E.out, E2.out]
    exact ⟨rfl, HS.same ((((Gr.alloc _ _).trans (Gr.alloc _ _)).trans (Gr.alloc _ _)).trans hg) HH.out⟩

set_option maxHeartbeats 1600000 in
theorem Delete_calls (key : Int) (hH : Hp w pm bo bd t ph a c vs) (hv : VwOk w v va vc) (ho : wfI v.own) :
    Calls Try.prog 23 #[.pointer (some ⟨ph, 0, none⟩), vwV v va vc, .int .i64 key] w fun e w' => e = .returned (.int .i64 (killE t v vs key)) ∧ HS w pm bo bd t ph a (killV t v vs key) w' := by
  have hK : ∀ W, Gr w W → Calls Try.prog 51 #[.pointer (some ⟨ph, 0, none⟩), vwV v va vc, .int .i64 key] W fun e w' => e = .returned (.int .i64 (killE t v vs key)) ∧ HS W pm bo bd t ph a (killV t v vs key) w' :=
    fun W hg => kill_calls W pm bo bd t ph a c vs v va vc key (hH.gr hg) (hv.gr hg) ho
  have HK := Lib.hid hK
  clear hK hH hv ho
  go_enter Try.func23, Try.ntmps23
  go_wp2_with (go_at_call 51; refine (HK.out _ (by exact Gr.alloc _ _)).mono ?_; rintro e w1 ⟨rfl, hs⟩)
  go_ret
  exact ⟨rfl, hs.gr (Gr.alloc _ _)⟩

theorem Tc_cell {S : Nat → Prop} {w w' : World} (h : Tc S w w') {ad : Addr} {u : Value} (hc : w.cell? ad = some u) (hn : ¬ S ad.block) : w'.cell? ad = some u :=
  (World.cell?_of_block (h.heap _ (World.block_lt_of_cell? w ad hc) hn)).trans hc
theorem hpB_not {w : World} {pm bo bd : Nat} {t : TS} {ph : Nat} {a : Option Addr} {c : Nat} {vs : List Vr} (hH : Hp w pm bo bd t ph a c vs) {b : Nat} (hb : w.heap.size ≤ b) : ¬ hpB ph a b := by
  have h1 := World.block_lt_of_cell? w ⟨ph, 0, none⟩ hH.h0
  simp only at h1
  rintro (rfl | ⟨y, rfl, rfl⟩)
  · omega
  · have := (hH.row.lt y.block (by simp [Value.ownBlock])).2
    omega
set_option maxHeartbeats 3200000 in
theorem Update_calls (r : Rw) (hH : Hp w pm bo bd t ph a c vs) (hv : VwOk w v va vc) (ho : wfI v.own) (hr1 : wfI r.1) (hlim : vs.length < 100000000) :
    Calls Try.prog 22 #[.pointer (some ⟨ph, 0, none⟩), vwV v va vc, .agg (encR r).toArray] w fun e w' => e = .returned (.int .i64 (killE t v vs r.1)) ∧ HS w pm bo bd t ph a (updV t v vs r) w' := by
  have hK : ∀ W, Gr w W → Calls Try.prog 51 #[.pointer (some ⟨ph, 0, none⟩), vwV v va vc, .int .i64 r.1] W fun e w' => e = .returned (.int .i64 (killE t v vs r.1)) ∧ HS W pm bo bd t ph a (killV t v vs r.1) w' :=
    fun W hg => kill_calls W pm bo bd t ph a c vs v va vc r.1 (hH.gr hg) (hv.gr hg) ho
  have hB : ∀ W a' c', Hp W pm bo bd t ph a' c' (killV t v vs r.1) → Calls Try.prog 42 #[.pointer (some ⟨ph, 0, none⟩), .int .i64 v.own, .agg (encR r).toArray] W fun e w' => e = .returned (.tuple #[]) ∧ HS W pm bo bd t ph a' (killV t v vs r.1 ++ [⟨r.1, r.2, v.own, 0⟩]) w' :=
    fun W a' c' hg => bear_calls W pm bo bd t ph a' c' (killV t v vs r.1) v.own r hg ho hr1 (by rw [length_killV]; exact hlim)
  have HH := Lib.hid hH
  have HB := Lib.hid hB
  have hn : ∀ b, w.heap.size ≤ b → ¬ hpB ph a b := fun b hb => hpB_not hH hb
  have HN := Lib.hid hn
  obtain ⟨key, text⟩ := r
  unfold encR at HB ⊢
  by_cases hk : killE t v vs key = 0
  · have E : Hid (killE t v vs key = 0) := hk
    have E2 : Hid (updV t v vs (key, text) = killV t v vs key ++ [⟨key, text, v.own, 0⟩]) := by show _ = _; unfold updV; rw [E.out]; rfl
    simp only [hk] at hK
    have HK := Lib.hid hK
    clear hk hK hB hH hv ho hlim hn
    go_enter Try.func22, Try.ntmps22
    go_wp2_with fail
    refine (HK.out _ ((Gr.alloc _ _).trans (Gr.alloc _ _))).mono ?_
    rintro e w1 ⟨rfl, a1, c1, hH1, ht1, ha1⟩
    have b0 := Tc_cell ht1 (ad := ⟨w.heap.size, 0, none⟩) (u := .int .i64 v.max) (by simp [go_sem]) (HN.out _ (by simp))
    have b1 := Tc_cell ht1 (ad := ⟨w.heap.size, 1, none⟩) (u := .slice va v.opn.length vc) (by simp [go_sem]) (HN.out _ (by simp))
    have b2 := Tc_cell ht1 (ad := ⟨w.heap.size, 2, none⟩) (u := .int .i64 v.own) (by simp [go_sem]) (HN.out _ (by simp))
    have b3 := Tc_cell ht1 (ad := ⟨w.heap.size + 1, 0, none⟩) (u := .int .i64 key) (by simp [go_sem]) (HN.out _ (by simp))
    have b4 := Tc_cell ht1 (ad := ⟨w.heap.size + 1, 1, none⟩) (u := .string text) (by simp [go_sem]) (HN.out _ (by simp))
    have H1 := Lib.hid hH1
    have T1 := Lib.hid ht1
    have A1 := Lib.hid ha1
    clear hH1 ht1 ha1
    go_wp2_with (go_at_call 42; refine (HB.out _ _ _ H1.out).mono ?_; rintro e w2 ⟨rfl, hs⟩)
    go_ret
    rw [E.out, E2.out]
    exact ⟨rfl, (HS.trans T1.out A1.out hs).gr ((Gr.alloc _ _).trans (Gr.alloc _ _))⟩
  · have E2 : Hid (updV t v vs (key, text) = vs) := by show _ = _; unfold updV; rw [if_neg hk]
    have E3 : Hid (killV t v vs key = vs) := by show _ = _; unfold killV; rw [if_neg hk]
    have hk' : (killE t v vs key == 0) = false := by simpa using hk
    have HK := Lib.hid hK
    clear hk hK hB hH hv ho hn
    go_enter Try.func22, Try.ntmps22
    go_wp2_with (go_at_call 51; refine (HK.out _ (by exact (Gr.alloc _ _).trans (Gr.alloc _ _))).mono ?_; rintro e w1 ⟨rfl, hs⟩)
    go_ret
    rw [E2.out]
    have h2 := hs
    simp only [E3.out] at h2
    exact ⟨rfl, h2.gr ((Gr.alloc _ _).trans (Gr.alloc _ _))⟩

/-- A row that may be there, as Get's two results. -/
def getV : Option Rw → Value
  | some r => .tuple #[.agg (encR r).toArray, .bool true]
  | none => .tuple #[.agg #[.int .i64 0, .string ⟨#[]⟩], .bool false]
set_option maxHeartbeats 3200000 in
theorem HGet_calls (key : Int) (hH : Hp w pm bo bd t ph a c vs) (hv : VwOk w v va vc) :
    Calls Try.prog 26 #[.pointer (some ⟨ph, 0, none⟩), vwV v va vc, .int .i64 key] w fun e w' => e = .returned (getV (getR t v vs key)) ∧ Gr w w' := by
  have hN : ∀ W, Gr w W → Calls Try.prog 44 #[.pointer (some ⟨ph, 0, none⟩)] W fun e w' => e = .returned (.bool false) ∧ W = w' :=
    fun W hg => none_calls W pm bo bd t ph a c vs (hH.gr hg)
  have hF : ∀ W, Gr w W → Calls Try.prog 38 #[.pointer (some ⟨ph, 0, none⟩), vwV v va vc, .int .i64 key] W fun e w' => e = .returned (.int .i64 (findI t v vs key)) ∧ Gr W w' :=
    fun W hg => find_calls W pm bo bd t ph a c vs v va vc key (hH.gr hg) (hv.gr hg)
  have HH := Lib.hid hH
  have HN := Lib.hid hN
  rcases idxI_cases (fun x => decide (x.key = key) && visB t v x) vs with ⟨h1, h2⟩ | ⟨i, x, h1, h2, h3, h4⟩
  · have e1 : findI t v vs key = -1 := h1
    have E : Hid (getR t v vs key = none) := by
      show _ = _
      unfold getR
      rw [List.find?_eq_none.2 (fun x hx => by rw [h2 x hx]; decide)]; rfl
    rw [e1] at hF
    have HF := Lib.hid hF
    clear hF e1 h1 h2 hH hv hN
    go_enter Try.func26, Try.ntmps26
    go_wp2_with (first
      | (go_at_call 44; refine (HN.out _ (by exact (Gr.alloc _ _).trans (Gr.alloc _ _))).mono ?_; rintro e w' ⟨rfl, rfl⟩)
      | (go_at_call 38; refine (HF.out _ (by exact (Gr.alloc _ _).trans (Gr.alloc _ _))).mono ?_; rintro e w2 ⟨rfl, hg⟩; have r0 := hg.cell (a := ⟨w.heap.size + 1, 0, none⟩) (v := .int .i64 0) (by simp [go_sem]); have r1 := hg.cell (a := ⟨w.heap.size + 1, 1, none⟩) (v := .string ⟨#[]⟩) (by simp [go_sem]); have f0 := hg.frozen (a := ⟨w.heap.size + 1, 0, none⟩) (v := .int .i64 0) (by simp [go_sem]) (by simp [go_sem]); have f1 := hg.frozen (a := ⟨w.heap.size + 1, 1, none⟩) (v := .string ⟨#[]⟩) (by simp [go_sem]) (by simp [go_sem]); have HG := Lib.hid hg; clear hg))
    refine bodyPost_ret (v := .tuple #[.agg #[.int .i64 0, .string ⟨#[]⟩], .bool false]) ?_ rfl ?_
    · simp [results, Try.results26, go_sem, r0, r1]
    · rw [E.out]
      exact ⟨rfl, ((((Gr.alloc _ _).trans (Gr.alloc _ _)).trans HG.out).setCell (by simp) _).setCell (by simp) _⟩
  · have e1 : findI t v vs key = i := h1
    have E : Hid (getR t v vs key = some (x.key, x.text)) := by
      show _ = _
      unfold getR
      have hf : vs.find? (fun x => decide (x.key = key) && visB t v x) = some x := List.find?_eq_some_iff_getElem.2 ⟨h3, i, (List.getElem?_eq_some_iff.1 h2).1, (List.getElem?_eq_some_iff.1 h2).2, fun j hj => by
        have hjl : j < vs.length := Nat.lt_trans hj (List.getElem?_eq_some_iff.1 h2).1
        have := h4 j vs[j] hj (List.getElem?_eq_getElem hjl)
        rw [this]; rfl⟩
      rw [hf]; rfl
    have hiz : (i : Int) < (vs.length : Int) := by have := (List.getElem?_eq_some_iff.1 h2).1; omega
    rw [e1] at hF
    have HF := Lib.hid hF
    have HX := Lib.hid h2
    clear hF e1 h1 h2 h3 h4 hH hv hN
    obtain ⟨xk, xt, xb, xd⟩ := x
    go_enter Try.func26, Try.ntmps26
    go_wp2_with (go_at_call 44; refine (HN.out _ (by exact (Gr.alloc _ _).trans (Gr.alloc _ _))).mono ?_; rintro e w' ⟨rfl, rfl⟩)
    refine (HF.out _ ((Gr.alloc _ _).trans (Gr.alloc _ _))).mono ?_
    rintro e w2 ⟨rfl, hg⟩
    have r0 := hg.cell (a := ⟨w.heap.size + 1, 0, none⟩) (v := .int .i64 0) (by simp [go_sem])
    have r1 := hg.cell (a := ⟨w.heap.size + 1, 1, none⟩) (v := .string ⟨#[]⟩) (by simp [go_sem])
    have f0 := hg.frozen (a := ⟨w.heap.size + 1, 0, none⟩) (v := .int .i64 0) (by simp [go_sem]) (by simp [go_sem])
    have f1 := hg.frozen (a := ⟨w.heap.size + 1, 1, none⟩) (v := .string ⟨#[]⟩) (by simp [go_sem]) (by simp [go_sem])
    have HG := Lib.hid (((Gr.alloc _ _).trans (Gr.alloc _ _)).trans hg)
    have hH2 := HH.out.gr HG.out
    have k1 := hH2.h1
    obtain ⟨g, rfl, d0, d1, _, _⟩ := hH2.row.at HX.out
    clear hg hH2
    go_wp2
    refine bodyPost_ret (v := .tuple #[.agg #[.int .i64 xk, .string xt], .bool true]) ?_ rfl ?_
    · simp [results, Try.results26, go_sem, r0, r1]
    · rw [E.out]
      exact ⟨rfl, (HG.out.setCell (by simp) _).setCell (by simp) _⟩
end
end Go.Proofs.Ytannjecmfbhkeaa
