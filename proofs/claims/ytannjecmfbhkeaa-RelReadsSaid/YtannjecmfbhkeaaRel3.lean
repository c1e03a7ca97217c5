/- Package rel: New, and the document's example. -/
import Derived.Test.YtannjecmfbhkeaaRel2
import Derived.Test.YtannjecmfbhkeaaRedoW
import Derived.Deep.RegionHeld3
namespace Go.Proofs.Ytannjecmfbhkeaa
open Go Go.RowKit Go.Lib Go.Maps
/-- What Run refuses. -/
theorem Run_bad (own : Nat → Nat) (k : Nat) (w : World) (pr : Nat) (a : Option Addr) (c : Nat) (phs : List Nat) (h : RelL own k w pr a c phs) (v : Vw) (va : Option Addr) (vc : Nat) (kind table : Int) (r : Rw) (k0 : 0 ≤ kind) (k256 : kind < 256)
    (hb : badS phs.length kind table r) (hm : r.2.size ≤ 9223372036854775807) :
    Calls Try.prog 31 #[.pointer (some ⟨pr, 0, none⟩), vwV v va vc, stmV kind table r] w fun e w' => e = .returned (.tuple #[.slice none 0 0, .int .i64 1]) ∧ Gr w w' := by
  have hri : ∀ W, Gr w W → Calls Try.prog 60 #[.pointer (some ⟨pr, 0, none⟩), stmV kind table r] W fun e w' => e = .returned (.bool false) ∧ W.alloc (.cells #[.int .u8 kind, .int .i64 table, .int .i64 r.1, .string r.2] 66) = w' :=
    fun W hg => right_no own k W pr a c phs (h.gr hg) kind table r k0 k256 hb hm
  have HRI := Lib.hid hri
  obtain ⟨key, text⟩ := r
  clear hri h hb
  go_enter Try.func31, Try.ntmps31
  go_wp2_with (go_at_call 60; refine (HRI.out _ (by exact (Gr.alloc _ _).trans (Gr.alloc _ _))).mono ?_; rintro e w1 ⟨rfl, rfl⟩)
  go_ret2
  exact ⟨rfl, ((Gr.alloc _ _).trans (Gr.alloc _ _)).trans (Gr.alloc _ _)⟩
theorem newCells1 {w : World} {A : Obj} {c : List Value} {e : TypeId} {f : Nat × Nat} (j : Nat) (u : Value) (h : c[j]? = some u) : ((w.alloc A).alloc (.cells c.toArray e f)).cell? ((⟨w.heap.size + 1, 0, none⟩ : Addr).add j) = some u := by
  have := newCells (w := w.alloc A) (c := c.toArray) (e := e) (f := f) j u h
  rw [show (w.alloc A).heap.size = w.heap.size + 1 from by simp] at this
  exact this
theorem infoHeapP : (Try.prog.info? 26).map (fun i => (i.zero, i.size, i.bytes)) = some (some (.pointer none), 1, 8) := by kernel_rfl
/-- A new heap, outright. -/
theorem HNew_calls (w : World) (pm : Nat) : Calls Try.prog 13 #[.pointer (some ⟨pm, 0, none⟩)] w fun e w' => e = .returned (.pointer (some ⟨w.heap.size, 0, none⟩)) ∧ w.alloc (.cells #[.pointer (some ⟨pm, 0, none⟩), .slice none 0 0] 81) = w' := by
  go_enter Try.func13, Try.ntmps13
  go_wp2
  go_ret
  exact ⟨rfl, rfl⟩
def RnW (own : Nat → Nat) (kr : Nat) (w : World) (pm pr : Nat) (k : Nat) (W : World) : Prop :=
  ∃ own' phs a c, phs.length = k ∧ w.heap.size ≤ pr ∧ (∀ b, a = some b → w.heap.size ≤ b.block) ∧ RelL own' kr W pr a c phs ∧ HeapsL own' W pm phs (fun _ => []) ∧ Stp 0 own own' w W
def RNewL (own : Nat → Nat) (kr : Nat) (w : World) (pm : Nat) (m : Nat) (e : Ending) (w' : World) : Prop :=
  ∃ pr own' phs a c, e = .returned (.pointer (some ⟨pr, 0, none⟩)) ∧ phs.length = m ∧ RelL own' kr w' pr a c phs ∧ HeapsL own' w' pm phs (fun _ => []) ∧ Stp 0 own own' w w'
/-- Whose blocks are whose behind a new heap. -/
def rlab (own : Nat → Nat) (n k kr b : Nat) : Nat := if b < n then own b else if b = n then 20 + k else kr
theorem rnew_start (own : Nat → Nat) (kr : Nat) (w : World) (pm : Nat) : RnW own kr w pm w.heap.size 0 (w.alloc (.cells #[.slice none 0 0] 105)) :=
  ⟨lab own w.heap.size kr, [], none, 0, rfl, Nat.le_refl _, fun _ h => (by cases h), ⟨by simp [go_sem], by simp [go_sem], World.ownsRow_nil _ _ _ _, lab_new (Nat.le_refl _), fun _ h => (by cases h), by simp⟩, fun i p h => by simp at h, (Gr.alloc _ _).stpL 0 own kr⟩
theorem rnew_end {own own' : Nat → Nat} {kr : Nat} {w wr w1 : World} {pm pr : Nat} {phs : List Nat} {a : Option Addr} {c : Nat} {v' : Value} {A B : Obj}
    (hA : A = .cells #[.pointer (some ⟨pm, 0, none⟩), .slice none 0 0] 81) (hkr : kr < 20) (h4 : phs.length + 1 ≤ 4) (hpr : w.heap.size ≤ pr) (ha : ∀ b, a = some b → w.heap.size ≤ b.block)
    (hR : RelL own' kr wr pr a c phs) (hV : HeapsL own' wr pm phs (fun _ => [])) (s : Stp 0 own own' w wr)
    (hown : w1.ownsRow 0 26 1 v' (phs.length + 1) (phs.map ptrV ++ [ptrV wr.heap.size]))
    (hg : ((wr.alloc A).alloc B).drew.grownBy w1 (Value.ownBlock (.slice a phs.length c)))
    (hbl : v'.ownBlock = Value.ownBlock (.slice a phs.length c) ∨ ∀ b, v'.ownBlock = some b → ((wr.alloc A).alloc B).drew.heap.size ≤ b) :
    ∃ a' c', v' = .slice a' (phs.length + 1) c' ∧ w1.cell? ⟨pr, 0, none⟩ = some (.slice a phs.length c) ∧ w1.frozen? ⟨pr, 0, none⟩ = false ∧ RnW own kr w pm pr (phs.length + 1) (w1.setCell ⟨pr, 0, none⟩ (.slice a' (phs.length + 1) c')) := by
  obtain ⟨a', c', rfl⟩ := ownsRow_slice hown
  have hG : Gr wr ((wr.alloc A).alloc B).drew := ((Gr.alloc wr A).trans (Gr.alloc _ B)).trans (Gr.drew _)
  have hz : ((wr.alloc A).alloc B).drew.heap.size = wr.heap.size + 2 := by simp
  have hbk := hR.blk
  have keep : ∀ b, b < ((wr.alloc A).alloc B).drew.heap.size → (∀ y, a = some y → y.block ≠ b) → w1.heap[b]? = ((wr.alloc A).alloc B).drew.heap[b]? := fun b hb hn =>
    hg.block b hb (by
      cases a with
      | none => simp [Value.ownBlock]
      | some y => simp [Value.ownBlock]; exact fun e => hn y rfl e.symm)
  have kpr : w1.heap[pr]? = wr.heap[pr]? := (keep pr (by omega) (fun y hy => (hR.la y hy).2)).trans (hG.heap hbk.1)
  have kA : w1.heap[wr.heap.size]? = some A := (keep wr.heap.size (by omega) (fun y hy => by have := hbk.2 y hy; omega)).trans (by
    show ((wr.alloc A).alloc B).heap[wr.heap.size]? = _
    rw [heap_alloc_old _ _ (by simp)]
    exact heap_alloc_new wr A)
  have hnew : ∀ b', a' = some b' → a = some b' ∨ wr.heap.size + 2 ≤ b'.block := by
    intro b' hb'
    subst hb'
    rcases hbl with h | h
    · left
      rcases hown.2 with ⟨h0, _⟩ | ⟨g, cap, cur, hv, _⟩
      · cases h0
      · cases hv
        rcases hR.row.2 with ⟨h0, _⟩ | ⟨g2, cap2, cur2, hv2, _⟩
        · rw [h0] at h; simp [Value.ownBlock] at h
        · rw [hv2] at h
          simp only [Value.ownBlock, Option.some.injEq] at h
          cases hv2; rw [h]
    · have := h b'.block (by simp [Value.ownBlock])
      exact Or.inr (by omega)
  refine ⟨a', c', rfl, (World.cell?_of_block kpr).trans hR.c0, (World.frozen?_of_block kpr).trans hR.f0, ?_⟩
  have sc : ∀ b, b ≠ pr → (w1.setCell ⟨pr, 0, none⟩ (.slice a' (phs.length + 1) c')).heap[b]? = w1.heap[b]? := fun b hb => Below.heap_setCell _ _ _ _ hb
  have hsz : (w1.setCell ⟨pr, 0, none⟩ (.slice a' (phs.length + 1) c')).heap.size = w1.heap.size := by simp [World.setCell]
  have h1z : wr.heap.size + 2 ≤ w1.heap.size := by have := hg.size; omega
  have lo : ∀ b, b < wr.heap.size → rlab own' wr.heap.size phs.length kr b = own' b := fun b hb => if_pos hb
  have sK : Stp kr own' (rlab own' wr.heap.size phs.length kr) wr (w1.setCell ⟨pr, 0, none⟩ (.slice a' (phs.length + 1) c')) :=
    ⟨hg.os.trans hG.below.os, hg.tape.trans hG.below.tape, hg.output.trans hG.below.output, by omega, lo, fun b hb hn => by
      rw [sc b (fun e => hn (by rw [e]; exact hR.lp)), keep b (by omega) (fun y hy e => hn (by rw [← e]; exact (hR.la y hy).1)), hG.heap hb]⟩
  refine ⟨rlab own' wr.heap.size phs.length kr, phs ++ [wr.heap.size], a', c', by simp, hpr, fun b hb => ?_, ⟨?_, ?_, ?_, ?_, ?_, by simp; omega⟩, ?_, ?_⟩
  · rcases hnew b hb with h | h
    · exact ha b h
    · have := s.size; omega
  · rw [World.cell?_setCell_same' _ _ _ (by rw [(World.cell?_of_block kpr).trans hR.c0]; rfl)]; simp
  · rw [World.frozen?_setCell]; exact (World.frozen?_of_block kpr).trans hR.f0
  · rw [List.length_append, List.map_append]
    refine ownsRow_heap hown (fun b hb => sc b ?_)
    cases a' with
    | none => simp [Value.ownBlock] at hb
    | some y =>
      simp [Value.ownBlock] at hb; subst hb
      rcases hnew y rfl with h | h
      · exact (hR.la y h).2
      · omega
  · exact (lo pr hbk.1).trans hR.lp
  · intro b hb
    rcases hnew b hb with h | h
    · exact ⟨(lo _ (hbk.2 b h)).trans (hR.la b h).1, (hR.la b h).2⟩
    · refine ⟨?_, by omega⟩
      unfold rlab; rw [if_neg (by omega), if_neg (by omega)]
  · intro i p hp
    by_cases hi : i < phs.length
    · rw [List.getElem?_append_left hi] at hp
      obtain ⟨b, d, hH⟩ := hV i p hp
      exact ⟨b, d, hH.keep sK (by omega)⟩
    · have hi2 : i = phs.length := by have := (List.getElem?_eq_some_iff.1 hp).1; simp at this; omega
      subst hi2
      simp at hp
      subst hp
      have kA2 := (sc wr.heap.size (by omega)).trans kA
      rw [hA] at kA2
      refine ⟨none, 0, ?_, ?_, ?_, World.ownsRow_nil _ _ _ _, by simp, by simp, ?_, fun _ h => (by cases h)⟩
      · unfold World.cell?; rw [kA2]; rfl
      · unfold World.cell?; rw [kA2]; rfl
      · unfold World.frozen?; rw [kA2]; rfl
      · unfold rlab; rw [if_neg (by omega), if_pos rfl]
  · refine ⟨sK.os.trans s.os, sK.tape.trans s.tape, sK.output.trans s.output, Nat.le_trans s.size sK.size, fun b hb => (lo b (Nat.lt_of_lt_of_le hb s.size)).trans (s.lbl b hb), fun b hb hn => ?_⟩
    have hb2 := Nat.lt_of_lt_of_le hb s.size
    rw [sc b (by omega), keep b (by omega) (fun y hy e => by have := ha y hy; omega), hG.heap hb2]
    exact s.heap b hb hn
set_option maxHeartbeats 3200000 in
theorem RNew_L (own : Nat → Nat) (kr : Nat) (hkr : kr < 20) (w : World) (pm : Nat) (n : Int) (m : Nat) (h1 : 1 ≤ m) (h4 : m ≤ 4) (hn : n = m) :
    Calls Try.prog 30 #[.pointer (some ⟨pm, 0, none⟩), .int .i64 n] w fun e w' => RNewL own kr w pm m e w' := by
  obtain ⟨i0, hi, hz0, hz1, hz2⟩ := info_parts infoHeapP
  have z1 : (1 : Int) ≤ (m : Int) := by omega
  have z4 : (m : Int) ≤ 4 := by omega
  have HI := Lib.hid (rnew_start own kr w pm)
  have hmx : max (m : Int) 1 = (m : Int) := by omega
  have hmn : min (m : Int) 4 = (m : Int) := by omega
  subst hn
  go_enter Try.func30, Try.ntmps30
  go_wp2
  clear hmx hmn
  generalize w.alloc (.cells #[.slice none 0 0] 105) = w0 at HI ⊢
  generalize w.heap.size = pr at HI ⊢
  go_loopw [11] (fun vi W => ∃ k : Nat, vi = .int .i64 k ∧ k ≤ m ∧ Hid (RnW own kr w pm pr k W)) (fun vi _ => m - (RowKit.intOf vi).toNat)
  case atStart => exact ⟨0, rfl, Nat.zero_le _, HI⟩
  case round =>
    clear HI
    obtain ⟨k, rfl, hk, hI⟩ := hrel
    by_cases hlt : k < m
    · have hltz : (k : Int) < (m : Int) := by omega
      obtain ⟨own', phs, a, c, hlen, hpr, ha, hR, hV, s⟩ := hI.out
      have hc := hR.c0
      have hcl := hR.blk.1
      have HRow := Lib.hid hR.row
      have HE : Hid _ := fun (B : Obj) (w1 : World) (v' : Value) => rnew_end (own := own) (own' := own') (kr := kr) (w := w) (wr := wr) (w1 := w1) (pm := pm) (pr := pr) (phs := phs) (a := a) (c := c) (v' := v') (A := _) (B := B) rfl hkr (by omega) hpr ha hR hV s
      have hb1 : phs.length + 1 ≤ maxLen := by unfold maxLen; omega
      have hb2 : (phs.length + 1) * 8 ≤ 140737488355328 := by omega
      have HL := Lib.hid hlen
      have HC : Hid (∀ u ∈ [ptrV wr.heap.size], u.oneCell' = true) := fun u hu => by rw [List.mem_singleton.1 hu]; rfl
      clear hI hlen hR hV s hpr ha
      go_wp2_with fail
      go_region_law (first | ((refine step_append_own (by rfl) (.tmp 17) (.tmp 20) 103 (by rfl) 26 i0 _ 1 8 Try.underlying103 hi hz0 hz1 hz2 (by rfl) (by decide) _ phs.length (phs.map ptrV) (by rfl) (by exact (HRow.out.alloc _).alloc _) ⟨wr.heap.size + 1, 0, none⟩ 1 1 [ptrV wr.heap.size] (by rfl) (by rfl) (by exact newCells2) HC.out hb1 hb2 ?_; intro v' w1 hown hgr hbl; obtain ⟨a', c', rfl, k1, k2, hs⟩ := HE.out _ w1 v' hown hgr hbl; have HX := Lib.hid hs; clear hs hown hgr hbl)) | ((go_simp; go_at_call 13; refine (HNew_calls _ pm).mono ?_; rintro e w1 ⟨rfl, rfl⟩; go_simp)))
      all_goals
        go_wp2
        go_roundw
        case rel => exact ⟨k + 1, by go_num, by omega, (by have e := HL.out; show RnW _ _ _ _ _ _ _; rw [← e]; exact HX.out)⟩
        case measure => simp [RowKit.intOf]; omega
    · have hltz : ¬ (k : Int) < (m : Int) := by omega
      obtain rfl : k = m := by omega
      obtain ⟨own', phs, a, c, hlen, hpr, ha, hR, hV, s⟩ := hI.out
      have F : Hid (RNewL own kr w pm k (.returned (.pointer (some ⟨pr, 0, none⟩))) wr) := ⟨pr, own', phs, a, c, rfl, hlen, hR, hV, s⟩
      clear hI hlen hR hV s hpr ha
      go_wp2
      go_ret
      exact F.out
/-- What Ops answers: k's. -/
def OpsL (own : Nat → Nat) (k : Nat) (w : World) (l : List (Bool × Rw)) (e : Ending) (w' : World) : Prop := ∃ own' a c, e = .returned (.slice a l.length c) ∧ OpL own' k w' a c l ∧ Stp 0 own own' w w'
set_option maxHeartbeats 1600000 in
theorem Ops_ins (own : Nat → Nat) (k : Nat) (w : World) (table : Int) (r : Rw) (ra : Option Addr) (rn rc : Nat) :
    Calls Try.prog 58 #[stmV 1 table r, .slice ra rn rc] w fun e w' => OpsL own k w [(false, r)] e w' := by
  obtain ⟨i0, hi, hz0, hz1, hz2⟩ := info_parts infoOp
  obtain ⟨key, text⟩ := r
  have hcell : ∀ u ∈ [Value.bool false, .int .i64 key, .string text], u.oneCell' = true := by intro u hu; simp at hu; rcases hu with rfl | rfl | rfl <;> rfl
  have HC := Lib.hid hcell
  have hm1 : 0 + 1 ≤ maxLen := by decide
  have hm2 : (0 + 1) * 32 ≤ 140737488355328 := by decide
  clear hcell
  go_enter Try.func58, Try.ntmps58
  go_wp2_with (at_builtin; refine wpList_append_own2 rfl _ _ 52 rfl 54 i0 _ 3 32 Try.underlying52 hi hz0 hz1 hz2 rfl (by decide) (.slice none 0 0) 0 [] rfl (by exact World.ownsRow_nil _ _ _ _) ⟨w.heap.size + 1, 0, none⟩ 1 1 [.bool false, .int .i64 key, .string text] rfl rfl (by exact newCells1) HC.out hm1 hm2 ?_; intro v2 w2 hown hgr hbk; obtain ⟨ao, co, rfl, own2, hO, s1⟩ := OpL.of_append (p := (false, (key, text))) (own := own) k hown hgr (hbk.elim (fun e b hb => by rw [e] at hb; cases hb) id); have HX := Lib.hid (And.intro hO s1); clear hown hgr hbk hO s1)
  go_ret
  exact ⟨own2, ao, co, rfl, HX.out.1, ((Gr.alloc _ _).stp 0 own).trans HX.out.2⟩
set_option maxHeartbeats 3200000 in
theorem row8_calls (w : World) : Calls Try.prog 29 #[] w fun e w' => e = .returned (.bool true) ∧ Below w.heap.size w w' := by
  have K := K9.start w
  go_enter Try.func29, Try.ntmps29
  go_wp2_with fail
  refine (Ops_ins (fun _ => 9) 5 _ 0 (3, ⟨#[120]⟩) none 0 0).mono ?_
  rintro e w1 ⟨o1, ao, co, rfl, hO, s1⟩
  replace K := K.step s1 (by decide)
  clear s1
  go_wp2_with fail
  refine (TxNew_L o1 1 _).mono ?_
  rintro e w2 ⟨o2, pm, bo, bd, rfl, hM, s1⟩
  replace K := K.step s1 (by decide)
  replace hO := hO.keep s1 (by decide)
  clear s1
  go_wp2_with fail
  refine (RNew_L o2 8 (by decide) _ pm 2 2 (by decide) (by decide) rfl).mono ?_
  rintro e w3 ⟨pr, o3, phs, a, c, rfl, hl, hR, hV, s1⟩
  replace K := K.step s1 (by decide)
  replace hO := hO.keep s1 (by decide)
  obtain ⟨g, rfl, c0, c1, _⟩ := OpRow.at hO.ok (k := 0) (x := (false, (3, ⟨#[120]⟩))) rfl
  have HT := Lib.hid (Tables_calls o3 8 w3 pr a c phs hR)
  have HL := Lib.hid hl
  simp only [Nat.zero_mul] at c0 c1
  clear hM hV s1 hR hO hl
  go_wp2_with fail
  refine HT.out.mono ?_
  rintro e w' ⟨rfl, rfl⟩
  rw [HL.out]
  go_wp2
  go_ret
  exact ⟨rfl, K.bel⟩
end Go.Proofs.Ytannjecmfbhkeaa
