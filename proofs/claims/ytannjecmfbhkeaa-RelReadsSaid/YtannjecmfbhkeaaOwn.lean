/- The contracts once more, for callers that hold several objects: whose block is whose. -/
import Derived.Test.YtannjecmfbhkeaaScan
import Derived.Test.YtannjecmfbhkeaaTxnNow
namespace Go.Proofs.Ytannjecmfbhkeaa
open Go Go.RowKit Go.Lib Go.Maps

/-- All that there was when the call began is 9's, and reads as it did. -/
structure K9 (w0 : World) (own : Nat → Nat) (w : World) : Prop where
  bel : Below w0.heap.size w0 w
  nine : ∀ b, b < w0.heap.size → own b = 9
theorem K9.start (w : World) : K9 w (fun _ => 9) w := ⟨Below.refl _ _, fun _ _ => rfl⟩
theorem K9.step {w0 w w' : World} {own own' : Nat → Nat} {i : Nat} (h : K9 w0 own w) (s : Stp i own own' w w') (hi : i ≠ 9) : K9 w0 own' w' :=
  ⟨h.bel.trans ⟨s.os, s.tape, s.output, s.size, fun b hb => s.heap b (Nat.lt_of_lt_of_le hb h.bel.size) (by rw [h.nine b hb]; exact fun e => hi e.symm)⟩,
   fun b hb => (s.lbl b (Nat.lt_of_lt_of_le hb h.bel.size)).trans (h.nine b hb)⟩
theorem Stp.cell {i : Nat} {own own' : Nat → Nat} {w w' : World} (s : Stp i own own' w w') {ad : Addr} {u : Value} (h : w.cell? ad = some u) (hn : own ad.block ≠ i) : w'.cell? ad = some u :=
  (World.cell?_of_block (s.heap _ (World.block_lt_of_cell? w ad h) hn)).trans h
theorem Stp.frozen {i : Nat} {own own' : Nat → Nat} {w w' : World} (s : Stp i own own' w w') {ad : Addr} {u : Value} {f : Bool} (h : w.cell? ad = some u) (hf : w.frozen? ad = f) (hn : own ad.block ≠ i) : w'.frozen? ad = f :=
  (World.frozen?_of_block (s.heap _ (World.block_lt_of_cell? w ad h) hn)).trans hf
theorem Below.stp {w w' : World} (h : Below w.heap.size w w') (i : Nat) (own : Nat → Nat) (j : Nat) : Stp i own (lab own w.heap.size j) w w' :=
  ⟨h.os, h.tape, h.output, h.size, fun _ hb => lab_old hb, fun b hb _ => h.block b hb⟩

structure MgrL (own : Nat → Nat) (i : Nat) (w : World) (pm bo bd : Nat) (t : TS) : Prop where
  ok : MgrOk w pm bo bd t
  lp : own pm = i
  lo : own bo = i
  ld : own bd = i
structure HeapL (own : Nat → Nat) (j : Nat) (w : World) (ph pm : Nat) (a : Option Addr) (c : Nat) (vs : List Vr) : Prop where
  h0 : w.cell? ⟨ph, 0, none⟩ = some (.pointer (some ⟨pm, 0, none⟩))
  h1 : w.cell? ⟨ph, 1, none⟩ = some (.slice a vs.length c)
  f1 : w.frozen? ⟨ph, 1, none⟩ = false
  row : VerRow w a c vs
  wf : ∀ x ∈ vs, wfI x.key ∧ wfI x.born ∧ wfI x.died
  lim : vs.length ≤ 100000000
  lp : own ph = j
  la : ∀ b, a = some b → own b.block = j ∧ b.block ≠ ph
structure ViewL (own : Nat → Nat) (k : Nat) (w : World) (v : Vw) (va : Option Addr) (vc : Nat) : Prop where
  ok : VwOk w v va vc
  lb : ∀ b, va = some b → own b.block = k
structure RowL (own : Nat → Nat) (k : Nat) (w : World) (a : Option Addr) (c : Nat) (l : List Rw) : Prop where
  ok : RowRow w a c l
  lb : ∀ b, a = some b → own b.block = k
/-- A view in a box. -/
structure VBox (own : Nat → Nat) (k : Nat) (w : World) (vb : Nat) (v : Vw) (va : Option Addr) (vc : Nat) : Prop where
  c0 : w.cell? ⟨vb, 0, none⟩ = some (.int .i64 v.max)
  c1 : w.cell? ⟨vb, 1, none⟩ = some (.slice va v.opn.length vc)
  c2 : w.cell? ⟨vb, 2, none⟩ = some (.int .i64 v.own)
  lv : own vb = k
  vw : ViewL own k w v va vc
section
variable {own own' : Nat → Nat} {i j k : Nat} {w w' : World} {pm bo bd ph : Nat} {t : TS} {a : Option Addr} {c : Nat} {vs : List Vr} {v : Vw} {va : Option Addr} {vc : Nat} {l : List Rw} {vb : Nat}
theorem MgrL.keep (h : MgrL own i w pm bo bd t) (s : Stp j own own' w w') (hn : i ≠ j) : MgrL own' i w' pm bo bd t :=
  ⟨h.ok.heap (s.heap _ h.ok.lt.1 (by rw [h.lp]; exact hn)) (s.heap _ h.ok.lt.2.1 (by rw [h.lo]; exact hn)) (s.heap _ h.ok.lt.2.2 (by rw [h.ld]; exact hn)),
   (s.lbl _ h.ok.lt.1).trans h.lp, (s.lbl _ h.ok.lt.2.1).trans h.lo, (s.lbl _ h.ok.lt.2.2).trans h.ld⟩
theorem HeapL.blk (h : HeapL own j w ph pm a c vs) : ph < w.heap.size ∧ ∀ b, a = some b → b.block < w.heap.size :=
  ⟨World.block_lt_of_cell? w ⟨ph, 0, none⟩ h.h0, fun b hb => (h.row.lt b.block (by rw [hb]; rfl)).2⟩
theorem HeapL.keep (h : HeapL own j w ph pm a c vs) (s : Stp i own own' w w') (hn : j ≠ i) : HeapL own' j w' ph pm a c vs :=
  ⟨s.cell h.h0 (by rw [h.lp]; exact hn), s.cell h.h1 (by rw [h.lp]; exact hn), s.frozen h.h1 h.f1 (by rw [h.lp]; exact hn),
   ownsRow_heap h.row (fun b hb => by
     cases a with
     | none => simp [Value.ownBlock] at hb
     | some y => simp [Value.ownBlock] at hb; subst hb; exact s.heap _ (h.blk.2 y rfl) (by rw [(h.la y rfl).1]; exact hn)),
   h.wf, h.lim, (s.lbl _ h.blk.1).trans h.lp, fun b hb => ⟨(s.lbl _ (h.blk.2 b hb)).trans (h.la b hb).1, (h.la b hb).2⟩⟩
theorem ViewL.keep (h : ViewL own k w v va vc) (s : Stp i own own' w w') (hn : k ≠ i) : ViewL own' k w' v va vc := by
  have hl : ∀ b, va = some b → b.block < w.heap.size := fun b hb => (h.ok.row.lt b.block (by rw [hb]; rfl)).2
  refine ⟨⟨ownsRow_heap h.ok.row (fun b hb => ?_), h.ok.lim⟩, fun b hb => (s.lbl _ (hl b hb)).trans (h.lb b hb)⟩
  cases va with
  | none => simp [Value.ownBlock] at hb
  | some y => simp [Value.ownBlock] at hb; subst hb; exact s.heap _ (hl y rfl) (by rw [h.lb y rfl]; exact hn)
theorem RowL.keep (h : RowL own k w a c l) (s : Stp i own own' w w') (hn : k ≠ i) : RowL own' k w' a c l := by
  have hl : ∀ b, a = some b → b.block < w.heap.size := fun b hb => (h.ok.lt b.block (by rw [hb]; rfl)).2
  refine ⟨ownsRow_heap h.ok (fun b hb => ?_), fun b hb => (s.lbl _ (hl b hb)).trans (h.lb b hb)⟩
  cases a with
  | none => simp [Value.ownBlock] at hb
  | some y => simp [Value.ownBlock] at hb; subst hb; exact s.heap _ (hl y rfl) (by rw [h.lb y rfl]; exact hn)
theorem VBox.keep (h : VBox own k w vb v va vc) (s : Stp i own own' w w') (hn : k ≠ i) : VBox own' k w' vb v va vc :=
  ⟨s.cell h.c0 (by rw [h.lv]; exact hn), s.cell h.c1 (by rw [h.lv]; exact hn), s.cell h.c2 (by rw [h.lv]; exact hn), (s.lbl _ (World.block_lt_of_cell? w ⟨vb, 0, none⟩ h.c0)).trans h.lv, h.vw.keep s hn⟩
/-- A heap with its manager, as the contracts take it. -/
theorem HeapL.hp (h : HeapL own j w ph pm a c vs) (hM : MgrL own i w pm bo bd t) (hn : i ≠ j) : Hp w pm bo bd t ph a c vs :=
  ⟨hM.ok, h.h0, h.h1, h.f1, h.row, h.wf, h.lim,
   ⟨fun e => hn (by rw [← hM.lp, ← e]; exact h.lp), fun e => hn (by rw [← hM.lo, ← e]; exact h.lp), fun e => hn (by rw [← hM.ld, ← e]; exact h.lp)⟩,
   fun b hb => ⟨(h.la b hb).2, fun e => hn (by rw [← hM.lp, ← e]; exact (h.la b hb).1), fun e => hn (by rw [← hM.lo, ← e]; exact (h.la b hb).1), fun e => hn (by rw [← hM.ld, ← e]; exact (h.la b hb).1)⟩⟩
theorem HeapL.of_hp (h : Hp w pm bo bd t ph a c vs) (lp : own ph = j) (la : ∀ b, a = some b → own b.block = j) : HeapL own j w ph pm a c vs :=
  ⟨h.h0, h.h1, h.f1, h.row, h.wf, h.lim, lp, fun b hb => ⟨la b hb, (h.apR b hb).1⟩⟩
theorem MgrL.stp (h : MgrL own i w pm bo bd t) (hT : Tc (mgrB pm bo bd) w w') : Stp i own own w w' :=
  ⟨hT.os, hT.tape, hT.output, hT.size, fun _ _ => rfl, fun b hb hn => hT.heap b hb (by
    rintro (rfl | rfl | rfl)
    · exact hn h.lp
    · exact hn h.lo
    · exact hn h.ld)⟩
/-- What a write to a heap leaves. -/
def WrL (own : Nat → Nat) (j : Nat) (w : World) (ph pm : Nat) (vs' : List Vr) (w' : World) : Prop := ∃ own' a' c', HeapL own' j w' ph pm a' c' vs' ∧ Stp j own own' w w'
theorem HS.wrl {vs' : List Vr} (h : HeapL own j w ph pm a c vs) (hs : HS w pm bo bd t ph a vs' w') : WrL own j w ph pm vs' w' := by
  obtain ⟨a', c', h1, h2, h3⟩ := hs
  have hb := h.blk
  refine ⟨lab own w.heap.size j, a', c', HeapL.of_hp h1 (by rw [lab_old hb.1]; exact h.lp) (fun b hb' => ?_), h2.stp j own (fun b hb2 hS => ?_) j⟩
  · rcases h3 b hb' with e | e
    · rw [lab_old (hb.2 b e)]; exact (h.la b e).1
    · exact lab_new e
  · rcases hS with rfl | ⟨y, hy, rfl⟩
    · exact h.lp
    · exact (h.la y hy).1
end

section
variable (own : Nat → Nat) (i j k : Nat) (w : World) (pm bo bd ph : Nat) (t : TS) (a : Option Addr) (c : Nat) (vs : List Vr) (v : Vw) (va : Option Addr) (vc : Nat)
/-- A new manager, i's. -/
def NewL (own : Nat → Nat) (i : Nat) (w : World) (e : Ending) (w' : World) : Prop := ∃ own' pm bo bd, e = .returned (.pointer (some ⟨pm, 0, none⟩)) ∧ MgrL own' i w' pm bo bd [] ∧ Stp 0 own own' w w'
theorem TxNew_L : Calls Try.prog 12 #[] w fun e w' => NewL own i w e w' := by
  refine (TxNew_calls w).mono ?_
  rintro e w' ⟨pm, bo, bd, he, h1, h2, h3, h4, h5⟩
  exact ⟨lab own w.heap.size i, pm, bo, bd, he, ⟨h1, lab_new h3, lab_new h4, lab_new h5⟩, h2.stpL 0 own i⟩
/-- A new heap, j's. -/
def HNewL (own : Nat → Nat) (j : Nat) (w : World) (pm : Nat) (e : Ending) (w' : World) : Prop := ∃ own' ph, e = .returned (.pointer (some ⟨ph, 0, none⟩)) ∧ HeapL own' j w' ph pm none 0 [] ∧ Stp 0 own own' w w'
theorem HNew_L : Calls Try.prog 13 #[.pointer (some ⟨pm, 0, none⟩)] w fun e w' => HNewL own j w pm e w' := by
  go_enter Try.func13, Try.ntmps13
  go_wp2
  go_ret
  refine ⟨lab own w.heap.size j, w.heap.size, rfl, ⟨by simp [go_sem], by simp [go_sem], by simp [go_sem], World.ownsRow_nil _ _ _ _, by simp, by simp, lab_new (Nat.le_refl _), fun b hb => by cases hb⟩, (Gr.alloc _ _).stpL 0 own j⟩
theorem Begin_L (hM : MgrL own i w pm bo bd t) : Calls Try.prog 14 #[.pointer (some ⟨pm, 0, none⟩)] w fun e w' => e = .returned (.tuple #[.int .i64 (begN t), .int .i64 (begE t)]) ∧ MgrL own i w' pm bo bd (begT t) ∧ Stp i own own w w' := by
  refine (Begin_calls w pm bo bd t hM.ok).mono ?_
  rintro e w' ⟨he, h1, h2⟩
  exact ⟨he, ⟨h1, hM.lp, hM.lo, hM.ld⟩, hM.stp h2⟩
theorem Commit_L (x : Int) (hM : MgrL own i w pm bo bd t) (hx : wfI x) : Calls Try.prog 17 #[.pointer (some ⟨pm, 0, none⟩), .int .i64 x] w fun e w' => e = .returned (.int .i64 (endE t x)) ∧ MgrL own i w' pm bo bd (endT t x 2) ∧ Stp i own own w w' := by
  refine (Commit_calls w pm bo bd t x hM.ok hx).mono ?_
  rintro e w' ⟨he, h1, h2⟩
  exact ⟨he, ⟨h1, hM.lp, hM.lo, hM.ld⟩, hM.stp h2⟩
theorem Abort_L (x : Int) (hM : MgrL own i w pm bo bd t) (hx : wfI x) : Calls Try.prog 24 #[.pointer (some ⟨pm, 0, none⟩), .int .i64 x] w fun e w' => e = .returned (.int .i64 (endE t x)) ∧ MgrL own i w' pm bo bd (endT t x 3) ∧ Stp i own own w w' := by
  refine (Abort_calls w pm bo bd t x hM.ok hx).mono ?_
  rintro e w' ⟨he, h1, h2⟩
  exact ⟨he, ⟨h1, hM.lp, hM.lo, hM.ld⟩, hM.stp h2⟩
/-- Now's answer: the numbers that are open are k's. -/
def NowL (own : Nat → Nat) (k : Nat) (w : World) (t : TS) (e : Ending) (w' : World) : Prop :=
  ∃ own' a c, e = .returned (.agg #[.int .i64 ((t.length : Int) + 1), .slice a (openL t).length c]) ∧ (∀ x, ViewL own' k w' ⟨(t.length : Int) + 1, openL t, x⟩ a c) ∧ Stp 0 own own' w w'
theorem Now_L (hM : MgrL own i w pm bo bd t) : Calls Try.prog 15 #[.pointer (some ⟨pm, 0, none⟩)] w fun e w' => NowL own k w t e w' := by
  refine (Now_calls w pm bo bd t hM.ok).mono ?_
  rintro e w' ⟨a, c, he, h1, h2⟩
  refine ⟨lab own w.heap.size k, a, c, he, fun x => ⟨⟨ownsRow_base0 h1, by have := hM.ok.six; show (openL t).length ≤ _; omega⟩, fun b hb => lab_new ?_⟩, Below.stp h2 0 own k⟩
  exact (h1.lt b.block (by rw [hb]; rfl)).1
theorem Insert_L (r : Rw) (hM : MgrL own i w pm bo bd t) (hH : HeapL own j w ph pm a c vs) (hij : i ≠ j) (hv : ViewL own k w v va vc) (ho : wfI v.own) (hr : wfI r.1) (hlim : vs.length < 100000000) :
    Calls Try.prog 16 #[.pointer (some ⟨ph, 0, none⟩), vwV v va vc, .agg (encR r).toArray] w fun e w' => e = .returned (.int .i64 (insE t v vs r.1)) ∧ WrL own j w ph pm (insV t v vs r) w' :=
  (Insert_calls w pm bo bd t ph a c vs v va vc r (hH.hp hM hij) hv.ok ho hr hlim).mono fun _ _ ⟨he, h⟩ => ⟨he, h.wrl hH⟩
theorem Update_L (r : Rw) (hM : MgrL own i w pm bo bd t) (hH : HeapL own j w ph pm a c vs) (hij : i ≠ j) (hv : ViewL own k w v va vc) (ho : wfI v.own) (hr : wfI r.1) (hlim : vs.length < 100000000) :
    Calls Try.prog 22 #[.pointer (some ⟨ph, 0, none⟩), vwV v va vc, .agg (encR r).toArray] w fun e w' => e = .returned (.int .i64 (killE t v vs r.1)) ∧ WrL own j w ph pm (updV t v vs r) w' :=
  (Update_calls w pm bo bd t ph a c vs v va vc r (hH.hp hM hij) hv.ok ho hr hlim).mono fun _ _ ⟨he, h⟩ => ⟨he, h.wrl hH⟩
theorem Delete_L (key : Int) (hM : MgrL own i w pm bo bd t) (hH : HeapL own j w ph pm a c vs) (hij : i ≠ j) (hv : ViewL own k w v va vc) (ho : wfI v.own) :
    Calls Try.prog 23 #[.pointer (some ⟨ph, 0, none⟩), vwV v va vc, .int .i64 key] w fun e w' => e = .returned (.int .i64 (killE t v vs key)) ∧ WrL own j w ph pm (killV t v vs key) w' :=
  (Delete_calls w pm bo bd t ph a c vs v va vc key (hH.hp hM hij) hv.ok ho).mono fun _ _ ⟨he, h⟩ => ⟨he, h.wrl hH⟩
/-- Scan's answer is k's. -/
def ScanL (own : Nat → Nat) (k : Nat) (w : World) (l : List Rw) (e : Ending) (w' : World) : Prop := ∃ own' a c, e = .returned (.slice a l.length c) ∧ RowL own' k w' a c l ∧ Stp 0 own own' w w'
theorem Scan_L (q : Nat) (hM : MgrL own i w pm bo bd t) (hH : HeapL own j w ph pm a c vs) (hij : i ≠ j) (hv : ViewL own k w v va vc) :
    Calls Try.prog 18 #[.pointer (some ⟨ph, 0, none⟩), vwV v va vc] w fun e w' => ScanL own q w (scanL t v vs) e w' := by
  refine (Scan_calls w pm bo bd t ph a c vs v va vc (hH.hp hM hij) hv.ok).mono ?_
  rintro e w' ⟨ar, cr, he, h1, h2, h3⟩
  exact ⟨lab own w.heap.size q, ar, cr, he, ⟨h1, fun b hb => lab_new (h3 b hb)⟩, Below.stp h2 0 own q⟩
/-- Truncate: its rows are q's. -/
def TruncL (own : Nat → Nat) (j q : Nat) (w : World) (ph pm : Nat) (t : TS) (v : Vw) (vs : List Vr) (e : Ending) (w' : World) : Prop :=
  ∃ own' ar cr a' c', e = .returned (.tuple #[.slice ar (truncL t v vs).length cr, .int .i64 (truncE t v vs)]) ∧ RowL own' q w' ar cr (truncL t v vs) ∧ HeapL own' j w' ph pm a' c' (truncV t v vs) ∧ Stp j own own' w w'
theorem Truncate_L (q : Nat) (hM : MgrL own i w pm bo bd t) (hH : HeapL own j w ph pm a c vs) (hij : i ≠ j) (hkj : k ≠ j) (hv : ViewL own k w v va vc) (ho : wfI v.own) :
    Calls Try.prog 19 #[.pointer (some ⟨ph, 0, none⟩), vwV v va vc] w fun e w' => TruncL own j q w ph pm t v vs e w' := by
  refine (Truncate_calls w pm bo bd t ph a c vs v va vc (hH.hp hM hij) hv.ok ho (fun x hx => ?_)).mono ?_
  · rintro (e | ⟨y, hy, e⟩)
    · exact hkj (by rw [← hv.lb x hx, e]; exact hH.lp)
    · exact hkj (by rw [← hv.lb x hx, ← e]; exact (hH.la y hy).1)
  · rintro e w' ⟨ar, cr, a', c', he, h1, h2, h3, h4, h5, h6⟩
    have hb := hH.blk
    refine ⟨fun b => if b < w.heap.size then own b else if ∃ x, ar = some x ∧ x.block = b then q else j, ar, cr, a', c', he, ⟨h1, fun b hb' => ?_⟩, HeapL.of_hp h2 ?_ (fun b hb' => ?_), ⟨h3.os, h3.tape, h3.output, h3.size, fun b hb' => if_pos hb', fun b hb' hn => h3.heap b hb' ?_⟩⟩
    · rw [if_neg (by have := h5 b hb'; omega), if_pos ⟨b, hb', rfl⟩]
    · rw [if_pos hb.1]; exact hH.lp
    · rcases h4 b hb' with e | e
      · rw [if_pos (hb.2 b e)]; exact (hH.la b e).1
      · rw [if_neg (by omega), if_neg]
        rintro ⟨x, hx, hxb⟩
        exact h6 x b hx hb' hxb
    · rintro (rfl | ⟨y, hy, rfl⟩)
      · exact hn hH.lp
      · exact hn (hH.la y hy).1
theorem HGet_L (key : Int) (hM : MgrL own i w pm bo bd t) (hH : HeapL own j w ph pm a c vs) (hij : i ≠ j) (hv : ViewL own k w v va vc) :
    Calls Try.prog 26 #[.pointer (some ⟨ph, 0, none⟩), vwV v va vc, .int .i64 key] w fun e w' => e = .returned (getV (getR t v vs key)) ∧ ∃ own', Stp 0 own own' w w' :=
  (HGet_calls w pm bo bd t ph a c vs v va vc key (hH.hp hM hij) hv.ok).mono fun _ _ ⟨he, h⟩ => ⟨he, _, h.stpL 0 own 0⟩
end
end Go.Proofs.Ytannjecmfbhkeaa
