/- Scan and Truncate. -/
import Derived.Test.YtannjecmfbhkeaaHeapWrite
import Derived.Test.YtannjecmfbhkeaaSortR4
namespace Go.Proofs.Ytannjecmfbhkeaa
open Go Go.RowKit Go.Lib Go.Maps

/-- What a view sees, by keys. -/
def visL (t : TS) (v : Vw) (vs : List Vr) : List Rw := (vs.filter (visB t v)).map Vr.row
def scanL (t : TS) (v : Vw) (vs : List Vr) : List Rw := sortS kyR (visL t v vs)
abbrev RowRow (w : World) (a : Option Addr) (c : Nat) (l : List Rw) : Prop := w.ownsRow 0 38 2 (.slice a l.length c) l.length (l.flatMap encR)
/-- What Scan answers: a row of its own. -/
def ScanRes (l : List Rw) (w : World) (e : Ending) (w' : World) : Prop :=
  ∃ a c, e = .returned (.slice a l.length c) ∧ RowRow w' a c l ∧ Below w.heap.size w w' ∧ ∀ x, a = some x → w.heap.size ≤ x.block
theorem infoRow : (Try.prog.info? 38).map (fun i => (i.zero, i.size, i.bytes)) = some (some (.agg #[.int .i64 0, .string ByteArray.empty]), 2, 24) := by kernel_rfl
theorem Tc.below {S : Nat → Prop} {w w' : World} (h : Tc S w w') (hS : ∀ b, b < w.heap.size → ¬ S b) : Below w.heap.size w w' :=
  ⟨h.os, h.tape, h.output, h.size, fun k hk => h.heap k hk (hS k hk)⟩
theorem Bl.cell {w w' : World} (h : Below w.heap.size w w') {ad : Addr} {u : Value} (hc : w.cell? ad = some u) : w'.cell? ad = some u :=
  (World.cell?_of_block (h.block _ (World.block_lt_of_cell? w ad hc))).trans hc
section
variable {w w' : World} {pm bo bd : Nat} {t : TS} {ph : Nat} {a : Option Addr} {c : Nat} {vs : List Vr} {v : Vw} {va : Option Addr} {vc : Nat}
theorem MgrOk.bl (h : MgrOk w pm bo bd t) (hb : Below w.heap.size w w') : MgrOk w' pm bo bd t := h.heap (hb.block _ h.lt.1) (hb.block _ h.lt.2.1) (hb.block _ h.lt.2.2)
theorem Hp.bl (h : Hp w pm bo bd t ph a c vs) (hb : Below w.heap.size w w') : Hp w' pm bo bd t ph a c vs :=
  ⟨h.M.bl hb, Bl.cell hb h.h0, Bl.cell hb h.h1, (World.frozen?_of_block (hb.block _ (World.block_lt_of_cell? w ⟨ph, 1, none⟩ h.h1))).trans h.f1,
   ownsRow_heap h.row (fun b hb2 => hb.block b (h.row.lt b hb2).2), h.wf, h.lim, h.ap, h.apR⟩
theorem VwOk.bl (h : VwOk w v va vc) (hb : Below w.heap.size w w') : VwOk w' v va vc :=
  ⟨ownsRow_heap h.row (fun b hb2 => hb.block b (h.row.lt b hb2).2), h.lim⟩
end
theorem take_filter_pos {vs : List Vr} {p : Vr → Bool} {k : Nat} {x : Vr} (h : vs[k]? = some x) (hp : p x = true) : (vs.take (k + 1)).filter p = (vs.take k).filter p ++ [x] := by
  obtain ⟨hk, rfl⟩ := List.getElem?_eq_some_iff.1 h
  rw [List.take_succ_eq_append_getElem hk, List.filter_append, List.filter_cons_of_pos hp, List.filter_nil]
theorem take_filter_neg {vs : List Vr} {p : Vr → Bool} {k : Nat} {x : Vr} (h : vs[k]? = some x) (hp : p x = false) : (vs.take (k + 1)).filter p = (vs.take k).filter p := by
  obtain ⟨hk, rfl⟩ := List.getElem?_eq_some_iff.1 h
  rw [List.take_succ_eq_append_getElem hk, List.filter_append, List.filter_cons_of_neg (by rw [hp]; decide), List.filter_nil, List.append_nil]
section
variable (w : World) (pm bo bd : Nat) (t : TS) (ph : Nat) (a : Option Addr) (c : Nat) (vs : List Vr) (v : Vw) (va : Option Addr) (vc : Nat)
set_option maxHeartbeats 3200000 in
theorem Scan_calls (hH : Hp w pm bo bd t ph a c vs) (hv : VwOk w v va vc) :
    Calls Try.prog 18 #[.pointer (some ⟨ph, 0, none⟩), vwV v va vc] w fun e w' => ScanRes (scanL t v vs) w e w' := by
  obtain ⟨i0, hi, hz0, hz1, hz2⟩ := info_parts infoRow
  have hN : ∀ W, Gr w W → Calls Try.prog 44 #[.pointer (some ⟨ph, 0, none⟩)] W fun e w' => e = .returned (.bool false) ∧ W = w' :=
    fun W hg => none_calls W pm bo bd t ph a c vs (hH.gr hg)
  have hSe : ∀ W x, Below w.heap.size w W → x ∈ vs → Calls Try.prog 45 #[.pointer (some ⟨ph, 0, none⟩), vwV v va vc, .agg (encV x).toArray] W fun e w' => e = .returned (.bool (visB t v x)) ∧ Gr W w' :=
    fun W x hb hx => sees_calls W pm bo bd t ph a c vs v va vc x (hH.bl hb) (hv.bl hb) (hH.wf x hx).2.1 (hH.wf x hx).2.2
  have h1 := hH.h1
  have hph := World.block_lt_of_cell? w ⟨ph, 0, none⟩ hH.h0
  simp only at hph
  have HH := Lib.hid hH
  have HN := Lib.hid hN
  have HS := Lib.hid hSe
  have hlim := hH.lim
  clear hN hSe hH hv
  go_enter Try.func18, Try.ntmps18
  go_wp2_with (go_at_call 44; refine (HN.out _ (by exact Gr.alloc _ _)).mono ?_; rintro e w' ⟨rfl, rfl⟩)
  obtain ⟨W0, hW0⟩ : ∃ W0, w.alloc (.cells #[.int .i64 v.max, .slice va v.opn.length vc, .int .i64 v.own] 35) = W0 := ⟨_, rfl⟩
  have b0 : W0.cell? ⟨w.heap.size, 0, none⟩ = some (.int .i64 v.max) := by rw [← hW0]; simp [go_sem]
  have b1 : W0.cell? ⟨w.heap.size, 1, none⟩ = some (.slice va v.opn.length vc) := by rw [← hW0]; simp [go_sem]
  have b2 : W0.cell? ⟨w.heap.size, 2, none⟩ = some (.int .i64 v.own) := by rw [← hW0]; simp [go_sem]
  have G0 : Hid (Gr w W0) := by rw [← hW0]; exact Gr.alloc _ _
  have sz : W0.heap.size = w.heap.size + 1 := by rw [← hW0]; simp
  have SZ := Lib.hid sz
  have HB := Lib.hid (And.intro b0 (And.intro b1 b2))
  rw [hW0]
  clear hW0 sz b0 b1 b2
  go_loopw [5, 15] (fun vl vi W => ∃ (k n : Nat) (a' : Option Addr) (c' : Nat), vl = .slice a' n c' ∧ vi = .int .i64 k ∧ k ≤ vs.length ∧ n ≤ k ∧ Hid (Below W0.heap.size W0 W ∧ W.ownsRow 0 38 2 (.slice a' n c') n ((visL t v (vs.take k)).flatMap encR) ∧ (visL t v (vs.take k)).length = n ∧ ∀ x, a' = some x → W0.heap.size ≤ x.block)) (fun _ vi _ => vs.length - (RowKit.intOf vi).toNat)
  case atStart => exact ⟨0, 0, none, 0, rfl, rfl, Nat.zero_le _, Nat.le_refl _, Below.refl _ _, World.ownsRow_nil _ _ _ _, rfl, fun x hx => by cases hx⟩
  case round =>
    obtain ⟨k, n, a', c', rfl, rfl, hk, hnk, hI⟩ := hrel
    by_cases hlt : k < vs.length
    · have hltz : (k : Int) < (vs.length : Int) := by omega
      obtain ⟨x, hx⟩ : ∃ x, vs[k]? = some x := ⟨_, List.getElem?_eq_getElem hlt⟩
      have hbl := hI.out.1
      have hblw : Below w.heap.size w wr := G0.out.below.trans (hbl.mono G0.out.size)
      have hH2 := HH.out.bl hblw
      obtain ⟨g, rfl, d0, d1, d2, d3⟩ := hH2.row.at hx
      have b0 := Bl.cell hbl HB.out.1
      have b1 := Bl.cell hbl HB.out.2.1
      have b2 := Bl.cell hbl HB.out.2.2
      have hwl : w.heap.size < wr.heap.size := by have := hbl.size; have := SZ.out; omega
      have hSe : ∀ W, Gr wr W → Calls Try.prog 45 #[.pointer (some ⟨ph, 0, none⟩), vwV v va vc, .agg (encV x).toArray] W fun e w' => e = .returned (.bool (visB t v x)) ∧ Gr W w' :=
        fun W hg => HS.out W x (hblw.trans (hg.below' hblw.size)) (List.mem_of_getElem? hx)
      have HX := Lib.hid hx
      have HBW := Lib.hid hblw
      clear hx hbl hblw hH2
      obtain ⟨xk, xt, xb, xd⟩ := x
      unfold encV at hSe
      have HSe := Lib.hid hSe
      clear hSe
      cases hq : visB t v ⟨xk, xt, xb, xd⟩
      · rw [hq] at HSe
        have NXT : Hid ((visL t v (vs.take (k + 1))) = visL t v (vs.take k)) := by show _ = _; unfold visL; rw [take_filter_neg HX.out hq]
        clear hq
        go_wp2_with (go_at_call 45; refine (HSe.out _ (Gr.alloc _ _)).mono ?_; rintro e w1 ⟨rfl, hg⟩)
        go_roundw
        case rel =>
          obtain ⟨r1, r2, r3, r4⟩ := hI.out
          have G := (Gr.alloc _ _).trans hg
          exact ⟨k + 1, n, a', c', rfl, by go_num, by omega, by omega, r1.trans (G.below' r1.size), by rw [NXT.out]; exact ownsRow_heap r2 (fun b hb => G.heap (r2.lt b hb).2), by rw [NXT.out]; exact r3, r4⟩
        case measure => simp [RowKit.intOf]; omega
      · rw [hq] at HSe
        have NXT : Hid ((visL t v (vs.take (k + 1))) = visL t v (vs.take k) ++ [(xk, xt)]) := by show _ = _; unfold visL; rw [take_filter_pos HX.out hq]; simp [Vr.row]
        clear hq
        go_wp2_with fail
        refine (HSe.out _ (Gr.alloc _ _)).mono ?_
        rintro e w1 ⟨rfl, hg⟩
        have k0 := hg.cell (a := ⟨wr.heap.size, 0, none⟩) (v := .int .i64 xk) (by simp [go_sem])
        have k1 := hg.cell (a := ⟨wr.heap.size, 1, none⟩) (v := .string xt) (by simp [go_sem])
        have G := (Gr.alloc _ _).trans hg
        have hrow : w1.ownsRow 0 38 2 (.slice a' n c') n ((visL t v (vs.take k)).flatMap encR) := ownsRow_heap hI.out.2.1 (fun b hb => G.heap (hI.out.2.1.lt b hb).2)
        have HG := Lib.hid G
        have HR := Lib.hid hrow
        have hm1 : n + 1 ≤ maxLen := by unfold maxLen; omega
        have hm2 : (n + 1) * 24 ≤ 140737488355328 := by omega
        have hcell : ∀ u ∈ [Value.int .i64 xk, .string xt], u.oneCell' = true := by intro u hu; simp at hu; rcases hu with rfl | rfl <;> rfl
        have HC := Lib.hid hcell
        clear hg G hrow hcell
        go_wp2_with (at_builtin; refine wpList_append_own2 rfl _ _ 40 rfl 38 i0 _ 2 24 Try.underlying40 hi hz0 hz1 hz2 rfl (by decide) (.slice a' n c') n _ rfl (by exact HR.out.alloc _) ⟨w1.heap.size, 0, none⟩ 1 1 [.int .i64 xk, .string xt] rfl rfl (by exact newCells) HC.out hm1 hm2 ?_; intro v' w2 hown hgr hbk; obtain ⟨a2, c2, rfl⟩ := ownsRow_slice hown; have HO := Lib.hid hown; have HGR := Lib.hid hgr; have HBK := Lib.hid hbk; clear hown hgr hbk)
        go_roundw
        case rel =>
          obtain ⟨r1, r2, r3, r4⟩ := hI.out
          have r5 : Below W0.heap.size W0 w1 := r1.trans (HG.out.below' r1.size)
          have r6 : Below W0.heap.size W0 (w1.alloc (.cells #[.int .i64 xk, .string xt] 38)) := r5.alloc r5.size _
          refine ⟨k + 1, n + 1, a2, c2, rfl, by go_num, by omega, by omega, r6.grown HGR.out r6.size (fun b hb => ?_), ?_, ?_, ?_⟩
          · cases a' with
            | none => simp [Value.ownBlock] at hb
            | some y => simp [Value.ownBlock] at hb; rw [← hb]; exact r4 y rfl
          · rw [NXT.out, List.flatMap_append]; exact HO.out
          · rw [NXT.out, List.length_append, r3]; rfl
          · intro y hy
            subst hy
            rcases HBK.out with h | h
            · cases a' with
              | none => simp [Value.ownBlock] at h
              | some z => simp only [Value.ownBlock, Option.some.injEq] at h; rw [h]; exact r4 z rfl
            · exact Nat.le_trans r6.size (h y.block (by simp [Value.ownBlock]))
        case measure => simp [RowKit.intOf]; omega
    · have hltz : ¬ (k : Int) < (vs.length : Int) := by omega
      have hkk : vs.length ≤ k := by omega
      have egs := enters_of Try.func47 (by kernel_rfl) rfl
      have FIN : Hid (∀ e w', e = Ending.returned (.tuple #[]) ∧ w'.ownsRow 0 38 2 (.slice a' n c') n ((sortS kyR (visL t v vs)).flatMap encR) ∧ Tc (fun b => ∃ x, a' = some x ∧ x.block = b) wr w' → ScanRes (scanL t v vs) w (.returned (.slice a' n c')) w') := by
        rintro e w' ⟨_, h2, h3⟩
        obtain ⟨r1, r2, r3, r4⟩ := hI.out
        rw [List.take_of_length_le hkk] at r3
        have hn : (scanL t v vs).length = n := by unfold scanL; rw [length_sortS]; exact r3
        refine ⟨a', c', by rw [hn], by unfold RowRow; rw [hn]; exact h2, ?_, fun x hx => Nat.le_trans G0.out.size (r4 x hx)⟩
        have hb : Below W0.heap.size W0 w' := r1.trans ⟨h3.os, h3.tape, h3.output, h3.size, fun b hb => h3.heap b (Nat.lt_of_lt_of_le hb r1.size) (fun ⟨x, hx, hxb⟩ => by have := r4 x hx; omega)⟩
        exact G0.out.below.trans (hb.mono G0.out.size)
      have hsort : Calls Try.prog 46 #[.slice a' n c', .func (.func 47) #[] #[]] wr fun e w' => e = .returned (.tuple #[]) ∧ w'.ownsRow 0 38 2 (.slice a' n c') n ((sortS kyR (visL t v vs)).flatMap encR) ∧ Tc (fun b => ∃ x, a' = some x ∧ x.block = b) wr w' := by
        obtain ⟨r1, r2, r3, r4⟩ := hI.out
        rw [List.take_of_length_le hkk] at r2
        exact SortR_calls 47 egs Scan1_calls wr a' c' n _ r2 (by omega)
      have HSO := Lib.hid hsort
      clear hsort egs hI
      go_wp2_with (go_at_call 46; refine HSO.out.mono ?_; rintro e w1 ⟨rfl, hq⟩)
      go_ret
      exact FIN.out _ _ ⟨rfl, hq⟩

omit pm bo bd t ph a c vs v va vc w in
theorem RowRow.at {w : World} {a : Option Addr} {c : Nat} {l : List Rw} (h : RowRow w a c l) {k : Nat} {x : Rw} (hx : l[k]? = some x) :
    ∃ g, a = some ⟨g, 0, none⟩ ∧ w.cell? ⟨g, k * 2, none⟩ = some (.int .i64 x.1) ∧ w.cell? ⟨g, k * 2 + 1, none⟩ = some (.string x.2) := by
  have hk := (List.getElem?_eq_some_iff.1 hx).1
  rcases h.2 with ⟨_, h0⟩ | ⟨g, cap, cur, hv, _⟩
  · omega
  · simp only [Value.slice.injEq] at hv
    obtain ⟨rfl, _, rfl⟩ := hv
    have hS : SWR w g c l.length l w := ⟨h, Tc.refl _ _⟩
    exact ⟨g, rfl, hS.at hx⟩
/-- What Truncate tells, and leaves. -/
def truncE (t : TS) (v : Vw) (vs : List Vr) : Int := if stOf t v.own = 1 then (if vs.any (fun x => visB t v x && othersB t v.own x.died) then 6 else 0) else 7
def truncL (t : TS) (v : Vw) (vs : List Vr) : List Rw := if truncE t v vs = 0 then scanL t v vs else []
def killAll (t : TS) (v : Vw) (vs : List Vr) (l : List Rw) : List Vr := l.foldl (fun vs r => killV t v vs r.1) vs
def truncV (t : TS) (v : Vw) (vs : List Vr) : List Vr := killAll t v vs (truncL t v vs)
def TruncRes (w : World) (pm bo bd : Nat) (t : TS) (ph : Nat) (a : Option Addr) (v : Vw) (vs : List Vr) (e : Ending) (w' : World) : Prop :=
  ∃ ar cr a' c', e = .returned (.tuple #[.slice ar (truncL t v vs).length cr, .int .i64 (truncE t v vs)]) ∧ RowRow w' ar cr (truncL t v vs) ∧ Hp w' pm bo bd t ph a' c' (truncV t v vs) ∧ Tc (hpB ph a) w w' ∧
    (∀ b, a' = some b → a = some b ∨ w.heap.size ≤ b.block) ∧ (∀ x, ar = some x → w.heap.size ≤ x.block) ∧ (∀ x y, ar = some x → a' = some y → x.block ≠ y.block)
set_option maxHeartbeats 6400000 in
theorem Truncate_calls (hH : Hp w pm bo bd t ph a c vs) (hv : VwOk w v va vc) (ho : wfI v.own) (hva : ∀ x, va = some x → ¬ hpB ph a x.block) :
    Calls Try.prog 19 #[.pointer (some ⟨ph, 0, none⟩), vwV v va vc] w fun e w' => TruncRes w pm bo bd t ph a v vs e w' := by
  have hmf : ∀ (fn : Fn) (first cap : Array Value) (w : World), (Instr.makeFunc fn first cap).run Try.prog w = .ok (.func fn first cap) w := fun _ _ _ _ => rfl
  have eg := enters_of Try.func49 (by kernel_rfl) rfl
  have hR : ∀ W, Gr w W → Calls Try.prog 37 #[.pointer (some ⟨ph, 0, none⟩), vwV v va vc] W fun e w' => e = .returned (.int .i64 (readyE t v.own)) ∧ Gr W w' :=
    fun W hg => ready_calls W pm bo bd t ph a c vs v va vc (hH.gr hg) ho
  have hC : ∀ W, Gr w W → Box W (w.heap.size + 1) w.heap.size (w.heap.size + 1) v.max ph v va vc →
      Calls Try.prog 39 #[.slice a vs.length c, .func (.func 49) #[] #[.pointer (some ⟨w.heap.size, 0, none⟩), .pointer (some ⟨w.heap.size + 1, 0, none⟩)]] W
        fun e w' => e = .returned (.bool (vs.any (fun x => visB t v x && othersB t v.own x.died))) ∧ Gr W w' :=
    fun W hg hB => ContainsV_calls W a c vs _ 49 _ eg (hH.gr hg).row (by have := hH.lim; omega) (fun W2 x hg2 hx => Truncate1_calls W2 pm bo bd t ph a c vs v va vc _ _ _ _ x (hH.gr (hg.trans hg2)) (hv.gr (hg.trans hg2)) (hB.gr hg2) (hH.wf x hx).2.1 (hH.wf x hx).2.2)
  have hS : ∀ W, Gr w W → Calls Try.prog 18 #[.pointer (some ⟨ph, 0, none⟩), vwV v va vc] W fun e w' => ScanRes (scanL t v vs) W e w' :=
    fun W hg => Scan_calls W pm bo bd t ph a c vs v va vc (hH.gr hg) (hv.gr hg)
  have hK : ∀ W a' c' vs' key, Hp W pm bo bd t ph a' c' vs' → VwOk W v va vc → Calls Try.prog 51 #[.pointer (some ⟨ph, 0, none⟩), vwV v va vc, .int .i64 key] W fun e w' => e = .returned (.int .i64 (killE t v vs' key)) ∧ HS W pm bo bd t ph a' (killV t v vs' key) w' :=
    fun W a' c' vs' key h1 h2 => kill_calls W pm bo bd t ph a' c' vs' v va vc key h1 h2 ho
  have HH := Lib.hid hH
  have HV := Lib.hid hv
  have HS0 := Lib.hid hS
  have HK := Lib.hid hK
  have HC0 := Lib.hid hC
  have noRow : ∀ W', Gr w W' → truncE t v vs ≠ 0 → TruncRes w pm bo bd t ph a v vs (.returned (.tuple #[.slice none 0 0, .int .i64 (truncE t v vs)])) W' := by
    intro W' hg he
    have e1 : truncL t v vs = [] := by unfold truncL; rw [if_neg he]
    have e2 : truncV t v vs = vs := by unfold truncV; rw [e1]; rfl
    refine ⟨none, 0, a, c, by rw [e1]; rfl, by rw [e1]; exact World.ownsRow_nil _ _ _ _, by rw [e2]; exact hH.gr hg, hg.tc _, fun b hb => Or.inl hb, fun x hx => (by cases hx), fun x y hx => (by cases hx)⟩
  have HNR := Lib.hid noRow
  have HVA := Lib.hid hva
  clear hva
  by_cases hr : stOf t v.own = 1
  · have er : readyE t v.own = 0 := by simp [readyE, hr]
    rw [er] at hR
    have HR := Lib.hid hR
    clear hR er hS hC hK hH hv ho noRow
    cases hq : vs.any (fun x => visB t v x && othersB t v.own x.died)
    · have E : Hid (truncE t v vs = 0) := by show _ = _; unfold truncE; rw [if_pos hr, hq]; rfl
      have HC : Hid _ := fun W hg hB => by have := HC0.out W hg hB; rw [hq] at this; exact this
      clear hr hq HC0 HNR
      go_enter Try.func19, Try.ntmps19
      go_wp2_with fail
      refine (HR.out _ ((Gr.alloc _ _).trans (Gr.alloc _ _))).mono ?_
      rintro e w1 ⟨rfl, hg⟩
      have c0 := hg.cell (a := ⟨w.heap.size, 0, none⟩) (v := .pointer (some ⟨ph, 0, none⟩)) (by simp [go_sem])
      have b0 := hg.cell (a := ⟨w.heap.size + 1, 0, none⟩) (v := .int .i64 v.max) (by simp [go_sem])
      have b1 := hg.cell (a := ⟨w.heap.size + 1, 1, none⟩) (v := .slice va v.opn.length vc) (by simp [go_sem])
      have b2 := hg.cell (a := ⟨w.heap.size + 1, 2, none⟩) (v := .int .i64 v.own) (by simp [go_sem])
      have G := Lib.hid (((Gr.alloc _ _).trans (Gr.alloc _ _)).trans hg)
      have h1 := (HH.out.gr G.out).h1
      clear hg
      go_wp2_with fail
      refine (HC.out _ G.out ⟨b0, c0, b0, b1, b2⟩).mono ?_
      rintro e w2 ⟨rfl, hg⟩
      have c0' := hg.cell c0
      have b0' := hg.cell b0
      have b1' := hg.cell b1
      have b2' := hg.cell b2
      have G2 := Lib.hid (G.out.trans hg)
      clear hg c0 b0 b1 b2 h1
      go_wp2_with fail
      refine (HS0.out _ G2.out).mono ?_
      rintro e w3 ⟨ar, cr, rfl, hrr, hbl, hnew⟩
      have hbw : Below w.heap.size w w3 := G2.out.below.trans (hbl.mono G2.out.size)
      have hnb : ∀ b, w.heap.size ≤ b → ¬ hpB ph a b := fun b hb => hpB_not HH.out hb
      have c0 := Bl.cell hbl c0'
      have b0 := Bl.cell hbl b0'
      have b1 := Bl.cell hbl b1'
      have b2 := Bl.cell hbl b2'
      have KEEP : Hid (∀ W, Tc (hpB ph a) w3 W → RowRow W ar cr (scanL t v vs) ∧ VwOk W v va vc ∧ W.cell? ⟨w.heap.size, 0, none⟩ = some (.pointer (some ⟨ph, 0, none⟩)) ∧ W.cell? ⟨w.heap.size + 1, 0, none⟩ = some (.int .i64 v.max) ∧ W.cell? ⟨w.heap.size + 1, 1, none⟩ = some (.slice va v.opn.length vc) ∧ W.cell? ⟨w.heap.size + 1, 2, none⟩ = some (.int .i64 v.own)) := by
        intro W hT
        refine ⟨ownsRow_heap hrr (fun b hb => hT.heap b (hrr.lt b hb).2 (hnb b ?_)), ⟨ownsRow_heap (HV.out.bl hbw).row (fun b hb => hT.heap b ((HV.out.bl hbw).row.lt b hb).2 ?_), HV.out.lim⟩, Tc_cell hT c0 (hnb _ (by simp)), Tc_cell hT b0 (hnb _ (by simp)), Tc_cell hT b1 (hnb _ (by simp)), Tc_cell hT b2 (hnb _ (by simp))⟩
        · cases ar with
          | none => simp [Value.ownBlock] at hb
          | some y => simp [Value.ownBlock] at hb; rw [← hb]; exact Nat.le_trans G2.out.size (hnew y rfl)
        · cases va with
          | none => simp [Value.ownBlock] at hb
          | some y => simp [Value.ownBlock] at hb; rw [← hb]; exact HVA.out y rfl
      have H3 : Hid (∃ a' c', Hp w3 pm bo bd t ph a' c' (killAll t v vs ((scanL t v vs).take 0)) ∧ Tc (hpB ph a) w3 w3 ∧ ∀ b, a' = some b → a = some b ∨ w3.heap.size ≤ b.block) :=
        ⟨a, c, HH.out.bl hbw, Tc.refl _ _, fun b hb => Or.inl hb⟩
      have FIN : Hid (∀ W, (∃ a' c', Hp W pm bo bd t ph a' c' (killAll t v vs (scanL t v vs)) ∧ Tc (hpB ph a) w3 W ∧ ∀ b, a' = some b → a = some b ∨ w3.heap.size ≤ b.block) → TruncRes w pm bo bd t ph a v vs (.returned (.tuple #[.slice ar (scanL t v vs).length cr, .int .i64 0])) W) := by
        rintro W ⟨a', c', q1, q2, q3⟩
        have e1 : truncL t v vs = scanL t v vs := by unfold truncL; rw [if_pos E.out]
        refine ⟨ar, cr, a', c', by rw [e1, E.out], by rw [e1]; exact (KEEP.out W q2).1, by unfold truncV; rw [e1]; exact q1, ⟨q2.os.trans hbw.os, q2.tape.trans hbw.tape, q2.output.trans hbw.output, Nat.le_trans hbw.size q2.size, fun b hb hn => (q2.heap b (Nat.lt_of_lt_of_le hb hbw.size) hn).trans (hbw.block b hb)⟩, fun b hb => (q3 b hb).imp id (fun h => Nat.le_trans hbw.size h), fun x hx => Nat.le_trans G2.out.size (hnew x hx), ?_⟩
        intro x y hx hy
        have hxl : x.block < w3.heap.size := by subst hx; exact (hrr.lt x.block (by simp [Value.ownBlock])).2
        have hxg := Nat.le_trans G2.out.size (hnew x hx)
        rcases q3 y hy with h | h
        · have : y.block < w.heap.size := (HH.out.row.lt y.block (by rw [h]; simp [Value.ownBlock])).2
          omega
        · omega
      have hlen : (scanL t v vs).length ≤ 100000000 := by
        unfold scanL visL
        rw [length_sortS, List.length_map]
        exact Nat.le_trans (List.length_filter_le _ _) HH.out.lim
      have hw3 : w.heap.size + 1 < w3.heap.size := by have := World.block_lt_of_cell? w3 ⟨w.heap.size + 1, 0, none⟩ b0; exact this
      clear hbl c0' b0' b1' b2' c0 b0 b1 b2 hrr hnew hbw hnb
      go_wp2
      obtain ⟨wo, rfl⟩ : ∃ wo : World, wo = w3 := ⟨_, rfl⟩
      go_loopw [27] (fun vi W => ∃ k : Nat, vi = .int .i64 k ∧ k ≤ (scanL t v vs).length ∧ Hid (∃ a' c', Hp W pm bo bd t ph a' c' (killAll t v vs ((scanL t v vs).take k)) ∧ Tc (hpB ph a) wo W ∧ ∀ b, a' = some b → a = some b ∨ wo.heap.size ≤ b.block)) (fun vi _ => (scanL t v vs).length - (RowKit.intOf vi).toNat)
      case atStart => exact ⟨0, rfl, Nat.zero_le _, H3.out⟩
      case round =>
        obtain ⟨k, rfl, hk, hI⟩ := hrel
        by_cases hlt : k < (scanL t v vs).length
        · have hltz : (k : Int) < ((scanL t v vs).length : Int) := by omega
          obtain ⟨a', c', q1, q2, q3⟩ := hI.out
          obtain ⟨r, hr⟩ : ∃ r, (scanL t v vs)[k]? = some r := ⟨_, List.getElem?_eq_getElem hlt⟩
          obtain ⟨k1, k2, c0, b0, b1, b2⟩ := KEEP.out wr q2
          obtain ⟨g, rfl, d0, d1⟩ := RowRow.at k1 hr
          have hwl : w.heap.size < wr.heap.size := World.block_lt_of_cell? wr ⟨w.heap.size, 0, none⟩ c0
          have hwl1 : w.heap.size + 1 < wr.heap.size := World.block_lt_of_cell? wr ⟨w.heap.size + 1, 0, none⟩ b0
          have hkill : ∀ W, Gr wr W → Calls Try.prog 51 #[.pointer (some ⟨ph, 0, none⟩), vwV v va vc, .int .i64 r.1] W fun e w' => e = .returned (.int .i64 (killE t v (killAll t v vs ((scanL t v vs).take k)) r.1)) ∧ Hid (∃ a' c', Hp w' pm bo bd t ph a' c' (killAll t v vs ((scanL t v vs).take (k + 1))) ∧ Tc (hpB ph a) wo w' ∧ ∀ b, a' = some b → a = some b ∨ wo.heap.size ≤ b.block) := by
            intro W hg
            refine (HK.out W a' c' _ r.1 (q1.gr hg) (k2.gr hg)).mono ?_
            rintro e w' ⟨he, a2, c2, p1, p2, p3⟩
            refine ⟨he, a2, c2, ?_, ?_, ?_⟩
            · have : killAll t v vs ((scanL t v vs).take (k + 1)) = killV t v (killAll t v vs ((scanL t v vs).take k)) r.1 := by
                obtain ⟨hkl, rfl⟩ := List.getElem?_eq_some_iff.1 hr
                rw [List.take_succ_eq_append_getElem hkl]; unfold killAll; rw [List.foldl_append]; rfl
              rw [this]; exact p1
            · have hsz : wo.heap.size ≤ W.heap.size := Nat.le_trans q2.size hg.size
              refine ⟨p2.os.trans (hg.below.os.trans q2.os), p2.tape.trans (hg.below.tape.trans q2.tape), p2.output.trans (hg.below.output.trans q2.output), Nat.le_trans hsz p2.size, fun b hb hn => ?_⟩
              rw [p2.heap b (Nat.lt_of_lt_of_le hb hsz) ?_, hg.heap (Nat.lt_of_lt_of_le hb q2.size), q2.heap b hb hn]
              rintro (rfl | ⟨y, hy, rfl⟩)
              · exact hn (Or.inl rfl)
              · rcases q3 y hy with h | h
                · exact hn (Or.inr ⟨y, h, rfl⟩)
                · omega
            · intro b hb
              rcases p3 b hb with h | h
              · exact q3 b h
              · exact Or.inr (Nat.le_trans (Nat.le_trans q2.size hg.size) h)
          have HKI := Lib.hid hkill
          clear hkill q1 q2 q3 k1 k2 hr hI
          obtain ⟨rk, rt⟩ := r
          simp only at d0 d1 HKI
          go_wp2_with (go_at_call 51; refine (HKI.out _ (by exact Gr.alloc _ _)).mono ?_; rintro e w4 ⟨rfl, hq⟩)
          go_roundw
          case rel => exact ⟨k + 1, by go_num, by omega, hq⟩
          case measure => simp [RowKit.intOf]; omega
        · have hltz : ¬ (k : Int) < ((scanL t v vs).length : Int) := by omega
          have NXT : Hid (∃ a' c', Hp wr pm bo bd t ph a' c' (killAll t v vs (scanL t v vs)) ∧ Tc (hpB ph a) wo wr ∧ ∀ b, a' = some b → a = some b ∨ wo.heap.size ≤ b.block) := by
            have := hI.out
            rw [List.take_of_length_le (by omega)] at this
            exact this
          clear hI
          go_wp2
          go_ret2
          exact FIN.out _ NXT.out
    · have E : Hid (truncE t v vs = 6) := by show _ = _; unfold truncE; rw [if_pos hr, hq]; rfl
      have HC : Hid _ := fun W hg hB => by have := HC0.out W hg hB; rw [hq] at this; exact this
      clear hr hq HC0
      go_enter Try.func19, Try.ntmps19
      go_wp2_with fail
      refine (HR.out _ ((Gr.alloc _ _).trans (Gr.alloc _ _))).mono ?_
      rintro e w1 ⟨rfl, hg⟩
      have c0 := hg.cell (a := ⟨w.heap.size, 0, none⟩) (v := .pointer (some ⟨ph, 0, none⟩)) (by simp [go_sem])
      have b0 := hg.cell (a := ⟨w.heap.size + 1, 0, none⟩) (v := .int .i64 v.max) (by simp [go_sem])
      have b1 := hg.cell (a := ⟨w.heap.size + 1, 1, none⟩) (v := .slice va v.opn.length vc) (by simp [go_sem])
      have b2 := hg.cell (a := ⟨w.heap.size + 1, 2, none⟩) (v := .int .i64 v.own) (by simp [go_sem])
      have G := Lib.hid (((Gr.alloc _ _).trans (Gr.alloc _ _)).trans hg)
      have h1 := (HH.out.gr G.out).h1
      clear hg
      go_wp2_with fail
      refine (HC.out _ G.out ⟨b0, c0, b0, b1, b2⟩).mono ?_
      rintro e w2 ⟨rfl, hg⟩
      have G2 := Lib.hid (G.out.trans hg)
      clear hg
      go_wp2
      go_ret2
      have := HNR.out _ G2.out (by rw [E.out]; decide)
      rw [E.out] at this
      exact this
  · have er : readyE t v.own = 7 := by simp [readyE, hr]
    have E : Hid (truncE t v vs = 7) := by show _ = _; simp [truncE, hr]
    rw [er] at hR
    have HR := Lib.hid hR
    clear hR er hr hS hC hK hH hv ho noRow
    go_enter Try.func19, Try.ntmps19
    go_wp2_with (go_at_call 37; refine (HR.out _ (by exact (Gr.alloc _ _).trans (Gr.alloc _ _))).mono ?_; rintro e w1 ⟨rfl, hg⟩)
    go_ret2
    have := HNR.out _ (((Gr.alloc _ _).trans (Gr.alloc _ _)).trans hg) (by rw [E.out]; decide)
    rw [E.out] at this
    exact this
end
end Go.Proofs.Ytannjecmfbhkeaa
