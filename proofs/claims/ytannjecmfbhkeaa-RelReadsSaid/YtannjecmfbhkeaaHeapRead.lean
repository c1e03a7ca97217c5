/- Package snap's Sees; package heap's functions that only read. -/
import Derived.Test.YtannjecmfbhkeaaTxn
import Derived.Test.YtannjecmfbhkeaaSlices
namespace Go.Proofs.Ytannjecmfbhkeaa
open Go Go.RowKit Go.Lib Go.Maps

abbrev wfI (x : Int) : Prop := (Lit.int .i64 x).wf = true
theorem wfI_iff {x : Int} : wfI x ↔ -9223372036854775808 ≤ x ∧ x ≤ 9223372036854775807 := by
  simp [wfI, Lit.wf, IntKind.min, IntKind.max, IntKind.signed, IntKind.bits]

/-- A view as a value. -/
abbrev vwV (v : Vw) (a : Option Addr) (c : Nat) : Value := .agg #[.int .i64 v.max, .slice a v.opn.length c, .int .i64 v.own]
structure VwOk (w : World) (v : Vw) (a : Option Addr) (c : Nat) : Prop where
  row : I64Row w a c v.opn
  lim : v.opn.length ≤ 140737488355328
theorem VwOk.gr {w w' : World} {v : Vw} {a : Option Addr} {c : Nat} (h : VwOk w v a c) (hg : Gr w w') : VwOk w' v a c :=
  ⟨ownsRow_heap h.row (fun b hb => hg.heap (h.row.lt b hb).2), h.lim⟩

/-- A heap, its manager, what it holds. -/
structure Hp (w : World) (pm bo bd : Nat) (t : TS) (ph : Nat) (a : Option Addr) (c : Nat) (vs : List Vr) : Prop where
  M : MgrOk w pm bo bd t
  h0 : w.cell? ⟨ph, 0, none⟩ = some (.pointer (some ⟨pm, 0, none⟩))
  h1 : w.cell? ⟨ph, 1, none⟩ = some (.slice a vs.length c)
  f1 : w.frozen? ⟨ph, 1, none⟩ = false
  row : VerRow w a c vs
  wf : ∀ x ∈ vs, wfI x.key ∧ wfI x.born ∧ wfI x.died
  lim : vs.length ≤ 100000000
  ap : ph ≠ pm ∧ ph ≠ bo ∧ ph ≠ bd
  apR : ∀ b, a = some b → b.block ≠ ph ∧ b.block ≠ pm ∧ b.block ≠ bo ∧ b.block ≠ bd
section
variable {w w' : World} {pm bo bd : Nat} {t : TS} {ph : Nat} {a : Option Addr} {c : Nat} {vs : List Vr}
theorem Hp.gr (h : Hp w pm bo bd t ph a c vs) (hg : Gr w w') : Hp w' pm bo bd t ph a c vs :=
  ⟨h.M.gr hg, hg.cell h.h0, hg.cell h.h1, hg.frozen h.h1 h.f1, h.row.gr hg, h.wf, h.lim, h.ap, h.apR⟩
end

set_option maxHeartbeats 800000 in
theorem Sees_calls (w : World) (mx : Int) (xs : List Int) (a : Option Addr) (c : Nat) (x : Int) (h : I64Row w a c xs) (hl : xs.length ≤ 140737488355328) :
    Calls Try.prog 57 #[.agg #[.int .i64 mx, .slice a xs.length c], .int .i64 x] w fun e w' => e = .returned (.bool (seesB mx xs x)) ∧ Gr w w' := by
  have hc : ∀ W, Gr w W → Calls Try.prog 68 #[.slice a xs.length c, .int .i64 x] W fun e w' => e = .returned (.bool (decide (x ∈ xs))) ∧ W = w' :=
    fun W hg => Contains_calls W a c xs x (ownsRow_heap h (fun b hb => hg.heap (h.lt b hb).2)) hl
  have HC := Lib.hid hc
  clear hc h
  by_cases h1 : 1 ≤ x
  · by_cases h2 : x < mx
    · have E : Hid (seesB mx xs x = !decide (x ∈ xs)) := by show _ = _; simp [seesB, h1, h2]
      go_enter Try.func57, Try.ntmps57
      go_wp2_with (go_at_call 68; refine (HC.out _ (by exact Gr.alloc _ _)).mono ?_; rintro e w' ⟨rfl, rfl⟩)
      go_ret
      rw [E.out]
      exact ⟨rfl, Gr.alloc _ _⟩
    · have E : Hid (seesB mx xs x = false) := by show _ = _; simp [seesB, h2]
      go_enter Try.func57, Try.ntmps57
      go_wp2
      go_ret
      rw [E.out]
      exact ⟨rfl, Gr.alloc _ _⟩
  · have E : Hid (seesB mx xs x = false) := by show _ = _; simp [seesB, h1]
    go_enter Try.func57, Try.ntmps57
    go_wp2
    go_ret
    rw [E.out]
    exact ⟨rfl, Gr.alloc _ _⟩

set_option maxHeartbeats 1600000 in
theorem did_calls (w : World) (pm bo bd : Nat) (t : TS) (ph : Nat) (a : Option Addr) (c : Nat) (vs : List Vr) (v : Vw) (va : Option Addr) (vc : Nat) (x : Int)
    (hH : Hp w pm bo bd t ph a c vs) (hv : VwOk w v va vc) (hx : wfI x) :
    Calls Try.prog 65 #[.pointer (some ⟨ph, 0, none⟩), vwV v va vc, .int .i64 x] w fun e w' => e = .returned (.bool (didB t v x)) ∧ Gr w w' := by
  have h0 := hH.h0
  have hph := World.block_lt_of_cell? w ⟨ph, 0, none⟩ hH.h0
  have hS : ∀ W, Gr w W → Calls Try.prog 52 #[.pointer (some ⟨pm, 0, none⟩), .int .i64 x] W fun e w' => e = .returned (.int .u8 (stOf t x)) ∧ W = w' :=
    fun W hg => State_calls W pm bo bd t x (hH.M.gr hg) hx
  have hE : ∀ W, Gr w W → Calls Try.prog 57 #[.agg #[.int .i64 v.max, .slice va v.opn.length vc], .int .i64 x] W fun e w' => e = .returned (.bool (seesB v.max v.opn x)) ∧ Gr W w' :=
    fun W hg => Sees_calls W v.max v.opn va vc x (hv.gr hg).row hv.lim
  have HS := Lib.hid hS
  have HE := Lib.hid hE
  clear hS hE hH hv
  by_cases h1 : 0 < x
  · by_cases h2 : x = v.own
    · subst h2
      have E : Hid (didB t v v.own = true) := by show _ = _; simp [didB, h1]
      go_enter Try.func65, Try.ntmps65
      go_wp2
      go_ret
      rw [E.out]
      exact ⟨rfl, Gr.alloc _ _⟩
    · have h2' : (x == v.own) = false := by simpa using h2
      by_cases h3 : stOf t x = 2
      · have E : Hid (didB t v x = seesB v.max v.opn x) := by show _ = _; simp [didB, h1, h2, h3]
        have HS2 : Hid (∀ W, Gr w W → Calls Try.prog 52 #[.pointer (some ⟨pm, 0, none⟩), .int .i64 x] W fun e w' => e = .returned (.int .u8 2) ∧ W = w') := by
          have := HS.out; rw [h3] at this; exact this
        clear h3 HS
        go_enter Try.func65, Try.ntmps65
        go_wp2_with (first
          | (go_at_call 52; refine (HS2.out _ (by exact Gr.alloc _ _)).mono ?_; rintro e w' ⟨rfl, rfl⟩)
          | (go_at_call 57; refine (HE.out _ (by exact Gr.alloc _ _)).mono ?_; rintro e w' ⟨rfl, hg⟩))
        go_ret
        rw [E.out]
        exact ⟨rfl, (Gr.alloc _ _).trans hg⟩
      · have E : Hid (didB t v x = false) := by show _ = _; simp [didB, h2, h3]
        have h3' : ((stOf t x : Int) == 2) = false := by simp; omega
        clear h3
        go_enter Try.func65, Try.ntmps65
        go_wp2_with (go_at_call 52; refine (HS.out _ (by exact Gr.alloc _ _)).mono ?_; rintro e w' ⟨rfl, rfl⟩)
        go_ret
        rw [E.out]
        exact ⟨rfl, Gr.alloc _ _⟩
  · have E : Hid (didB t v x = false) := by show _ = _; simp [didB, h1]
    go_enter Try.func65, Try.ntmps65
    go_wp2
    go_ret
    rw [E.out]
    exact ⟨rfl, Gr.alloc _ _⟩

/-- What the closures find in their boxes. -/
structure Box (w : World) (kb hb vb : Nat) (key : Int) (ph : Nat) (v : Vw) (va : Option Addr) (vc : Nat) : Prop where
  k : w.cell? ⟨kb, 0, none⟩ = some (.int .i64 key)
  h : w.cell? ⟨hb, 0, none⟩ = some (.pointer (some ⟨ph, 0, none⟩))
  v0 : w.cell? ⟨vb, 0, none⟩ = some (.int .i64 v.max)
  v1 : w.cell? ⟨vb, 1, none⟩ = some (.slice va v.opn.length vc)
  v2 : w.cell? ⟨vb, 2, none⟩ = some (.int .i64 v.own)
theorem Box.gr {w w' : World} {kb hb vb : Nat} {key : Int} {ph : Nat} {v : Vw} {va : Option Addr} {vc : Nat} (h : Box w kb hb vb key ph v va vc) (hg : Gr w w') : Box w' kb hb vb key ph v va vc :=
  ⟨hg.cell h.k, hg.cell h.h, hg.cell h.v0, hg.cell h.v1, hg.cell h.v2⟩

section
variable (w : World) (pm bo bd : Nat) (t : TS) (ph : Nat) (a : Option Addr) (c : Nat) (vs : List Vr) (v : Vw) (va : Option Addr) (vc : Nat)
set_option maxHeartbeats 1600000 in
theorem sees_calls (x : Vr) (hH : Hp w pm bo bd t ph a c vs) (hv : VwOk w v va vc) (hb : wfI x.born) (hd : wfI x.died) :
    Calls Try.prog 45 #[.pointer (some ⟨ph, 0, none⟩), vwV v va vc, .agg (encV x).toArray] w fun e w' => e = .returned (.bool (visB t v x)) ∧ Gr w w' := by
  have hc : ∀ W y, Gr w W → wfI y → Calls Try.prog 65 #[.pointer (some ⟨ph, 0, none⟩), vwV v va vc, .int .i64 y] W fun e w' => e = .returned (.bool (didB t v y)) ∧ Gr W w' :=
    fun W y hg hy => did_calls W pm bo bd t ph a c vs v va vc y (hH.gr hg) (hv.gr hg) hy
  have HC := Lib.hid hc
  clear hc hH hv
  obtain ⟨key, text, born, died⟩ := x
  simp only at hb hd
  unfold encV
  cases h1 : didB t v born
  · have E : Hid (visB t v ⟨key, text, born, died⟩ = false) := by show _ = _; simp [visB, h1]
    have H1 : Hid (∀ W, Gr w W → Calls Try.prog 65 #[.pointer (some ⟨ph, 0, none⟩), vwV v va vc, .int .i64 born] W fun e w' => e = .returned (.bool false) ∧ Gr W w') := by
      intro W hg; have := HC.out W born hg hb; rw [h1] at this; exact this
    clear h1 HC
    go_enter Try.func45, Try.ntmps45
    go_wp2_with (go_at_call 65; refine (H1.out _ (by exact (Gr.alloc _ _).trans (Gr.alloc _ _))).mono ?_; rintro e w1 ⟨rfl, hg⟩)
    go_ret
    rw [E.out]
    exact ⟨rfl, ((Gr.alloc _ _).trans (Gr.alloc _ _)).trans hg⟩
  · have E : Hid (visB t v ⟨key, text, born, died⟩ = !didB t v died) := by show _ = _; simp [visB, h1]
    have H1 : Hid (∀ W, Gr w W → Calls Try.prog 65 #[.pointer (some ⟨ph, 0, none⟩), vwV v va vc, .int .i64 born] W fun e w' => e = .returned (.bool true) ∧ Gr W w') := by
      intro W hg; have := HC.out W born hg hb; rw [h1] at this; exact this
    clear h1
    go_enter Try.func45, Try.ntmps45
    go_wp2_with fail
    refine (H1.out _ (by exact (Gr.alloc _ _).trans (Gr.alloc _ _))).mono ?_
    rintro e w1 ⟨rfl, hg⟩
    have b0 := hg.cell (a := ⟨w.heap.size, 0, none⟩) (v := .int .i64 v.max) (by simp [go_sem])
    have b1 := hg.cell (a := ⟨w.heap.size, 1, none⟩) (v := .slice va v.opn.length vc) (by simp [go_sem])
    have b2 := hg.cell (a := ⟨w.heap.size, 2, none⟩) (v := .int .i64 v.own) (by simp [go_sem])
    have b3 := hg.cell (a := ⟨w.heap.size + 1, 3, none⟩) (v := .int .i64 died) (by simp [go_sem])
    have G := Lib.hid (((Gr.alloc _ _).trans (Gr.alloc _ _)).trans hg)
    clear hg
    go_wp2_with (go_at_call 65; refine (HC.out _ died G.out hd).mono ?_; rintro e w2 ⟨rfl, hg2⟩)
    go_ret
    rw [E.out]
    exact ⟨rfl, G.out.trans hg2⟩

set_option maxHeartbeats 1600000 in
theorem others_calls (x : Int) (hH : Hp w pm bo bd t ph a c vs) (hx : wfI x) :
    Calls Try.prog 50 #[.pointer (some ⟨ph, 0, none⟩), vwV v va vc, .int .i64 x] w fun e w' => e = .returned (.bool (othersB t v.own x)) ∧ Gr w w' := by
  have h0 := hH.h0
  have hph := World.block_lt_of_cell? w ⟨ph, 0, none⟩ hH.h0
  have hS : ∀ W, Gr w W → Calls Try.prog 52 #[.pointer (some ⟨pm, 0, none⟩), .int .i64 x] W fun e w' => e = .returned (.int .u8 (stOf t x)) ∧ W = w' :=
    fun W hg => State_calls W pm bo bd t x (hH.M.gr hg) hx
  have HS := Lib.hid hS
  clear hS hH
  by_cases h3 : stOf t x = 2
  · have E : Hid (othersB t v.own x = true) := by show _ = _; simp [othersB, h3]
    have HS2 : Hid (∀ W, Gr w W → Calls Try.prog 52 #[.pointer (some ⟨pm, 0, none⟩), .int .i64 x] W fun e w' => e = .returned (.int .u8 2) ∧ W = w') := by
      have := HS.out; rw [h3] at this; exact this
    clear h3 HS
    go_enter Try.func50, Try.ntmps50
    go_wp2_with (go_at_call 52; refine (HS2.out _ (by exact Gr.alloc _ _)).mono ?_; rintro e w' ⟨rfl, rfl⟩)
    go_ret
    rw [E.out]
    exact ⟨rfl, Gr.alloc _ _⟩
  · have h3' : ((stOf t x : Int) == 2) = false := by simp; omega
    by_cases h4 : stOf t x = 1
    · have HS2 : Hid (∀ W, Gr w W → Calls Try.prog 52 #[.pointer (some ⟨pm, 0, none⟩), .int .i64 x] W fun e w' => e = .returned (.int .u8 1) ∧ W = w') := by
        have := HS.out; rw [h4] at this; exact this
      have E : Hid (othersB t v.own x = (x != v.own)) := by
        show _ = _
        simp only [othersB, h4]
        by_cases e : x = v.own <;> simp [e]
      clear h3 h3' h4 HS
      go_enter Try.func50, Try.ntmps50
      go_wp2_with (go_at_call 52; refine (HS2.out _ (by exact Gr.alloc _ _)).mono ?_; rintro e w' ⟨rfl, rfl⟩)
      go_ret
      rw [E.out]
      exact ⟨rfl, Gr.alloc _ _⟩
    · have h4' : ((stOf t x : Int) == 1) = false := by simp; omega
      have E : Hid (othersB t v.own x = false) := by show _ = _; simp [othersB, h3, h4]
      clear h3 h4
      go_enter Try.func50, Try.ntmps50
      go_wp2_with (go_at_call 52; refine (HS.out _ (by exact Gr.alloc _ _)).mono ?_; rintro e w' ⟨rfl, rfl⟩)
      go_ret
      rw [E.out]
      exact ⟨rfl, Gr.alloc _ _⟩

theorem none_calls (hH : Hp w pm bo bd t ph a c vs) :
    Calls Try.prog 44 #[.pointer (some ⟨ph, 0, none⟩)] w fun e w' => e = .returned (.bool false) ∧ w = w' := by
  have h0 := hH.h0
  clear hH
  go_enter Try.func44, Try.ntmps44
  go_wp2
  go_ret
  exact ⟨rfl, rfl⟩

set_option maxHeartbeats 1600000 in
theorem ready_calls (hH : Hp w pm bo bd t ph a c vs) (hx : wfI v.own) :
    Calls Try.prog 37 #[.pointer (some ⟨ph, 0, none⟩), vwV v va vc] w fun e w' => e = .returned (.int .i64 (readyE t v.own)) ∧ Gr w w' := by
  have h0 := hH.h0
  have hph := World.block_lt_of_cell? w ⟨ph, 0, none⟩ hH.h0
  have hS : ∀ W, Gr w W → Calls Try.prog 52 #[.pointer (some ⟨pm, 0, none⟩), .int .i64 v.own] W fun e w' => e = .returned (.int .u8 (stOf t v.own)) ∧ W = w' :=
    fun W hg => State_calls W pm bo bd t v.own (hH.M.gr hg) hx
  have hN : ∀ W, Gr w W → Calls Try.prog 44 #[.pointer (some ⟨ph, 0, none⟩)] W fun e w' => e = .returned (.bool false) ∧ W = w' :=
    fun W hg => none_calls W pm bo bd t ph a c vs (hH.gr hg)
  have HS := Lib.hid hS
  have HN := Lib.hid hN
  clear hS hN hH
  have mixed : Try.prog.follows .mixedOrders = true := by kernel_rfl
  have g0 : ∀ n os, (Sort.grow ((w.alloc (.cells #[.int .i64 v.max, .slice va v.opn.length vc, .int .i64 v.own] 35)).drewN n) os).cell? ⟨ph, 0, none⟩ = some (.pointer (some ⟨pm, 0, none⟩)) :=
    fun n os => ((Gr.alloc _ _).trans (Gr.grow _ n os)).cell h0
  have g1 : ∀ n os, (Sort.grow ((w.alloc (.cells #[.int .i64 v.max, .slice va v.opn.length vc, .int .i64 v.own] 35)).drewN n) os).cell? ⟨w.heap.size, 2, none⟩ = some (.int .i64 v.own) :=
    fun n os => (Gr.grow _ n os).cell (by simp [go_sem])
  by_cases h4 : stOf t v.own = 1
  · have HS2 : Hid (∀ W, Gr w W → Calls Try.prog 52 #[.pointer (some ⟨pm, 0, none⟩), .int .i64 v.own] W fun e w' => e = .returned (.int .u8 1) ∧ W = w') := by
      have := HS.out; rw [h4] at this; exact this
    have E : Hid (readyE t v.own = 0) := by show _ = _; simp [readyE, h4]
    clear h4 HS
    go_enter Try.func37, Try.ntmps37
    go_wp2_with (go_at_call 44; refine (HN.out _ (by exact Gr.alloc _ _)).mono ?_; rintro e w' ⟨rfl, rfl⟩)
    go_quiet_grown (first | (go_at_call 52; refine Calls.grown_of_same (HS2.out _ (by exact (Gr.alloc _ _).trans (Gr.grow _ _ _)))))
    go_wp2
    go_ret
    rw [E.out]
    exact ⟨rfl, (Gr.alloc _ _).trans (Gr.grow _ _ _)⟩
  · have h4' : ((stOf t v.own : Int) == 1) = false := by simp; omega
    have h4'' : ((stOf t v.own : Int) != 1) = true := by simp; omega
    have E : Hid (readyE t v.own = 7) := by show _ = _; simp [readyE, h4]
    clear h4
    go_enter Try.func37, Try.ntmps37
    go_wp2_with (go_at_call 44; refine (HN.out _ (by exact Gr.alloc _ _)).mono ?_; rintro e w' ⟨rfl, rfl⟩)
    go_quiet_grown (first | (go_at_call 52; refine Calls.grown_of_same (HS.out _ (by exact (Gr.alloc _ _).trans (Gr.grow _ _ _)))))
    go_wp2
    go_ret
    rw [E.out]
    exact ⟨rfl, (Gr.alloc _ _).trans (Gr.grow _ _ _)⟩end
end Go.Proofs.Ytannjecmfbhkeaa
