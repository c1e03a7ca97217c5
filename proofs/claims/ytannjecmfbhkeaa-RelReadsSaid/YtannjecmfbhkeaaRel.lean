/- Package rel: what only reads. -/
import Derived.Test.YtannjecmfbhkeaaBox
namespace Go.Proofs.Ytannjecmfbhkeaa
open Go Go.RowKit Go.Lib Go.Maps
def ptrV (p : Nat) : Value := .pointer (some ⟨p, 0, none⟩)
/-- Tables: a row of heaps behind a pointer. -/
structure RelL (own : Nat → Nat) (k : Nat) (w : World) (pr : Nat) (a : Option Addr) (c : Nat) (phs : List Nat) : Prop where
  c0 : w.cell? ⟨pr, 0, none⟩ = some (.slice a phs.length c)
  f0 : w.frozen? ⟨pr, 0, none⟩ = false
  row : w.ownsRow 0 26 1 (.slice a phs.length c) phs.length (phs.map ptrV)
  lp : own pr = k
  la : ∀ b, a = some b → own b.block = k ∧ b.block ≠ pr
  lim : phs.length ≤ 4
/-- The heaps, each under a label of its own. -/
def HeapsL (own : Nat → Nat) (w : World) (pm : Nat) (phs : List Nat) (V : Nat → List Vr) : Prop :=
  ∀ i p, phs[i]? = some p → ∃ a c, HeapL own (20 + i) w p pm a c (V i)
section
variable {own own' : Nat → Nat} {i j k : Nat} {w w' : World} {pr : Nat} {a : Option Addr} {c : Nat} {phs : List Nat} {pm : Nat} {V : Nat → List Vr}
theorem RelL.blk (h : RelL own k w pr a c phs) : pr < w.heap.size ∧ ∀ b, a = some b → b.block < w.heap.size :=
  ⟨World.block_lt_of_cell? w ⟨pr, 0, none⟩ h.c0, fun b hb => (h.row.lt b.block (by rw [hb]; rfl)).2⟩
theorem RelL.keep (h : RelL own k w pr a c phs) (s : Stp i own own' w w') (hn : k ≠ i) : RelL own' k w' pr a c phs :=
  ⟨s.cell h.c0 (by rw [h.lp]; exact hn), s.frozen h.c0 h.f0 (by rw [h.lp]; exact hn),
   ownsRow_heap h.row (fun b hb => by
     cases a with
     | none => simp [Value.ownBlock] at hb
     | some y => simp [Value.ownBlock] at hb; subst hb; exact s.heap _ (h.blk.2 y rfl) (by rw [(h.la y rfl).1]; exact hn)),
   (s.lbl _ h.blk.1).trans h.lp, fun b hb => ⟨(s.lbl _ (h.blk.2 b hb)).trans (h.la b hb).1, (h.la b hb).2⟩, h.lim⟩
theorem RelL.gr (h : RelL own k w pr a c phs) (hg : Gr w w') : RelL own k w' pr a c phs := by
  by_cases h0 : k = 0
  · exact h.keep (hg.stp 1 own) (by omega)
  · exact h.keep (hg.stp 0 own) h0
theorem HeapsL.keep (h : HeapsL own w pm phs V) (s : Stp i own own' w w') (hn : i < 20) : HeapsL own' w' pm phs V := fun j p hp => by
  obtain ⟨a, c, hH⟩ := h j p hp
  exact ⟨a, c, hH.keep s (by omega)⟩
/-- .. behind a write to one. -/
theorem HeapsL.put {p : Nat} {vs : List Vr} {b : Option Addr} {d : Nat} (h : HeapsL own w pm phs V) (hp : phs[i]? = some p) (s : Stp (20 + i) own own' w w') (hH : HeapL own' (20 + i) w' p pm b d vs) :
    HeapsL own' w' pm phs (fun j => if j = i then vs else V j) := fun j q hq => by
  by_cases e : j = i
  · subst e
    rw [hp] at hq
    cases hq
    simp only [if_true]
    exact ⟨b, d, hH⟩
  · simp only [e, if_false]
    obtain ⟨a, c, hJ⟩ := h j q hq
    exact ⟨a, c, hJ.keep s (by omega)⟩
theorem RelL.at (h : RelL own k w pr a c phs) {p : Nat} (hp : phs[i]? = some p) : ∃ g, a = some ⟨g, 0, none⟩ ∧ w.cell? ⟨g, i, none⟩ = some (.pointer (some ⟨p, 0, none⟩)) := by
  obtain ⟨hk, _⟩ := List.getElem?_eq_some_iff.1 hp
  rcases h.row.2 with ⟨_, h0⟩ | ⟨g, cap, cur, hv, _⟩
  · omega
  · simp only [Value.slice.injEq] at hv
    have := h.row.cells (g := g) (by rw [hv.1]; rfl) i (ptrV p) (by rw [List.getElem?_map, hp]; rfl)
    rw [show (⟨g, 0, none⟩ : Addr).add i = ⟨g, i, none⟩ from by unfold Addr.add; split <;> simp_all] at this
    exact ⟨g, hv.1, this⟩
end
section
variable (own : Nat → Nat) (k : Nat) (w : World) (pr : Nat) (a : Option Addr) (c : Nat) (phs : List Nat)
theorem Tables_calls (h : RelL own k w pr a c phs) : Calls Try.prog 59 #[.pointer (some ⟨pr, 0, none⟩)] w fun e w' => e = .returned (.int .i64 phs.length) ∧ w = w' := by
  have c0 := h.c0
  clear h
  go_enter Try.func59, Try.ntmps59
  go_wp2
  go_ret
  exact ⟨rfl, rfl⟩
theorem RHeap_calls (h : RelL own k w pr a c phs) (i p : Nat) (hp : phs[i]? = some p) : Calls Try.prog 32 #[.pointer (some ⟨pr, 0, none⟩), .int .i64 i] w fun e w' => e = .returned (.pointer (some ⟨p, 0, none⟩)) ∧ w = w' := by
  have ht := Tables_calls own k w pr a c phs h
  have c0 := h.c0
  obtain ⟨g, rfl, hc⟩ := h.at hp
  have hi : i < phs.length := (List.getElem?_eq_some_iff.1 hp).1
  have hl := h.lim
  have hiz : (i : Int) < (phs.length : Int) := by omega
  have hge : decide ((phs.length : Int) ≤ (i : Int)) = false := decide_eq_false (by omega)
  have HT := Lib.hid ht
  clear ht h hp
  go_enter Try.func32, Try.ntmps32
  go_wp2_with (go_at_call 59; refine HT.out.mono ?_; rintro e w' ⟨rfl, rfl⟩)
  go_ret
  exact ⟨rfl, rfl⟩
theorem RHeap_none (h : RelL own k w pr a c phs) (t : Int) (ht : t < 0 ∨ (phs.length : Int) ≤ t) : Calls Try.prog 32 #[.pointer (some ⟨pr, 0, none⟩), .int .i64 t] w fun e w' => e = .returned (.pointer none) ∧ w = w' := by
  have HT := Lib.hid (Tables_calls own k w pr a c phs h)
  clear h
  by_cases h0 : t < 0
  · clear ht
    go_enter Try.func32, Try.ntmps32
    go_wp2
    go_ret
    exact ⟨rfl, rfl⟩
  · have h1 : (phs.length : Int) ≤ t := by omega
    clear ht
    go_enter Try.func32, Try.ntmps32
    go_wp2_with (go_at_call 59; refine HT.out.mono ?_; rintro e w' ⟨rfl, rfl⟩)
    go_ret
    exact ⟨rfl, rfl⟩
/-- A statement as a value. -/
abbrev stmV (kind table : Int) (r : Rw) : Value := .agg #[.int .u8 kind, .int .i64 table, .int .i64 r.1, .string r.2]
set_option maxHeartbeats 1600000 in
theorem right_yes (h : RelL own k w pr a c phs) (kind : Int) (i p : Nat) (r : Rw) (hp : phs[i]? = some p) (k1 : 1 ≤ kind) (k6 : kind ≤ 6) (hs : r.2.size ≤ 40 ∨ 3 ≤ kind) (hm : r.2.size ≤ 9223372036854775807) :
    Calls Try.prog 60 #[.pointer (some ⟨pr, 0, none⟩), stmV kind i r] w fun e w' => e = .returned (.bool true) ∧ w.alloc (.cells #[.int .u8 kind, .int .i64 i, .int .i64 r.1, .string r.2] 66) = w' := by
  have hh : ∀ W, Gr w W → Calls Try.prog 32 #[.pointer (some ⟨pr, 0, none⟩), .int .i64 i] W fun e w' => e = .returned (.pointer (some ⟨p, 0, none⟩)) ∧ W = w' :=
    fun W hg => RHeap_calls own k W pr a c phs (h.gr hg) i p hp
  have HH := Lib.hid hh
  obtain ⟨key, text⟩ := r
  simp only at hs hm
  clear hh h hp
  by_cases h40 : text.size ≤ 40
  · have h40z : (text.size : Int) ≤ 40 := by omega
    have h40b : decide (40 < text.size) = false := decide_eq_false (by omega)
    clear hs
    go_enter Try.func60, Try.ntmps60
    go_wp2_with (go_at_call 32; refine (HH.out _ (by exact Gr.alloc _ _)).mono ?_; rintro e w' ⟨rfl, rfl⟩)
    go_ret
    exact ⟨rfl, rfl⟩
  · have h3 : 3 ≤ kind := by omega
    have h40z : (40 : Int) < (text.size : Int) := by omega
    have e1 : (kind == 1) = false := by simp; omega
    have e2 : (kind == 2) = false := by simp; omega
    clear hs
    go_enter Try.func60, Try.ntmps60
    go_wp2_with (go_at_call 32; refine (HH.out _ (by exact Gr.alloc _ _)).mono ?_; rintro e w' ⟨rfl, rfl⟩)
    go_ret
    exact ⟨rfl, rfl⟩
end
end Go.Proofs.Ytannjecmfbhkeaa
