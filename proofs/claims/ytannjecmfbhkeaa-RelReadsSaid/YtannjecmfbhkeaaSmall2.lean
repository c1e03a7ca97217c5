/- Cells of acts, later on; rows in boxes. -/
import Derived.Test.YtannjecmfbhkeaaSmall
import Derived.Test.YtannjecmfbhkeaaRowsEq
namespace Go.Proofs.Ytannjecmfbhkeaa
open Go Go.RowKit Go.Lib Go.Maps
theorem K9.cell {w0 w : World} {own : Nat → Nat} (K : K9 w0 own w) {ad : Addr} {u : Value} (h : w0.cell? ad = some u) : w.cell? ad = some u :=
  (K.bel.cell (World.block_lt_of_cell? _ _ h)).trans h
theorem K9.act {w0 w : World} {own : Nat → Nat} (K : K9 w0 own w) {x : Addr} {i : Nat} (h : ActAt w0 x i) : ActAt w x i := h.bel K.bel
theorem K9.acts {w0 w : World} {own : Nat → Nat} (K : K9 w0 own w) {a : Option Addr} {n : Nat} (h : ActIn w0 a n) : ActIn w a n := h.bel K.bel
/-- A row in a box. -/
structure RBox (own : Nat → Nat) (k : Nat) (w : World) (rb : Nat) (r : Rw) : Prop where
  c0 : w.cell? ⟨rb, 0, none⟩ = some (.int .i64 r.1)
  c1 : w.cell? ⟨rb, 1, none⟩ = some (.string r.2)
  lv : own rb = k
theorem RBox.keep {own own' : Nat → Nat} {k i : Nat} {w w' : World} {rb : Nat} {r : Rw} (h : RBox own k w rb r) (s : Stp i own own' w w') (hn : k ≠ i) : RBox own' k w' rb r :=
  ⟨s.cell h.c0 (by rw [h.lv]; exact hn), s.cell h.c1 (by rw [h.lv]; exact hn), (s.lbl _ (World.block_lt_of_cell? w ⟨rb, 0, none⟩ h.c0)).trans h.lv⟩
theorem RBox.new (own : Nat → Nat) (k : Nat) (w : World) (x : Int) (s : ByteArray) :
    ∃ own' w' rb, w.alloc (.cells #[.int .i64 x, .string s] 38) = w' ∧ w.heap.size = rb ∧ RBox own' k w' rb (x, s) ∧ Stp 0 own own' w w' :=
  ⟨lab own w.heap.size k, _, _, rfl, rfl, ⟨by simp [go_sem], by simp [go_sem], lab_new (Nat.le_refl _)⟩, (Gr.alloc w (.cells #[.int .i64 x, .string s] 38)).stpL 0 own k⟩
end Go.Proofs.Ytannjecmfbhkeaa
