/- A view in a fresh box. -/
import Derived.Test.YtannjecmfbhkeaaOwn
namespace Go.Proofs.Ytannjecmfbhkeaa
open Go Go.RowKit Go.Lib Go.Maps
theorem VBox.new {own : Nat → Nat} {k : Nat} {w : World} {v : Vw} {va : Option Addr} {vc : Nat} (hv : ViewL own k w v va vc) :
    ∃ own' w' vb, w.alloc (.cells #[.int .i64 v.max, .slice va v.opn.length vc, .int .i64 v.own] 35) = w' ∧ w.heap.size = vb ∧ VBox own' k w' vb v va vc ∧ Stp 0 own own' w w' := by
  have s := (Gr.alloc w (.cells #[.int .i64 v.max, .slice va v.opn.length vc, .int .i64 v.own] 35)).stpL 0 own k
  refine ⟨lab own w.heap.size k, _, _, rfl, rfl, ⟨by simp [go_sem], by simp [go_sem], by simp [go_sem], lab_new (Nat.le_refl _), ?_⟩, s⟩
  have hl : ∀ b, va = some b → b.block < w.heap.size := fun b hb => (hv.ok.row.lt b.block (by rw [hb]; rfl)).2
  refine ⟨⟨ownsRow_heap hv.ok.row (fun b hb => ?_), hv.ok.lim⟩, fun b hb => by rw [lab_old (hl b hb)]; exact hv.lb b hb⟩
  cases va with
  | none => simp [Value.ownBlock] at hb
  | some y => simp [Value.ownBlock] at hb; subst hb; exact heap_alloc_old w _ (hl y rfl)
end Go.Proofs.Ytannjecmfbhkeaa
