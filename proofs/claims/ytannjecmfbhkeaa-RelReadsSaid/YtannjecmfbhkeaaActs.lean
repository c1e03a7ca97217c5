/- A slice of acts that came in, opened. -/
import Derived.Test.YtannjecmfbhkeaaU8
import Derived.Deep.Slices
import Derived.Lib.SmallJoins
import Derived.ChangeArms
namespace Go.Proofs.Ytannjecmfbhkeaa
open Go Go.RowKit Go.Lib Go.Maps Go.Deep Go.ChangeShapes Go.WideShapes Go.Joins
/-- What is read of an act at a place. -/
def ActAt (w : World) (x : Addr) (i : Nat) : Prop := ∃ (d q k : Int) (s : ByteArray), w.cell? (x.add (i * 4)) = some (.int .u8 d) ∧ w.cell? ⟨(x.add (i * 4)).block, (x.add (i * 4)).off + 1, none⟩ = some (.int .u8 q) ∧
  w.cell? ⟨(x.add (i * 4)).block, (x.add (i * 4)).off + 2, none⟩ = some (.int .i64 k) ∧ w.cell? ⟨(x.add (i * 4)).block, (x.add (i * 4)).off + 3, none⟩ = some (.string s) ∧ (0 ≤ d ∧ d < 256) ∧ (0 ≤ q ∧ q < 256) ∧ wfI k ∧ s.size ≤ maxLen
theorem add_pos (a : Addr) (j : Nat) (h : 0 < j) : a.add j = ⟨a.block, a.off + j, none⟩ := by
  unfold Addr.add; rw [if_neg (by omega)]
/-- A row of acts that came in. -/
def ActIn (w : World) (a : Option Addr) (n : Nat) : Prop := n ≤ maxLen ∧ (n = 0 ∨ ∃ x, a = some x ∧ ∀ i, i < n → ActAt w x i)
section
variable {H : Type} {enc : TypeId × Value → H} {P : Program} {w : World} {base : Nat} {held : Bool}
theorem open_acts {t e : TypeId} {f0 f1 f2 f3 : Field} {fuel : Nat} {cs : List Value} {x : DataW H × List MemPlace} (ht : P.underlying t = some (.slice e)) (he : P.underlying e = some (.struct #[f0, f1, f2, f3]))
    (ce : P.cellsOf e = 4) (o0 : f0.offset = 0) (o1 : f1.offset = 1) (o2 : f2.offset = 2) (o3 : f3.offset = 3)
    (u0 : P.underlying f0.type = some (.int .u8)) (u1 : P.underlying f1.type = some (.int .u8)) (u2 : P.underlying f2.type = some (.int .i64)) (u3 : P.underlying f3.type = some .string)
    (c0 : P.cellsOf f0.type = 1) (c1 : P.cellsOf f1.type = 1) (c2 : P.cellsOf f2.type = 1) (c3 : P.cellsOf f3.type = 1)
    (h : DataW.trod enc P w base (fun _ => true) held fuel t cs = some x) :
    ∃ a len cap, cs = [.slice a len cap] ∧ ActIn w a len := by
  rcases open_slice ht h with ⟨rfl, _⟩ | ⟨a, len, cap, m, n, D, Pl, rfl, _, hl, hm, hmm, _, hx⟩
  · exact ⟨none, 0, 0, rfl, Nat.zero_le _, Or.inl rfl⟩
  refine ⟨some a, len, cap, rfl, Nat.le_trans hl hm, Or.inr ⟨a, rfl, fun i hi => ?_⟩⟩
  have him : i < m := by rw [hmm]; simp; omega
  obtain ⟨cs', h1, h2⟩ := hx i him
  rw [ce] at h1
  obtain ⟨_, hlen, hcell⟩ := World.cells?_some h1
  obtain ⟨y0, y1, y2, y3, k, _, _, g0, g1, g2, g3⟩ := trod_struct4 he h2
  match cs', hlen with
  | [v0, v1, v2, v3], _ =>
    simp [o0, o1, o2, o3, c0, c1, c2, c3] at g0 g1 g2 g3
    have e0 := hcell 0 (by omega)
    have e1 := hcell 1 (by omega)
    have e2 := hcell 2 (by omega)
    have e3 := hcell 3 (by omega)
    rw [add_pos _ _ (by decide)] at e1 e2 e3
    obtain ⟨d, hd, _, wd⟩ := DataW.trod_int u0 g0
    obtain ⟨q, hq, _, wq⟩ := DataW.trod_int u1 g1
    obtain ⟨kk, hk, _, wk⟩ := DataW.trod_int u2 g2
    obtain ⟨s, hs, _, ws⟩ := DataW.trod_string u3 g3
    simp at hd hq hk hs
    subst hd hq hk hs
    exact ⟨d, q, kk, s, by rw [add_add] at e0; simpa using e0, by simpa using e1, by simpa using e2, by simpa using e3, u8_wf wd, u8_wf wq, wk, ws⟩
end
end Go.Proofs.Ytannjecmfbhkeaa
