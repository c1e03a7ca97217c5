/- A slice of law 8's acts that came in, opened; what small tells of it. -/
import Derived.Test.YtannjecmfbhkeaaSmall2
namespace Go.Proofs.Ytannjecmfbhkeaa
open Go Go.RowKit Go.Lib Go.Maps Go.Deep Go.ChangeShapes Go.WideShapes Go.Joins
/-- What is read of an act at a place. -/
def Act8At (w : World) (x : Addr) (i : Nat) : Prop := ∃ (d q kd tb k : Int) (s : ByteArray), w.cell? (x.add (i * 6)) = some (.int .u8 d) ∧ w.cell? ⟨(x.add (i * 6)).block, (x.add (i * 6)).off + 1, none⟩ = some (.int .u8 q) ∧
  w.cell? ⟨(x.add (i * 6)).block, (x.add (i * 6)).off + 2, none⟩ = some (.int .u8 kd) ∧ w.cell? ⟨(x.add (i * 6)).block, (x.add (i * 6)).off + 3, none⟩ = some (.int .i64 tb) ∧
  w.cell? ⟨(x.add (i * 6)).block, (x.add (i * 6)).off + 4, none⟩ = some (.int .i64 k) ∧ w.cell? ⟨(x.add (i * 6)).block, (x.add (i * 6)).off + 5, none⟩ = some (.string s) ∧
  (0 ≤ d ∧ d < 256) ∧ (0 ≤ q ∧ q < 256) ∧ (0 ≤ kd ∧ kd < 256) ∧ wfI tb ∧ wfI k ∧ s.size ≤ maxLen
def Act8In (w : World) (a : Option Addr) (n : Nat) : Prop := n ≤ maxLen ∧ (n = 0 ∨ ∃ x, a = some x ∧ ∀ i, i < n → Act8At w x i)
section
variable {H : Type} {enc : TypeId × Value → H} {P : Program} {w : World} {base : Nat} {held : Bool}
theorem trod_fld {t : TypeId} {fs : Array Field} {fuel : Nat} {cs : List Value} {x : DataW H × List MemPlace} {spare : TypeId → Bool} (ht : P.underlying t = some (.struct fs)) (h : DataW.trod enc P w base spare held fuel t cs = some x) :
    ∃ n, ∀ (i : Nat) (f : Field), fs[i]? = some f → ∃ y, DataW.trod enc P w base spare held n f.type ((cs.drop f.offset).take (P.cellsOf f.type)) = some y := by
  obtain ⟨xs, n, _, rfl, hl, hlen, hf⟩ := DataW.trod_struct ht h
  refine ⟨n, fun i f hi => ?_⟩
  have hi2 : i < xs.length := by rw [hlen]; exact (Array.getElem?_eq_some_iff.1 hi).1
  exact ⟨xs[i], by rw [hf i f hi, List.getElem?_eq_getElem hi2]⟩
theorem open_acts8 {t e : TypeId} {f0 f1 f2 f3 f4 f5 : Field} {fuel : Nat} {cs : List Value} {x : DataW H × List MemPlace} (ht : P.underlying t = some (.slice e)) (he : P.underlying e = some (.struct #[f0, f1, f2, f3, f4, f5]))
    (ce : P.cellsOf e = 6) (o0 : f0.offset = 0) (o1 : f1.offset = 1) (o2 : f2.offset = 2) (o3 : f3.offset = 3) (o4 : f4.offset = 4) (o5 : f5.offset = 5)
    (u0 : P.underlying f0.type = some (.int .u8)) (u1 : P.underlying f1.type = some (.int .u8)) (u2 : P.underlying f2.type = some (.int .u8)) (u3 : P.underlying f3.type = some (.int .i64)) (u4 : P.underlying f4.type = some (.int .i64)) (u5 : P.underlying f5.type = some .string)
    (c0 : P.cellsOf f0.type = 1) (c1 : P.cellsOf f1.type = 1) (c2 : P.cellsOf f2.type = 1) (c3 : P.cellsOf f3.type = 1) (c4 : P.cellsOf f4.type = 1) (c5 : P.cellsOf f5.type = 1)
    (h : DataW.trod enc P w base (fun _ => true) held fuel t cs = some x) :
    ∃ a len cap, cs = [.slice a len cap] ∧ Act8In w a len := by
  rcases open_slice ht h with ⟨rfl, _⟩ | ⟨a, len, cap, m, n, D, Pl, rfl, _, hl, hm, hmm, _, hx⟩
  · exact ⟨none, 0, 0, rfl, Nat.zero_le _, Or.inl rfl⟩
  refine ⟨some a, len, cap, rfl, Nat.le_trans hl hm, Or.inr ⟨a, rfl, fun i hi => ?_⟩⟩
  have him : i < m := by rw [hmm]; simp; omega
  obtain ⟨cs', h1, h2⟩ := hx i him
  rw [ce] at h1
  obtain ⟨_, hlen, hcell⟩ := World.cells?_some h1
  obtain ⟨k, hf⟩ := trod_fld he h2
  obtain ⟨y0, g0⟩ := hf 0 f0 rfl
  obtain ⟨y1, g1⟩ := hf 1 f1 rfl
  obtain ⟨y2, g2⟩ := hf 2 f2 rfl
  obtain ⟨y3, g3⟩ := hf 3 f3 rfl
  obtain ⟨y4, g4⟩ := hf 4 f4 rfl
  obtain ⟨y5, g5⟩ := hf 5 f5 rfl
  match cs', hlen with
  | [v0, v1, v2, v3, v4, v5], _ =>
    simp [o0, o1, o2, o3, o4, o5, c0, c1, c2, c3, c4, c5] at g0 g1 g2 g3 g4 g5
    have e0 := hcell 0 (by omega)
    have e1 := hcell 1 (by omega)
    have e2 := hcell 2 (by omega)
    have e3 := hcell 3 (by omega)
    have e4 := hcell 4 (by omega)
    have e5 := hcell 5 (by omega)
    rw [add_pos _ _ (by decide)] at e1 e2 e3 e4 e5
    obtain ⟨d, hd, _, wd⟩ := DataW.trod_int u0 g0
    obtain ⟨q, hq, _, wq⟩ := DataW.trod_int u1 g1
    obtain ⟨kd, hkd, _, wkd⟩ := DataW.trod_int u2 g2
    obtain ⟨tb, htb, _, wtb⟩ := DataW.trod_int u3 g3
    obtain ⟨kk, hk, _, wk⟩ := DataW.trod_int u4 g4
    obtain ⟨s, hs, _, ws⟩ := DataW.trod_string u5 g5
    simp at hd hq hkd htb hk hs
    subst hd hq hkd htb hk hs
    exact ⟨d, q, kd, tb, kk, s, by rw [add_add] at e0; simpa using e0, by simpa using e1, by simpa using e2, by simpa using e3, by simpa using e4, by simpa using e5, u8_wf wd, u8_wf wq, u8_wf wkd, wtb, wk, ws⟩
end
theorem Act8In.at {w : World} {a : Option Addr} {n : Nat} (h : Act8In w a n) {k : Nat} (hk : k < n) : ∃ x, a = some x ∧ Act8At w x k := by
  rcases h.2 with h0 | ⟨x, rfl, h1⟩
  · omega
  · exact ⟨x, rfl, h1 k hk⟩
theorem Act8At.bel {w w' : World} {x : Addr} {i : Nat} (h : Act8At w x i) (b : Below w.heap.size w w') : Act8At w' x i := by
  obtain ⟨d, q, kd, tb, k, s, h0, h1, h2, h3, h4, h5, r⟩ := h
  have c : ∀ {ad : Addr} {u : Value}, w.cell? ad = some u → w'.cell? ad = some u := fun h => by rw [b.cell (World.block_lt_of_cell? _ _ h)]; exact h
  exact ⟨d, q, kd, tb, k, s, c h0, c h1, c h2, c h3, c h4, c h5, r⟩
theorem Act8In.bel {w w' : World} {a : Option Addr} {n : Nat} (h : Act8In w a n) (b : Below w.heap.size w w') : Act8In w' a n :=
  ⟨h.1, by
    rcases h.2 with h0 | ⟨x, rfl, h1⟩
    · exact Or.inl h0
    · exact Or.inr ⟨x, rfl, fun i hi => (h1 i hi).bel b⟩⟩
theorem K9.acts8 {w0 w : World} {own : Nat → Nat} (K : K9 w0 own w) {a : Option Addr} {n : Nat} (h : Act8In w0 a n) : Act8In w a n := h.bel K.bel
set_option maxHeartbeats 1600000 in
theorem small8_calls (w : World) (a : Option Addr) (n cap : Nat) (h : Act8In w a n) : Calls Try.prog 33 #[.slice a n cap] w fun e w' => SmallP n w e w' := by
  have hm := h.1
  unfold maxLen at hm
  have H := Lib.hid h
  clear h
  go_enter Try.func33, Try.ntmps33
  go_wp2
  go_loop [3] (fun vi => ∃ k : Nat, vi = .int .i64 k ∧ k ≤ n) (fun vi => n - (RowKit.intOf vi).toNat)
  case atStart => exact ⟨0, rfl, Nat.zero_le _⟩
  case round =>
    obtain ⟨k, rfl, hk⟩ := hrel
    by_cases hlt : k < n
    · have hltz : (k : Int) < (n : Int) := by omega
      obtain ⟨x, rfl, d, q, kd, tb, kk, s, _, _, _, _, _, h5, _, _, _, _, _, hs⟩ := H.out.at hlt
      unfold maxLen at hs
      by_cases h60 : 60 < s.size
      · have h60z : (60 : Int) < (s.size : Int) := by omega
        go_wp2
        go_ret
        exact ⟨false, rfl, (fun h => by cases h), rfl⟩
      · have h60z : (s.size : Int) ≤ 60 := by omega
        go_wp2
        go_round
        case rel => exact ⟨k + 1, by go_num, by omega⟩
        case measure => simp [RowKit.intOf]; omega
    · have hltz : ¬ (k : Int) < (n : Int) := by omega
      by_cases h80 : n ≤ 80
      · have h80z : (n : Int) ≤ 80 := by omega
        go_wp2
        go_ret
        exact ⟨_, rfl, fun _ => h80, rfl⟩
      · have h80z : decide ((n : Int) ≤ 80) = false := decide_eq_false (by omega)
        go_wp2
        go_ret
        exact ⟨_, rfl, fun h => (by simp at h), rfl⟩
end Go.Proofs.Ytannjecmfbhkeaa
