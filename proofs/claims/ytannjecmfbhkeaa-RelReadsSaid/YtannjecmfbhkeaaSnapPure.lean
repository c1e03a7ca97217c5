/- What becomes of versions in HeapSnap: plain lists. -/
import Derived.Test.YtannjecmfbhkeaaTruncPure
namespace Go.Proofs.Ytannjecmfbhkeaa
open Go Go.RowKit Go.Lib Go.Maps
/-- Versions of transaction 1, and of others from 3 on. -/
def Snp (vs : List Vr) : Prop := ∀ x ∈ vs, (x.born = 1 ∨ 3 ≤ x.born) ∧ (x.died = 0 ∨ 3 ≤ x.died)
def oldL (vs : List Vr) : List Rw := (vs.filter (fun x => decide (x.born = 1))).map Vr.row
theorem Snp.nil : Snp [] := fun x hx => by simp at hx
theorem oldL_cons {x : Vr} {r : List Vr} : oldL (x :: r) = if x.born = 1 then x.row :: oldL r else oldL r := by
  unfold oldL; rw [List.filter_cons]; by_cases h : x.born = 1 <;> simp [h]
theorem oldL_setD {o : Int} : ∀ {vs : List Vr} {i : Nat}, oldL (setD vs i o) = oldL vs
  | [], i => by simp [setD]
  | x :: r, 0 => by unfold setD; rw [List.modify_zero_cons, oldL_cons, oldL_cons]; rfl
  | x :: r, i + 1 => by
    have ih := oldL_setD (o := o) (vs := r) (i := i)
    unfold setD at ih ⊢
    rw [List.modify_succ_cons, oldL_cons, oldL_cons, ih]
theorem oldL_snoc {x : Vr} {vs : List Vr} (h : 3 ≤ x.born) : oldL (vs ++ [x]) = oldL vs := by
  unfold oldL; rw [List.filter_append, List.filter_cons_of_neg (by simp; omega)]; simp
/-- A step of another one. -/
structure SnS (vs vs' : List Vr) : Prop where
  s : Snp vs'
  o : oldL vs' = oldL vs
  l : vs'.length ≤ vs.length + 1
theorem Snp.setD {vs : List Vr} (h : Snp vs) {i : Nat} {o : Int} (ho : 3 ≤ o) : Snp (setD vs i o) := by
  intro x hx
  rcases setD_mem hx with hx | ⟨y, hy, rfl⟩
  · exact h x hx
  · exact ⟨(h y hy).1, Or.inr ho⟩
theorem Snp.snoc {vs : List Vr} (h : Snp vs) {k : Int} {s : ByteArray} {o : Int} (ho : 3 ≤ o) : Snp (vs ++ [⟨k, s, o, 0⟩]) := by
  intro x hx
  rcases List.mem_append.1 hx with hx | hx
  · exact h x hx
  · rw [List.mem_singleton.1 hx]; exact ⟨Or.inr ho, Or.inl rfl⟩
theorem killV_cases (t : TS) (v : Vw) (vs : List Vr) (k : Int) : killV t v vs k = vs ∨ ∃ i, killV t v vs k = setD vs i v.own := by
  unfold killV; split
  · exact Or.inr ⟨_, rfl⟩
  · exact Or.inl rfl
theorem SnS.kill {t : TS} {v : Vw} {vs : List Vr} {k : Int} (h : Snp vs) (ho : 3 ≤ v.own) : SnS vs (killV t v vs k) := by
  rcases killV_cases t v vs k with e | ⟨i, e⟩ <;> rw [e]
  · exact ⟨h, rfl, by omega⟩
  · exact ⟨h.setD ho, oldL_setD, by rw [length_setD]; omega⟩
theorem SnS.ins {t : TS} {v : Vw} {vs : List Vr} {r : Rw} (h : Snp vs) (ho : 3 ≤ v.own) : SnS vs (insV t v vs r) := by
  rcases insV_cases t v vs r with e | ⟨e, _⟩ <;> rw [e]
  · exact ⟨h, rfl, by omega⟩
  · exact ⟨h.snoc ho, oldL_snoc ho, by simp⟩
theorem SnS.upd {t : TS} {v : Vw} {vs : List Vr} {r : Rw} (h : Snp vs) (ho : 3 ≤ v.own) : SnS vs (updV t v vs r) := by
  unfold updV
  split
  · have s := SnS.kill (t := t) (v := v) (vs := vs) (k := r.1) h ho
    exact ⟨s.s.snoc ho, (oldL_snoc ho).trans s.o, by rw [List.length_append, length_killV]; simp⟩
  · exact ⟨h, rfl, by omega⟩
theorem killAll_sn {t : TS} {v : Vw} (ho : 3 ≤ v.own) : ∀ {l : List Rw} {vs : List Vr}, Snp vs → Snp (killAll t v vs l) ∧ oldL (killAll t v vs l) = oldL vs ∧ (killAll t v vs l).length = vs.length
  | [], vs, h => ⟨h, rfl, rfl⟩
  | r :: l, vs, h => by
    have s := SnS.kill (t := t) (v := v) (vs := vs) (k := r.1) h ho
    obtain ⟨h1, h2, h3⟩ := killAll_sn ho (l := l) s.s
    have e : killAll t v vs (r :: l) = killAll t v (killV t v vs r.1) l := rfl
    rw [e]
    exact ⟨h1, h2.trans s.o, h3.trans length_killV⟩
theorem SnS.trunc {t : TS} {v : Vw} {vs : List Vr} (h : Snp vs) (ho : 3 ≤ v.own) : SnS vs (truncV t v vs) := by
  obtain ⟨h1, h2, h3⟩ := killAll_sn ho (t := t) (l := truncL t v vs) h
  exact ⟨h1, h2, by unfold truncV; omega⟩
/-- What the snapshot sees. -/
theorem snp_scan {t : TS} {vs : List Vr} (h : Snp vs) (h1 : stOf t 1 = 2) : scanL t ⟨3, [2], 2⟩ vs = sortS kyR (oldL vs) := by
  unfold scanL visL oldL
  rw [List.filter_congr (q := fun x => decide (x.born = 1))]
  intro x hx
  obtain ⟨hb, hd⟩ := h x hx
  have d : didB t ⟨3, [2], 2⟩ x.died = false := by
    rcases hd with e | e
    · rw [e]; exact didB_zero _ _
    · unfold didB seesB
      simp only
      rw [decide_eq_false (show ¬ x.died = 2 by omega), decide_eq_false (show ¬ x.died < 3 by omega)]; simp
  unfold visB
  rw [d]
  rcases hb with e | e
  · rw [e]; simp [didB, seesB, h1]
  · rw [decide_eq_false (show ¬ x.born = 1 by omega)]
    unfold didB seesB
    simp only
    rw [decide_eq_false (show ¬ x.born = 2 by omega), decide_eq_false (show ¬ x.born < 3 by omega)]; simp
/-- The versions of the first transaction. -/
def Fst (vs : List Vr) : Prop := ∀ x ∈ vs, x.born = 1 ∧ x.died = 0
theorem Fst.nil : Fst [] := fun x hx => by simp at hx
theorem Fst.snp {vs : List Vr} (h : Fst vs) : Snp vs := fun x hx => ⟨Or.inl (h x hx).1, Or.inl (h x hx).2⟩
theorem Fst.ins {t : TS} {mx : Int} {op : List Int} {vs : List Vr} {r : Rw} (h : Fst vs) : Fst (insV t ⟨mx, op, 1⟩ vs r) ∧ (insV t ⟨mx, op, 1⟩ vs r).length ≤ vs.length + 1 := by
  rcases insV_cases t ⟨mx, op, 1⟩ vs r with e | ⟨e, _⟩ <;> rw [e]
  · exact ⟨h, by omega⟩
  · refine ⟨fun x hx => ?_, by simp⟩
    rcases List.mem_append.1 hx with hx | hx
    · exact h x hx
    · rw [List.mem_singleton.1 hx]; exact ⟨rfl, rfl⟩
/-- Transactions: 1 is done, 2 is open, the others have ended. -/
def SnT (t : TS) (k : Nat) : Prop := ∃ e : TS, t = 2 :: 1 :: e ∧ e.length = k ∧ ∀ s ∈ e, s ≠ 1
theorem SnT.start : SnT [2, 1] 0 := ⟨[], rfl, rfl, by simp⟩
theorem sel_none {s : Nat} : ∀ {t : TS} {k : Int}, (∀ a ∈ t, a ≠ s) → sel s k t = []
  | [], _, _ => rfl
  | a :: r, k, h => by rw [sel_cons, if_neg (h a (by simp)), sel_none (fun b hb => h b (by simp [hb]))]
section
variable {t : TS} {k : Nat}
theorem SnT.len (h : SnT t k) : t.length = k + 2 := by obtain ⟨e, rfl, rfl, _⟩ := h; simp
theorem SnT.opn (h : SnT t k) : openL t = [2] := by
  obtain ⟨e, rfl, rfl, he⟩ := h
  unfold openL
  rw [sel_cons, if_neg (by decide), sel_cons, if_pos rfl, sel_none he]
  rfl
theorem SnT.opn1 (h : SnT t k) : openL (t ++ [1]) = [2, (k : Int) + 3] := by
  rw [openL_snoc, h.opn, h.len]; simp; omega
theorem SnT.nfull (h : SnT t k) (hk : k ≤ 100) : ¬ full t := by
  unfold full; rw [h.opn, h.len]; simp; omega
theorem SnT.bN (h : SnT t k) (hk : k ≤ 100) : begN t = (k : Int) + 3 := by unfold begN; rw [if_neg (h.nfull hk), h.len]; omega
theorem SnT.bE (h : SnT t k) (hk : k ≤ 100) : begE t = 0 := by unfold begE; rw [if_neg (h.nfull hk)]
theorem SnT.bT (h : SnT t k) (hk : k ≤ 100) : begT t = t ++ [1] := by unfold begT; rw [if_neg (h.nfull hk)]
theorem SnT.own (h : SnT t k) : stOf (t ++ [1]) ((k : Int) + 3) = 1 := by rw [stOf_snoc, if_pos (by rw [h.len]; omega)]
theorem setSt_snoc {a s : Nat} {x : Int} (h : x = t.length + 1) : setSt (t ++ [a]) x s = t ++ [s] := by
  subst h; unfold setSt
  have : ((t.length : Int) + 1).toNat - 1 = t.length := by omega
  rw [this]; simp
theorem SnT.eT (h : SnT t k) (s : Nat) : endT (t ++ [1]) ((k : Int) + 3) s = t ++ [s] := by
  unfold endT; rw [if_pos h.own, setSt_snoc (by rw [h.len]; omega)]
theorem SnT.eE (h : SnT t k) : endE (t ++ [1]) ((k : Int) + 3) = 0 := by unfold endE; rw [if_pos h.own]
theorem SnT.next (h : SnT t k) {s : Nat} (hs : s ≠ 1) : SnT (t ++ [s]) (k + 1) := by
  obtain ⟨e, rfl, rfl, he⟩ := h
  refine ⟨e ++ [s], rfl, by simp, fun a ha => ?_⟩
  rcases List.mem_append.1 ha with ha | ha
  · exact he a ha
  · rw [List.mem_singleton.1 ha]; exact hs
theorem SnT.one (h : SnT t k) : stOf t 1 = 2 := by obtain ⟨e, rfl, rfl, _⟩ := h; rfl
theorem SnT.one' (h : SnT t k) {s : Nat} : stOf (t ++ [s]) 1 = 2 := by obtain ⟨e, rfl, rfl, _⟩ := h; rfl
end
end Go.Proofs.Ytannjecmfbhkeaa
