/- What becomes of versions in HeapRedo: plain lists. -/
import Derived.Test.YtannjecmfbhkeaaSnapPure
namespace Go.Proofs.Ytannjecmfbhkeaa
open Go Go.RowKit Go.Lib Go.Maps
/-- Does Redo take this version for the one that is there? -/
def redoB (t : TS) (key : Int) (x : Vr) : Bool := decide (x.key = key) && (decide (stOf t x.born = 2) && !decide (stOf t x.died = 2))
def redoK (t : TS) (vs : List Vr) (key : Int) : Int := idxI (redoB t key) vs
/-- One of Redo's. -/
def redo1 (t : TS) (o : Int) (vs : List Vr) (g : Bool) (r : Rw) : List Vr :=
  let vs1 := if 0 ≤ redoK t vs r.1 then setD vs (redoK t vs r.1).toNat o else vs
  if g then vs1 else vs1 ++ [⟨r.1, r.2, o, 0⟩]
def redoE (t : TS) (o : Int) : Int := if stOf t o = 2 then 0 else 7
def redoAll (t : TS) (o : Int) (vs : List Vr) (l : List (Bool × Rw)) : List Vr := l.foldl (fun vs p => redo1 t o vs p.1 p.2) vs
def redoV (t : TS) (o : Int) (vs : List Vr) (l : List (Bool × Rw)) : List Vr := if stOf t o = 2 then redoAll t o vs l else vs
theorem redo1_len {t : TS} {o : Int} {vs : List Vr} {g : Bool} {r : Rw} : (redo1 t o vs g r).length ≤ vs.length + 1 := by
  unfold redo1
  simp only
  split <;> split <;> simp [length_setD]
/-- The versions of the first k. -/
def RdI (k : Nat) (vs : List Vr) : Prop := ∀ x ∈ vs, (1 ≤ x.born ∧ x.born ≤ k) ∧ (x.died = 0 ∨ 1 ≤ x.died ∧ x.died ≤ k)
theorem RdI.nil : RdI 0 [] := fun x hx => by simp at hx
theorem stOf_rep {k : Nat} {x : Int} (h1 : 1 ≤ x) (h2 : x ≤ k) (r : TS) : stOf (List.replicate k 2 ++ r) x = 2 := by
  unfold stOf
  rw [if_pos h1, List.getD_eq_getElem?_getD, List.getElem?_append_left (by simp; omega), List.getElem?_replicate, if_pos (by omega)]; rfl
theorem stOf_zero' (t : TS) : stOf t 0 = 0 := stOf_out (Or.inl (by decide))
section
variable {k : Nat} {vs : List Vr}
theorem RdI.vis (h : RdI k vs) {x : Vr} (hx : x ∈ vs) : visB (List.replicate k 2 ++ [1]) ⟨(k : Int) + 2, [(k : Int) + 1], (k : Int) + 1⟩ x = decide (x.died = 0) := by
  obtain ⟨⟨b1, b2⟩, hd⟩ := h x hx
  have d : ∀ y : Int, 1 ≤ y → y ≤ k → didB (List.replicate k 2 ++ [1]) ⟨(k : Int) + 2, [(k : Int) + 1], (k : Int) + 1⟩ y = true := by
    intro y h1 h2
    unfold didB seesB
    simp only
    rw [stOf_rep h1 h2, decide_eq_true (show 0 < y by omega), decide_eq_true (show 1 ≤ y by omega), decide_eq_true (show y < (k : Int) + 2 by omega), decide_eq_false (show ¬ y ∈ [(k : Int) + 1] by simp; omega)]
    simp
  unfold visB
  rw [d _ b1 b2]
  rcases hd with e | ⟨e, e2⟩
  · rw [e, didB_zero]; rfl
  · rw [d _ e e2, decide_eq_false (by omega)]; rfl
theorem RdI.red (h : RdI k vs) {x : Vr} (hx : x ∈ vs) (key : Int) : redoB (List.replicate k 2 ++ [2]) key x = (decide (x.key = key) && decide (x.died = 0)) := by
  obtain ⟨⟨b1, b2⟩, hd⟩ := h x hx
  unfold redoB
  rw [stOf_rep b1 b2]
  rcases hd with e | ⟨e, e2⟩
  · rw [e, stOf_zero']; simp
  · rw [stOf_rep e e2, decide_eq_false (show ¬ x.died = 0 by omega)]; simp
theorem idxI_congr {α : Type} {p q : α → Bool} : ∀ {l : List α}, (∀ x ∈ l, p x = q x) → idxI p l = idxI q l
  | [], _ => rfl
  | x :: r, h => by
    have ih := idxI_congr (p := p) (q := q) (l := r) (fun y hy => h y (by simp [hy]))
    unfold idxI; rw [h x (by simp), ih]
theorem RdI.find (h : RdI k vs) (key : Int) : redoK (List.replicate k 2 ++ [2]) vs key = findI (List.replicate k 2 ++ [1]) ⟨(k : Int) + 2, [(k : Int) + 1], (k : Int) + 1⟩ vs key := by
  unfold redoK findI
  exact idxI_congr (fun x hx => by rw [h.red hx, h.vis hx])
theorem RdI.up (h : RdI k vs) : RdI (k + 1) vs := fun x hx => by
  obtain ⟨⟨b1, b2⟩, hd⟩ := h x hx
  exact ⟨⟨b1, by omega⟩, by omega⟩
theorem RdI.setD (h : RdI k vs) (i : Nat) : RdI (k + 1) (setD vs i ((k : Int) + 1)) := by
  intro x hx
  rcases setD_mem hx with hx | ⟨y, hy, rfl⟩
  · exact h.up x hx
  · exact ⟨(h.up y hy).1, Or.inr ⟨by show 1 ≤ (k : Int) + 1; omega, by show (k : Int) + 1 ≤ ((k + 1 : Nat) : Int); omega⟩⟩
theorem RdI.snoc {n : Nat} {vs : List Vr} (h : RdI (n + 1) vs) (key : Int) (s : ByteArray) : RdI (n + 1) (vs ++ [⟨key, s, (n : Int) + 1, 0⟩]) := by
  intro x hx
  rcases List.mem_append.1 hx with hx | hx
  · exact h x hx
  · rw [List.mem_singleton.1 hx]; exact ⟨⟨by show 1 ≤ (n : Int) + 1; omega, by show (n : Int) + 1 ≤ ((n + 1 : Nat) : Int); omega⟩, Or.inl rfl⟩
abbrev vwK (k : Nat) : Vw := ⟨(k : Int) + 2, [(k : Int) + 1], (k : Int) + 1⟩
/-- What an act left in one heap, and what Redo makes of it in the other. -/
structure RdS (k : Nat) (vs vs' : List Vr) (l : List (Bool × Rw)) : Prop where
  i : RdI (k + 1) vs'
  r : redoAll (List.replicate k 2 ++ [2]) ((k : Int) + 1) vs l = vs'
  n : vs'.length ≤ vs.length + 1
theorem RdS.same (h : RdI k vs) : RdS k vs vs [] := ⟨h.up, rfl, by omega⟩
theorem RdS.ins (h : RdI k vs) {r : Rw} (he : insE (List.replicate k 2 ++ [1]) (vwK k) vs r.1 = 0) : RdS k vs (insV (List.replicate k 2 ++ [1]) (vwK k) vs r) [(false, r)] := by
  have hf : findI (List.replicate k 2 ++ [1]) (vwK k) vs r.1 < 0 := by
    unfold insE at he
    split at he
    · split at he
      · exact absurd he (by decide)
      · omega
    · exact absurd he (by decide)
  unfold insV
  rw [if_pos he]
  refine ⟨h.up.snoc _ _, ?_, by simp⟩
  show redo1 _ _ vs false r = _
  unfold redo1
  rw [h.find]
  unfold vwK at hf
  simp only
  rw [if_neg (show ¬ (false = true) by decide), if_neg (by omega)]
theorem RdS.kil (h : RdI k vs) {r : Rw} (he : killE (List.replicate k 2 ++ [1]) (vwK k) vs r.1 = 0) : RdS k vs (killV (List.replicate k 2 ++ [1]) (vwK k) vs r.1) [(true, r)] := by
  have hf : 0 ≤ findI (List.replicate k 2 ++ [1]) (vwK k) vs r.1 := by
    unfold killE at he
    split at he
    · split at he
      · split at he
        · exact absurd he (by decide)
        · omega
      · exact absurd he (by decide)
    · exact absurd he (by decide)
  unfold killV
  rw [if_pos he]
  refine ⟨h.setD _, ?_, by rw [length_setD]; omega⟩
  show redo1 _ _ vs true r = _
  unfold redo1
  rw [h.find]
  simp only
  rw [if_pos hf]; rfl
theorem RdS.upd (h : RdI k vs) {r : Rw} (he : killE (List.replicate k 2 ++ [1]) (vwK k) vs r.1 = 0) : RdS k vs (updV (List.replicate k 2 ++ [1]) (vwK k) vs r) [(false, r)] := by
  have s := RdS.kil h he
  have e := s.r
  unfold updV
  rw [if_pos he]
  refine ⟨s.i.snoc _ _, ?_, by rw [List.length_append, length_killV]; simp⟩
  rw [← e]
  show redo1 _ _ vs false r = redo1 _ _ vs true r ++ _
  unfold redo1
  simp
end
/-! ### the transactions: the first k are done -/
abbrev rep (k : Nat) : TS := List.replicate k 2
theorem rep_snoc (k : Nat) : rep k ++ [2] = rep (k + 1) := List.replicate_succ'.symm
theorem rep_open (k : Nat) : openL (rep k) = [] := sel_none (fun a ha => by rw [List.eq_of_mem_replicate ha]; decide)
theorem rep_open1 (k : Nat) : openL (rep k ++ [1]) = [(k : Int) + 1] := by rw [openL_snoc, rep_open]; simp
theorem rep_nfull {k : Nat} (hk : k ≤ 100) : ¬ full (rep k) := by unfold full; rw [rep_open]; simp; omega
theorem rep_bN {k : Nat} (hk : k ≤ 100) : begN (rep k) = (k : Int) + 1 := by unfold begN; rw [if_neg (rep_nfull hk)]; simp
theorem rep_bE {k : Nat} (hk : k ≤ 100) : begE (rep k) = 0 := by unfold begE; rw [if_neg (rep_nfull hk)]
theorem rep_bT {k : Nat} (hk : k ≤ 100) : begT (rep k) = rep k ++ [1] := by unfold begT; rw [if_neg (rep_nfull hk)]
theorem rep_own (k : Nat) (s : Nat) : stOf (rep k ++ [s]) ((k : Int) + 1) = s := by rw [stOf_snoc, if_pos (by simp)]
theorem rep_eE (k : Nat) : endE (rep k ++ [1]) ((k : Int) + 1) = 0 := by unfold endE; rw [if_pos (rep_own k 1)]
theorem rep_eT (k : Nat) : endT (rep k ++ [1]) ((k : Int) + 1) 2 = rep (k + 1) := by
  unfold endT; rw [if_pos (rep_own k 1), setSt_snoc (by simp), rep_snoc]
theorem rep_redoE (k : Nat) : redoE (rep k ++ [1]) ((k : Int) + 1) = 7 := by unfold redoE; rw [rep_own, if_neg (by decide)]
theorem rep_redoV (k : Nat) (vs : List Vr) (l : List (Bool × Rw)) : redoV (rep k ++ [1]) ((k : Int) + 1) vs l = vs := by unfold redoV; rw [rep_own, if_neg (by decide)]
theorem rep_redoE2 (k : Nat) : redoE (rep (k + 1)) ((k : Int) + 1) = 0 := by rw [← rep_snoc]; unfold redoE; rw [rep_own, if_pos rfl]
theorem RdS.redo {k : Nat} {vs vs' : List Vr} {l : List (Bool × Rw)} (h : RdS k vs vs' l) : redoV (rep (k + 1)) ((k : Int) + 1) vs l = vs' := by
  rw [← rep_snoc]; unfold redoV; rw [rep_own, if_pos rfl]; exact h.r
theorem insV_no {t : TS} {v : Vw} {vs : List Vr} {r : Rw} (h : insE t v vs r.1 ≠ 0) : insV t v vs r = vs := by unfold insV; rw [if_neg h]
theorem updV_no {t : TS} {v : Vw} {vs : List Vr} {r : Rw} (h : killE t v vs r.1 ≠ 0) : updV t v vs r = vs := by unfold updV; rw [if_neg h]
theorem killV_no {t : TS} {v : Vw} {vs : List Vr} {k : Int} (h : killE t v vs k ≠ 0) : killV t v vs k = vs := by unfold killV; rw [if_neg h]
end Go.Proofs.Ytannjecmfbhkeaa
