/- Stable sorting by a whole-number key, on lists; no program in sight. -/
import Derived.Test.YtannjecmfbhkeaaPure
namespace Go.Proofs.Ytannjecmfbhkeaa
section
variable {α : Type} (ky : α → Int)
/-- Alike, key by key, order included. -/
def SEq (l l' : List α) : Prop := ∀ k : Int, l.filter (fun x => ky x == k) = l'.filter (fun x => ky x == k)
def Srt (l : List α) : Prop := l.Pairwise (fun x y => ky x ≤ ky y)
def sortS (l : List α) : List α := l.mergeSort (fun x y => decide (ky x ≤ ky y))
variable {ky}
theorem SEq.refl (l : List α) : SEq ky l l := fun _ => rfl
theorem SEq.symm {l l' : List α} (h : SEq ky l l') : SEq ky l' l := fun k => (h k).symm
theorem SEq.trans {a b c : List α} (h : SEq ky a b) (h' : SEq ky b c) : SEq ky a c := fun k => (h k).trans (h' k)
theorem SEq.append {a b c d : List α} (h : SEq ky a b) (h' : SEq ky c d) : SEq ky (a ++ c) (b ++ d) := fun k => by
  rw [List.filter_append, List.filter_append, h k, h' k]
theorem SEq.mem {a b : List α} (h : SEq ky a b) {x : α} (hx : x ∈ a) : x ∈ b := by
  have : x ∈ a.filter (fun y => ky y == ky x) := List.mem_filter.2 ⟨hx, by simp⟩
  rw [h (ky x)] at this
  exact (List.mem_filter.1 this).1
/-- Two lists without a common key may change places. -/
theorem SEq.swap {a b : List α} (h : ∀ x ∈ a, ∀ y ∈ b, ky x ≠ ky y) : SEq ky (a ++ b) (b ++ a) := fun k => by
  rw [List.filter_append, List.filter_append]
  by_cases ha : a.filter (fun x => ky x == k) = []
  · rw [ha]; simp
  · have hb : b.filter (fun x => ky x == k) = [] := by
      obtain ⟨x, hx⟩ := List.exists_mem_of_ne_nil _ ha
      obtain ⟨h1, h2⟩ := List.mem_filter.1 hx
      rw [List.filter_eq_nil_iff]
      intro y hy hk
      simp only [beq_iff_eq] at h2 hk
      exact h x h1 y hy (h2.trans hk.symm)
    rw [hb]; simp
theorem srt_uniq : ∀ {l l' : List α}, Srt ky l → Srt ky l' → SEq ky l l' → l = l'
  | [], [], _, _, _ => rfl
  | [], y :: r, _, _, h => by have := h.symm.mem (x := y) (by simp); simp at this
  | x :: r, [], _, _, h => by have := h.mem (x := x) (by simp); simp at this
  | x :: r, y :: r', h1, h2, h => by
    have p1 := List.pairwise_cons.1 h1
    have p2 := List.pairwise_cons.1 h2
    have e : ky x = ky y := by
      have m1 : x ∈ y :: r' := h.mem (by simp)
      have m2 : y ∈ x :: r := h.symm.mem (by simp)
      have l1 : ky y ≤ ky x := by
        rcases List.mem_cons.1 m1 with rfl | m
        · exact Int.le_refl _
        · exact p2.1 x m
      have l2 : ky x ≤ ky y := by
        rcases List.mem_cons.1 m2 with rfl | m
        · exact Int.le_refl _
        · exact p1.1 y m
      omega
    have hk := h (ky x)
    rw [List.filter_cons_of_pos (by simp), List.filter_cons_of_pos (by simp [e])] at hk
    obtain ⟨rfl, _⟩ := List.cons.inj hk
    congr 1
    refine srt_uniq p1.2 p2.2 (fun k => ?_)
    have hk' := h k
    by_cases hx : (ky x == k) = true
    · rw [List.filter_cons, List.filter_cons, if_pos hx, if_pos hx] at hk'
      exact (List.cons.inj hk').2
    · rw [List.filter_cons, List.filter_cons, if_neg hx, if_neg hx] at hk'
      exact hk'
theorem srt_sortS (l : List α) : Srt ky (sortS ky l) := by
  have := List.pairwise_mergeSort (le := fun x y : α => decide (ky x ≤ ky y)) (fun a b c h1 h2 => by simp only [decide_eq_true_eq] at *; omega) (fun a b => by simp only [Bool.or_eq_true, decide_eq_true_eq]; omega) l
  exact this.imp (fun h => by simpa using h)
theorem seq_sortS (l : List α) : SEq ky l (sortS ky l) := fun k => by
  have hp : (l.filter (fun x => ky x == k)).Pairwise (fun x y => decide (ky x ≤ ky y) = true) := by
    refine List.Pairwise.imp_of_mem (R := fun _ _ => True) (fun {a b} ha hb _ => ?_) (List.pairwise_of_forall (fun _ _ => trivial))
    have h1 := (List.mem_filter.1 ha).2
    have h2 := (List.mem_filter.1 hb).2
    simp only [beq_iff_eq] at h1 h2
    simp [h1, h2]
  have hs := List.sublist_mergeSort (le := fun x y : α => decide (ky x ≤ ky y)) (fun a b c h1 h2 => by simp only [decide_eq_true_eq] at *; omega) (fun a b => by simp only [Bool.or_eq_true, decide_eq_true_eq]; omega) hp (List.filter_sublist (l := l))
  have h2 := hs.filter (fun x => ky x == k)
  rw [List.filter_filter] at h2
  simp only [Bool.and_self] at h2
  exact h2.eq_of_length (((List.mergeSort_perm l _).filter _).length_eq.symm)
theorem sortS_eq {l s : List α} (hs : Srt ky s) (h : SEq ky l s) : sortS ky l = s := srt_uniq (srt_sortS l) hs ((seq_sortS l).symm.trans h)
theorem sortS_of_srt {l : List α} (h : Srt ky l) : sortS ky l = l := sortS_eq h (SEq.refl l)
theorem length_sortS (l : List α) : (sortS ky l).length = l.length := List.length_mergeSort l
theorem mem_sortS {l : List α} {x : α} : x ∈ sortS ky l ↔ x ∈ l := List.mem_mergeSort

/-! ### segments -/
theorem Srt.left {a b : List α} (h : Srt ky (a ++ b)) : Srt ky a := (List.pairwise_append.1 h).1
theorem Srt.right {a b : List α} (h : Srt ky (a ++ b)) : Srt ky b := (List.pairwise_append.1 h).2.1
theorem Srt.le {a b : List α} (h : Srt ky (a ++ b)) {x y : α} (hx : x ∈ a) (hy : y ∈ b) : ky x ≤ ky y := (List.pairwise_append.1 h).2.2 x hx y hy
theorem Srt.append {a b : List α} (ha : Srt ky a) (hb : Srt ky b) (h : ∀ x ∈ a, ∀ y ∈ b, ky x ≤ ky y) : Srt ky (a ++ b) := List.pairwise_append.2 ⟨ha, hb, h⟩
/-- The last of a rising list is the greatest. -/
theorem Srt.last {a : List α} (h : Srt ky a) {x y : α} (hl : a.getLast? = some y) (hx : x ∈ a) : ky x ≤ ky y := by
  obtain ⟨b, rfl⟩ : ∃ b, a = b ++ [y] := by
    exact List.getLast?_eq_some_iff.1 hl
  rcases List.mem_append.1 hx with h1 | h1
  · exact h.le h1 (by simp)
  · simp at h1; subst h1; exact Int.le_refl _
theorem Srt.first {a : List α} (h : Srt ky a) {x y : α} (hf : a.head? = some y) (hx : x ∈ a) : ky y ≤ ky x := by
  cases a with
  | nil => simp at hf
  | cons z r =>
    simp at hf; subst hf
    rcases List.mem_cons.1 hx with rfl | h1
    · exact Int.le_refl _
    · exact (List.pairwise_cons.1 h).1 x h1
/-- Merging by halves. -/
theorem merge_split {L1 L2 R1 R2 : List α} (hL : Srt ky (L1 ++ L2)) (hR : Srt ky (R1 ++ R2)) (h1 : ∀ x ∈ L1, ∀ y ∈ R2, ky x ≤ ky y) (h2 : ∀ x ∈ L2, ∀ y ∈ R1, ky y < ky x) :
    sortS ky (L1 ++ L2 ++ (R1 ++ R2)) = sortS ky (L1 ++ R1) ++ sortS ky (L2 ++ R2) := by
  refine sortS_eq (Srt.append (srt_sortS _) (srt_sortS _) (fun x hx y hy => ?_)) ?_
  · rw [mem_sortS] at hx hy
    rcases List.mem_append.1 hx with hx | hx <;> rcases List.mem_append.1 hy with hy | hy
    · exact hL.le hx hy
    · exact h1 x hx y hy
    · exact Int.le_of_lt (h2 y hy x hx)
    · exact hR.le hx hy
  · have e : L1 ++ L2 ++ (R1 ++ R2) = L1 ++ ((L2 ++ R1) ++ R2) := by simp
    rw [e]
    have s1 : SEq ky (L2 ++ R1) (R1 ++ L2) := SEq.swap (fun x hx y hy he => by have := h2 x hx y hy; omega)
    have s2 : SEq ky (L1 ++ ((L2 ++ R1) ++ R2)) (L1 ++ ((R1 ++ L2) ++ R2)) := (SEq.refl L1).append (s1.append (SEq.refl R2))
    refine s2.trans ?_
    have e2 : L1 ++ ((R1 ++ L2) ++ R2) = (L1 ++ R1) ++ (L2 ++ R2) := by simp
    rw [e2]
    exact (seq_sortS _).append (seq_sortS _)
/-- One element into a rising list. -/
theorem insert_sorted {P Q : List α} {x : α} (h : Srt ky (P ++ Q)) (h1 : ∀ y ∈ P, ky y ≤ ky x) (h2 : ∀ y ∈ Q, ky x < ky y) : sortS ky (P ++ Q ++ [x]) = P ++ [x] ++ Q := by
  refine sortS_eq (Srt.append (Srt.append h.left (List.pairwise_singleton _ _) (fun y hy z hz => by simp at hz; subst hz; exact h1 y hy)) h.right (fun y hy z hz => ?_)) ?_
  · rcases List.mem_append.1 hy with hy | hy
    · exact h.le hy hz
    · simp at hy; subst hy; exact Int.le_of_lt (h2 z hz)
  · have s : SEq ky (Q ++ [x]) ([x] ++ Q) := SEq.swap (fun y hy z hz he => by simp at hz; subst hz; have := h2 y hy; omega)
    have := (SEq.refl (ky := ky) P).append s
    simpa using this
theorem insert_front {R1 R2 : List α} {x : α} (h : Srt ky (R1 ++ R2)) (h1 : ∀ y ∈ R1, ky y < ky x) (h2 : ∀ y ∈ R2, ky x ≤ ky y) : sortS ky ([x] ++ (R1 ++ R2)) = R1 ++ [x] ++ R2 := by
  refine sortS_eq (Srt.append (Srt.append h.left (List.pairwise_singleton _ _) (fun y hy z hz => by simp at hz; subst hz; exact Int.le_of_lt (h1 y hy))) h.right (fun y hy z hz => ?_)) ?_
  · rcases List.mem_append.1 hy with hy | hy
    · exact h.le hy hz
    · simp at hy; subst hy; exact h2 z hz
  · have s : SEq ky ([x] ++ R1) (R1 ++ [x]) := SEq.swap (fun y hy z hz he => by simp at hy; subst hy; have := h1 z hz; omega)
    have := s.append (SEq.refl (ky := ky) R2)
    simpa using this
/-- Sorting a piece. -/
theorem sortS_piece {P : List α} {x : α} (l : List α) (h : P = sortS ky l) : sortS ky (P ++ [x]) = sortS ky (l ++ [x]) := by
  subst h
  exact sortS_eq (srt_sortS _) (((seq_sortS l).symm.append (SEq.refl [x])).trans (seq_sortS _))
/-- An exchange of two neighbours. -/
def swp (l : List α) (i j : Nat) : List α := match l[i]?, l[j]? with
  | some x, some y => (l.set i y).set j x
  | _, _ => l
theorem swp_next {A B : List α} {x y : α} : swp (A ++ x :: y :: B) A.length (A.length + 1) = A ++ y :: x :: B := by
  unfold swp
  simp
theorem swp_mid {A M B : List α} {x y : α} {i j : Nat} (hi : i = A.length) (hj : j = A.length + 1 + M.length) : swp (A ++ x :: (M ++ y :: B)) i j = A ++ y :: (M ++ x :: B) := by
  subst hi; subst hj
  unfold swp
  have e : (A ++ x :: (M ++ y :: B))[A.length + 1 + M.length]? = some y := by
    rw [List.getElem?_append_right (by omega), show A.length + 1 + M.length - A.length = M.length + 1 by omega]
    simp
  rw [e]
  simp only [List.getElem?_append_right (Nat.le_refl _), Nat.sub_self, List.getElem?_cons_zero]
  rw [List.set_append_right _ _ (Nat.le_refl _), Nat.sub_self, List.set_cons_zero, List.set_append_right _ _ (by omega), show A.length + 1 + M.length - A.length = M.length + 1 by omega, List.set_cons_succ, List.set_append_right _ _ (Nat.le_refl _), Nat.sub_self, List.set_cons_zero]
theorem get_mid {A B : List α} {x : α} {i : Nat} (hi : i = A.length) : (A ++ x :: B)[i]? = some x := by subst hi; simp
theorem get_mid2 {A M B : List α} {x y : α} {j : Nat} (hj : j = A.length + 1 + M.length) : (A ++ x :: (M ++ y :: B))[j]? = some y := by
  subst hj
  rw [List.getElem?_append_right (by omega), show A.length + 1 + M.length - A.length = M.length + 1 by omega]
  simp
theorem take_drop_cons {X X' : List α} {x : α} {k : Nat} (h : X.drop k = x :: X') : X.take (k + 1) = X.take k ++ [x] ∧ X.drop (k + 1) = X' := by
  have hk : k < X.length := by
    rcases Nat.lt_or_ge k X.length with h1 | h1
    · exact h1
    · rw [List.drop_eq_nil_of_le h1] at h; cases h
  have e : X[k] = x := by
    have := List.drop_eq_getElem_cons hk
    rw [this] at h
    exact (List.cons.inj h).1
  constructor
  · rw [List.take_succ_eq_append_getElem hk, e]
  · have := List.drop_eq_getElem_cons hk
    rw [this] at h
    exact (List.cons.inj h).2
theorem swp_comm (l : List α) {i j : Nat} (hne : i ≠ j) : swp l i j = swp l j i := by
  unfold swp
  cases l[i]? <;> cases l[j]? <;> simp
  exact List.set_comm _ _ hne
theorem length_swp (l : List α) (i j : Nat) : (swp l i j).length = l.length := by
  unfold swp; split <;> simp
/-- How far one element has been carried down. -/
def InnI (A T S : List α) (ky : α → Int) (x : α) (k q : Nat) (l : List α) : Prop :=
  ∃ P Q : List α, l = A ++ P ++ [x] ++ Q ++ T ∧ P ++ Q = sortS ky (S.take k) ∧ P.length = q ∧ ∀ y ∈ Q, ky x < ky y
theorem InnI.start {A T S : List α} {ky : α → Int} {x : α} {k : Nat} (h : S.drop k = x :: T) (hk : k ≤ S.length) (B : List α) : InnI A (T ++ B) S ky x k k (A ++ sortS ky (S.take k) ++ S.drop k ++ B) :=
  ⟨sortS ky (S.take k), [], by rw [h]; simp, by simp, by rw [length_sortS, List.length_take]; omega, by simp⟩
theorem InnI.stop {A T S : List α} {ky : α → Int} {x : α} {k q : Nat} {l : List α} (h : InnI A T S ky x k q l) (hd : ∃ T', S.drop k = x :: T') (hq : q = 0 ∨ ∃ y, (∃ P', (∃ P Q : List α, l = A ++ P ++ [x] ++ Q ++ T ∧ P.length = q ∧ P = P' ++ [y])) ∧ ky y ≤ ky x) :
    l = A ++ sortS ky (S.take (k + 1)) ++ T := by
  obtain ⟨P, Q, rfl, h2, h3, h4⟩ := h
  obtain ⟨T', hT⟩ := hd
  have hs : Srt ky (P ++ Q) := by rw [h2]; exact srt_sortS _
  have hP : ∀ y ∈ P, ky y ≤ ky x := by
    intro z hz
    rcases hq with rfl | ⟨y, ⟨P', P2, Q2, e1, e2, e3⟩, hy⟩
    · rw [List.length_eq_zero_iff] at h3; subst h3; simp at hz
    · have e4 : P = P2 := by
        have e5 : A ++ P ++ ([x] ++ Q ++ T) = A ++ P2 ++ ([x] ++ Q2 ++ T) := by simpa using e1
        have e6 := List.append_inj_left e5 (by simp; omega)
        exact List.append_cancel_left e6
      subst e4; subst e3
      rcases List.mem_append.1 hz with hz | hz
      · exact Int.le_trans (hs.left.le hz (by simp)) hy
      · simp at hz; subst hz; exact hy
  have e := insert_sorted hs hP h4
  rw [sortS_piece _ h2, ← (take_drop_cons hT).1] at e
  rw [e]; simp
theorem srt_short {ky : α → Int} {l : List α} (h : l.length ≤ 1) : Srt ky l := by
  match l, h with
  | [], _ => exact List.Pairwise.nil
  | [x], _ => exact List.pairwise_singleton _ _
theorem split_at (L : List α) {k : Nat} (hk : k ≤ L.length) : ∃ L1 L2, L = L1 ++ L2 ∧ L1.length = k :=
  ⟨L.take k, L.drop k, (List.take_append_drop _ _).symm, by rw [List.length_take]; omega⟩
theorem all_lt_of_last {ky : α → Int} {R1 R2 : List α} (h : Srt ky (R1 ++ R2)) {c : Int} (hl : R1 = [] ∨ ∃ y, (R1 ++ R2)[R1.length - 1]? = some y ∧ ky y < c) : ∀ z ∈ R1, ky z < c := by
  intro z hz
  rcases hl with rfl | ⟨y, hy, hc⟩
  · simp at hz
  · have hne : 0 < R1.length := List.length_pos_of_mem hz
    rw [List.getElem?_append_left (by omega)] at hy
    have : R1.getLast? = some y := by rw [List.getLast?_eq_getElem?]; exact hy
    exact Int.lt_of_le_of_lt (h.left.last this hz) hc
theorem all_le_of_last {ky : α → Int} {R1 R2 : List α} (h : Srt ky (R1 ++ R2)) {c : Int} (hl : R1 = [] ∨ ∃ y, (R1 ++ R2)[R1.length - 1]? = some y ∧ ky y ≤ c) : ∀ z ∈ R1, ky z ≤ c := by
  intro z hz
  have := all_lt_of_last h (c := c + 1) (hl.imp id (fun ⟨y, h1, h2⟩ => ⟨y, h1, by omega⟩)) z hz
  omega
theorem all_ge_of_first {ky : α → Int} {R1 R2 : List α} (h : Srt ky (R1 ++ R2)) {c : Int} (hl : R2 = [] ∨ ∃ y, (R1 ++ R2)[R1.length]? = some y ∧ c ≤ ky y) : ∀ z ∈ R2, c ≤ ky z := by
  intro z hz
  rcases hl with rfl | ⟨y, hy, hc⟩
  · simp at hz
  · rw [List.getElem?_append_right (Nat.le_refl _), Nat.sub_self] at hy
    have : R2.head? = some y := by rw [List.head?_eq_getElem?]; exact hy
    exact Int.le_trans hc (h.right.first this hz)
theorem get_seg {A R B : List α} {i : Nat} (h1 : A.length ≤ i) (h2 : i < A.length + R.length) : (A ++ R ++ B)[i]? = R[i - A.length]? := by
  rw [List.append_assoc, List.getElem?_append_right h1, List.getElem?_append_left (by omega)]
theorem sym_end1 {ky : α → Int} {A R B : List α} {x : α} {i m : Nat} (hm : m = A.length + 1) (hR : Srt ky R) (h1 : m ≤ i) (h2 : i ≤ m + R.length)
    (hl : i = m ∨ ∃ y, (A ++ [x] ++ R ++ B)[i - 1]? = some y ∧ ky y < ky x) (hr : i = m + R.length ∨ ∃ y, (A ++ [x] ++ R ++ B)[i]? = some y ∧ ¬ ky y < ky x) :
    ∃ R1 R2, R = R1 ++ R2 ∧ R1.length = i - m ∧ sortS ky ([x] ++ R) = R1 ++ [x] ++ R2 := by
  obtain ⟨R1, R2, rfl, hl1⟩ := split_at R (k := i - m) (by clear hl hr; omega)
  refine ⟨R1, R2, rfl, hl1, insert_front hR (all_lt_of_last hR ?_) (all_ge_of_first hR ?_)⟩
  · clear hr
    rcases hl with h | ⟨y, hy, hc⟩
    · exact Or.inl (List.eq_nil_of_length_eq_zero (by omega))
    · by_cases e : i = m
      · exact Or.inl (List.eq_nil_of_length_eq_zero (by omega))
      · rw [get_seg (by simp; omega) (by simp at h2 ⊢; omega)] at hy
        exact Or.inr ⟨y, by rw [← hy]; congr 1; simp; omega, hc⟩
  · clear hl
    rcases hr with h | ⟨y, hy, hc⟩
    · exact Or.inl (List.eq_nil_of_length_eq_zero (by simp at h; omega))
    · by_cases e : i = m + (R1 ++ R2).length
      · exact Or.inl (List.eq_nil_of_length_eq_zero (by simp at e; omega))
      · rw [get_seg (by simp; omega) (by simp at h2 e ⊢; omega)] at hy
        exact Or.inr ⟨y, by rw [← hy]; congr 1; simp; omega, by omega⟩
theorem sym_end2 {ky : α → Int} {A L B : List α} {y : α} {i a m : Nat} (ha : a = A.length) (hm : m = a + L.length) (hL : Srt ky L) (h1 : a ≤ i) (h2 : i ≤ m)
    (hl : i = a ∨ ∃ z, (A ++ L ++ [y] ++ B)[i - 1]? = some z ∧ ¬ ky y < ky z) (hr : i = m ∨ ∃ z, (A ++ L ++ [y] ++ B)[i]? = some z ∧ ky y < ky z) :
    ∃ L1 L2, L = L1 ++ L2 ∧ L1.length = i - a ∧ sortS ky (L ++ [y]) = L1 ++ [y] ++ L2 := by
  obtain ⟨L1, L2, rfl, hl1⟩ := split_at L (k := i - a) (by clear hl hr; omega)
  have hx : ∀ k, a ≤ k → k < m → (A ++ (L1 ++ L2) ++ [y] ++ B)[k]? = (L1 ++ L2)[k - a]? := fun k h3 h4 => by
    rw [List.append_assoc _ [y] B, get_seg (by clear hl hr; omega) (by clear hl hr; omega), ha]
  refine ⟨L1, L2, rfl, hl1, insert_sorted hL (all_le_of_last hL ?_) (fun z hz => ?_)⟩
  · clear hr
    rcases hl with h | ⟨z, hz, hc⟩
    · exact Or.inl (List.eq_nil_of_length_eq_zero (by omega))
    · by_cases e : i = a
      · exact Or.inl (List.eq_nil_of_length_eq_zero (by omega))
      · rw [hx _ (by omega) (by omega)] at hz
        exact Or.inr ⟨z, by rw [← hz]; congr 1; omega, by omega⟩
  · clear hl
    have := all_ge_of_first hL (c := ky y + 1) ?_ z hz
    · clear hr; omega
    · rcases hr with h | ⟨z, hz, hc⟩
      · exact Or.inl (List.eq_nil_of_length_eq_zero (by simp at hm; omega))
      · by_cases e : i = m
        · exact Or.inl (List.eq_nil_of_length_eq_zero (by simp at hm; omega))
        · rw [hx _ (by omega) (by omega)] at hz
          exact Or.inr ⟨z, by rw [← hz]; congr 1 <;> omega, by omega⟩
theorem sym_end3 {ky : α → Int} {A L R B : List α} {a m b s e p s0 r0 : Nat} (ha : a = A.length) (hm : m = a + L.length) (hb : b = m + R.length) (hL : Srt ky L) (hR : Srt ky R)
    (hs1 : a ≤ s) (hs2 : s ≤ m) (he1 : m ≤ e) (he2 : e ≤ b) (hp : p + 1 = s + e) (_h0 : s0 ≤ s) (_hr0 : s ≤ r0) (hs0 : s = s0 → s = a ∨ e = b) (hr0' : s = r0 → s = m ∨ e = m)
    (hl : s = s0 ∨ ∃ u v, (A ++ L ++ R ++ B)[s - 1]? = some u ∧ (A ++ L ++ R ++ B)[p - (s - 1)]? = some v ∧ ¬ ky v < ky u)
    (hr : s = r0 ∨ ∃ u v, (A ++ L ++ R ++ B)[s]? = some u ∧ (A ++ L ++ R ++ B)[p - s]? = some v ∧ ky v < ky u) (hrb : s = r0 ∨ (s < m ∧ m < e)) (hlb : s = s0 ∨ (a < s ∧ e < b)) :
    ∃ L1 L2 R1 R2, L = L1 ++ L2 ∧ R = R1 ++ R2 ∧ L1.length = s - a ∧ R1.length = e - m ∧ sortS ky (L ++ R) = sortS ky (L1 ++ R1) ++ sortS ky (L2 ++ R2) := by
  obtain ⟨L1, L2, rfl, hl1⟩ := split_at L (k := s - a) (by clear hl hr; omega)
  obtain ⟨R1, R2, rfl, hl2⟩ := split_at R (k := e - m) (by clear hl hr; omega)
  have hxL : ∀ k, a ≤ k → k < m → (A ++ (L1 ++ L2) ++ (R1 ++ R2) ++ B)[k]? = (L1 ++ L2)[k - a]? := fun k h3 h4 => by
    rw [List.append_assoc _ (R1 ++ R2) B, get_seg (by clear hl hr; omega) (by clear hl hr; omega), ha]
  have hxR : ∀ k, m ≤ k → k < b → (A ++ (L1 ++ L2) ++ (R1 ++ R2) ++ B)[k]? = (R1 ++ R2)[k - m]? := fun k h3 h4 => by
    rw [get_seg (by rw [List.length_append]; clear hl hr; omega) (by rw [List.length_append]; clear hl hr; omega)]; congr 1; rw [List.length_append]; clear hl hr; omega
  refine ⟨L1, L2, R1, R2, rfl, rfl, hl1, hl2, merge_split hL hR ?_ ?_⟩
  · -- L1 ≤ R2
    intro x hx y hy
    have lx := List.length_pos_of_mem hx
    have ly := List.length_pos_of_mem hy
    simp only [List.length_append] at hm hb
    clear hr hrb
    rcases hlb with h | ⟨h3, h4⟩
    · clear hl; rcases hs0 h with h | h <;> omega
    · rcases hl with h | ⟨u, v, hu, hv, hc⟩
      · rcases hs0 h with h | h <;> omega
      · rw [hxL _ (by omega) (by omega)] at hu
        rw [hxR _ (by omega) (by omega)] at hv
        have q1 := all_le_of_last hL (c := ky u) (Or.inr ⟨u, by rw [← hu]; congr 1; omega, Int.le_refl _⟩) x hx
        have q2 := all_ge_of_first hR (c := ky v) (Or.inr ⟨v, by rw [← hv]; congr 1; omega, Int.le_refl _⟩) y hy
        omega
  · -- R1 < L2
    intro x hx y hy
    have lx := List.length_pos_of_mem hx
    have ly := List.length_pos_of_mem hy
    simp only [List.length_append] at hm hb
    clear hl hlb
    rcases hrb with h | ⟨h3, h4⟩
    · clear hr; rcases hr0' h with h | h <;> omega
    · rcases hr with h | ⟨u, v, hu, hv, hc⟩
      · rcases hr0' h with h | h <;> omega
      · rw [hxL _ (by omega) (by omega)] at hu
        rw [hxR _ (by omega) (by omega)] at hv
        have q1 := all_ge_of_first hL (c := ky u) (Or.inr ⟨u, by rw [← hu]; congr 1 <;> omega, Int.le_refl _⟩) x hx
        have q2 := all_le_of_last hR (c := ky v) (Or.inr ⟨v, by rw [← hv]; congr 1; omega, Int.le_refl _⟩) y hy
        omega
end
end Go.Proofs.Ytannjecmfbhkeaa
