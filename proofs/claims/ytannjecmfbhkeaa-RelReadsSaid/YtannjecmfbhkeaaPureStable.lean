/- Sorting by runs that double: plain lists. -/
import Derived.Test.YtannjecmfbhkeaaPureSort
namespace Go.Proofs.Ytannjecmfbhkeaa
section
variable {α : Type} (ky : α → Int)
/-- Each run of bs is sorted, from run q on, resp. below it. -/
def ChkTo (bs q : Nat) (l : List α) : Prop := ∀ i, i < q → Srt ky ((l.drop (i * bs)).take bs)
def ChkFrom (bs q : Nat) (l : List α) : Prop := ∀ i, q ≤ i → Srt ky ((l.drop (i * bs)).take bs)
variable {ky}
theorem piece_left {A X : List α} {i k : Nat} (h : i + k ≤ A.length) : ((A ++ X).drop i).take k = (A.drop i).take k := by
  rw [List.drop_append_of_le_length (by omega), List.take_append_of_le_length (by rw [List.length_drop]; omega)]
theorem piece_mid {A S B : List α} {i k : Nat} (h1 : i = A.length) (h2 : k = S.length) : ((A ++ S ++ B).drop i).take k = S := by
  subst h1; subst h2
  rw [List.append_assoc, List.drop_left, List.take_left]
theorem piece_right {A S B : List α} {i : Nat} (h : A.length + S.length ≤ i) : (A ++ S ++ B).drop i = B.drop (i - (A.length + S.length)) := by
  rw [List.drop_append, List.drop_eq_nil_of_le (by simp; omega), List.nil_append, List.length_append]
/-- One run more is sorted. -/
theorem chk_insert {A S B : List α} {bs q : Nat} (hA : A.length = q * bs) (hS : S.length = bs) (h : ChkTo ky bs q (A ++ S ++ B)) : ChkTo ky bs (q + 1) (A ++ sortS ky S ++ B) := by
  intro i hi
  by_cases h1 : i < q
  · have hb : i * bs + bs ≤ A.length := by
      rw [hA]; have := Nat.mul_le_mul_right bs (show i + 1 ≤ q from h1); rwa [Nat.add_mul, Nat.one_mul] at this
    have := h i h1
    rw [List.append_assoc, piece_left hb] at this ⊢
    exact this
  · obtain rfl : i = q := by omega
    rw [piece_mid hA.symm (by rw [length_sortS]; exact hS.symm)]
    exact srt_sortS _
/-- The last run, which may be short. -/
theorem chk_last {A S : List α} {bs q : Nat} (hA : A.length = q * bs) (hS : S.length ≤ bs) (h : ChkTo ky bs q (A ++ S)) : ChkFrom ky bs 0 (A ++ sortS ky S) := by
  intro i _
  by_cases h1 : i < q
  · have hb : i * bs + bs ≤ A.length := by
      rw [hA]; have := Nat.mul_le_mul_right bs (show i + 1 ≤ q from h1); rwa [Nat.add_mul, Nat.one_mul] at this
    have := h i h1
    rw [piece_left hb] at this ⊢
    exact this
  · have hq : A.length ≤ i * bs := by rw [hA]; exact Nat.mul_le_mul_right bs (by omega)
    rw [List.drop_append, List.drop_eq_nil_of_le hq, List.nil_append]
    by_cases h2 : i = q
    · subst h2
      rw [hA, Nat.sub_self, List.drop_zero, List.take_of_length_le (by rw [length_sortS]; exact hS)]
      exact srt_sortS _
    · have h3 : bs ≤ i * bs - A.length := by
        rw [hA, ← Nat.sub_mul]
        exact Nat.le_mul_of_pos_left _ (by omega)
      rw [List.drop_eq_nil_of_le (by rw [length_sortS]; omega)]
      simp [Srt]
theorem chk_runs {l A L R B : List α} {bs q : Nat} (hl : l = A ++ L ++ R ++ B) (hA : A.length = 2 * q * bs) (hL : L.length = bs) (hR : R.length ≤ bs) (hB : R.length = bs ∨ B = []) (h : ChkFrom ky bs (2 * q) l) : Srt ky L ∧ Srt ky R := by
  subst hl
  constructor
  · have := h (2 * q) (Nat.le_refl _)
    rw [show A ++ L ++ R ++ B = A ++ L ++ (R ++ B) from by simp, piece_mid hA.symm hL.symm] at this
    exact this
  · have := h (2 * q + 1) (by omega)
    have e : (2 * q + 1) * bs = (A ++ L).length := by rw [List.length_append, hA, hL, Nat.add_mul, Nat.one_mul]
    rw [e] at this
    rcases hB with hB | rfl
    · rw [piece_mid rfl hB.symm] at this; exact this
    · rw [List.append_nil, List.drop_left, List.take_of_length_le hR] at this; exact this
/-- Two runs become one. -/
theorem chk_merge {A L R B : List α} {bs q : Nat} (hA : A.length = 2 * q * bs) (hL : L.length = bs) (hR : R.length = bs) (h1 : ChkTo ky (2 * bs) q (A ++ L ++ R ++ B)) (h2 : ChkFrom ky bs (2 * q) (A ++ L ++ R ++ B)) :
    ChkTo ky (2 * bs) (q + 1) (A ++ sortS ky (L ++ R) ++ B) ∧ ChkFrom ky bs (2 * (q + 1)) (A ++ sortS ky (L ++ R) ++ B) := by
  have hA2 : A.length = q * (2 * bs) := by rw [hA, Nat.mul_comm 2 q, Nat.mul_assoc]
  constructor
  · refine chk_insert hA2 (by rw [List.length_append]; omega) ?_
    rw [show A ++ (L ++ R) ++ B = A ++ L ++ R ++ B from by simp]; exact h1
  · intro i hi
    have := h2 i (by omega)
    have hle : A.length + (2 * bs) ≤ i * bs := by
      rw [hA]; have := Nat.mul_le_mul_right bs hi; rw [Nat.mul_add, Nat.add_mul] at this; omega
    rw [show A ++ L ++ R ++ B = A ++ (L ++ R) ++ B from by simp, piece_right (by rw [List.length_append]; omega), List.length_append] at this
    rw [piece_right (by rw [length_sortS, List.length_append]; omega), length_sortS, List.length_append]
    exact this
/-- The last two runs, of which the second may be short. -/
theorem chk_merge_last {A L R : List α} {bs q : Nat} (hA : A.length = 2 * q * bs) (hL : L.length = bs) (hR : R.length ≤ bs) (h1 : ChkTo ky (2 * bs) q (A ++ L ++ R)) : ChkFrom ky (2 * bs) 0 (A ++ sortS ky (L ++ R)) := by
  have hA2 : A.length = q * (2 * bs) := by rw [hA, Nat.mul_comm 2 q, Nat.mul_assoc]
  refine chk_last hA2 (by rw [List.length_append]; omega) ?_
  rw [← List.append_assoc]; exact h1
/-- The last run has no fellow. -/
theorem chk_alone {A L : List α} {bs q : Nat} (hA : A.length = 2 * q * bs) (hL : L.length ≤ bs) (h1 : ChkTo ky (2 * bs) q (A ++ L)) (h2 : ChkFrom ky bs (2 * q) (A ++ L)) : ChkFrom ky (2 * bs) 0 (A ++ L) := by
  have hA2 : A.length = q * (2 * bs) := by rw [hA, Nat.mul_comm 2 q, Nat.mul_assoc]
  have hs : Srt ky L := by
    have := h2 (2 * q) (Nat.le_refl _)
    rw [← hA, List.drop_left, List.take_of_length_le hL] at this
    exact this
  have := chk_last hA2 (Nat.le_trans hL (by omega)) h1
  rwa [sortS_of_srt hs] at this
theorem chk_all {l l0 : List α} {bs : Nat} (h : ChkFrom ky bs 0 l) (hl : l.length ≤ bs) (he : SEq ky l0 l) : l = sortS ky l0 := by
  have := h 0 (Nat.le_refl _)
  rw [Nat.zero_mul, List.drop_zero, List.take_of_length_le hl] at this
  exact (sortS_eq this he).symm
theorem seq_piece {A S B : List α} : SEq ky (A ++ S ++ B) (A ++ sortS ky S ++ B) := ((SEq.refl _).append (seq_sortS _)).append (SEq.refl _)
theorem cut2 (l : List α) {a b : Nat} (h1 : a ≤ b) (h2 : b ≤ l.length) : ∃ A S B, l = A ++ S ++ B ∧ A.length = a ∧ S.length = b - a := by
  refine ⟨l.take a, (l.drop a).take (b - a), (l.drop a).drop (b - a), ?_, ?_, ?_⟩
  · rw [List.append_assoc, List.take_append_drop, List.take_append_drop]
  · rw [List.length_take]; omega
  · rw [List.length_take, List.length_drop]; omega
end
end Go.Proofs.Ytannjecmfbhkeaa
