/- Plain definitions and lemmas: transactions, snapshots, versions of rows, as functions on lists; no program in sight. -/
import Derived.Lib.SlKeysI
namespace Go.Proofs.YtkpfoaeldkkciaaGreat
open Go

/-- What has become of each transaction, from 1 on: 1 open, 2 committed, 3 aborted. -/
abbrev TS := List Nat
def stOf (t : TS) (x : Int) : Nat := if 1 ≤ x then t.getD (x.toNat - 1) 0 else 0
def sel (s : Nat) : Int → TS → List Int
  | _, [] => []
  | k, a :: r => if a = s then k :: sel s (k + 1) r else sel s (k + 1) r
theorem sel_nil {s : Nat} {k : Int} : sel s k [] = [] := rfl
theorem sel_cons {s : Nat} {k : Int} {a : Nat} {r : TS} : sel s k (a :: r) = if a = s then k :: sel s (k + 1) r else sel s (k + 1) r := rfl
theorem getD_out {l : List Nat} {i : Nat} (h : l.length ≤ i) : l.getD i 0 = 0 := by simp [List.getD, List.getElem?_eq_none h]
def openL (t : TS) : List Int := sel 1 1 t
def doneL (t : TS) : List Int := sel 2 1 t
def setSt (t : TS) (x : Int) (s : Nat) : TS := t.set (x.toNat - 1) s

theorem sel_bounds {s : Nat} : ∀ {t : TS} {k x : Int}, x ∈ sel s k t → k ≤ x ∧ x < k + t.length
  | [], _, _, h => by simp [sel] at h
  | a :: r, k, x, h => by
    rw [sel_cons] at h
    split at h
    · rcases List.mem_cons.1 h with rfl | h
      · simp only [List.length_cons]; omega
      · have := sel_bounds h; simp only [List.length_cons]; omega
    · have := sel_bounds h; simp only [List.length_cons]; omega

theorem mem_sel {s : Nat} : ∀ {t : TS} {k x : Int}, x ∈ sel s k t ↔ k ≤ x ∧ x < k + t.length ∧ t.getD (x - k).toNat 0 = s
  | [], k, x => by simp [sel]; omega
  | a :: r, k, x => by
    by_cases hx : x = k
    · subst hx
      have e : (x - x).toNat = 0 := by omega
      simp only [e, List.getD_cons_zero, List.length_cons]
      rw [sel_cons]
      split
      · rename_i h; simp [h]; omega
      · rename_i h
        constructor
        · intro h2; have := sel_bounds h2; omega
        · intro h2; exact absurd h2.2.2 h
    · have ih := mem_sel (s := s) (t := r) (k := k + 1) (x := x)
      have hm : x ∈ sel s k (a :: r) ↔ x ∈ sel s (k + 1) r := by
        rw [sel_cons]; split
        · simp [hx]
        · rfl
      rw [hm, ih]
      simp only [List.length_cons]
      constructor
      · rintro ⟨h1, h2, h3⟩
        have e : (x - k).toNat = (x - (k + 1)).toNat + 1 := by omega
        refine ⟨by omega, by omega, ?_⟩
        rw [e, List.getD_cons_succ]; exact h3
      · rintro ⟨h1, h2, h3⟩
        have e : (x - k).toNat = (x - (k + 1)).toNat + 1 := by omega
        rw [e, List.getD_cons_succ] at h3
        exact ⟨by omega, by omega, h3⟩

theorem sel_sorted {s : Nat} : ∀ {t : TS} {k : Int}, (sel s k t).Pairwise (· < ·)
  | [], _ => by simp [sel]
  | a :: r, k => by
    rw [sel_cons]
    split
    · refine List.pairwise_cons.2 ⟨fun y hy => ?_, sel_sorted⟩
      have := sel_bounds hy; omega
    · exact sel_sorted

theorem sel_append {s : Nat} : ∀ {t u : TS} {k : Int}, sel s k (t ++ u) = sel s k t ++ sel s (k + t.length) u
  | [], u, k => by simp [sel]
  | a :: r, u, k => by
    have ih := sel_append (s := s) (t := r) (u := u) (k := k + 1)
    have e : k + ((a :: r).length : Int) = k + 1 + (r.length : Int) := by simp only [List.length_cons]; omega
    rw [e, List.cons_append, sel_cons, sel_cons]
    split <;> simp [ih]

theorem sel_length_le {s : Nat} : ∀ {t : TS} {k : Int}, (sel s k t).length ≤ t.length
  | [], _ => by simp [sel]
  | a :: r, k => by
    have ih := sel_length_le (s := s) (t := r) (k := k + 1)
    rw [sel_cons]; split <;> simp only [List.length_cons] <;> omega

/-- Setting one to a state other than s: it is struck. -/
theorem sel_set_out {s u : Nat} (hu : u ≠ s) : ∀ {t : TS} {k : Int} (i : Nat), i < t.length → sel s k (t.set i u) = (sel s k t).filter (fun y => y != k + i)
  | [], _, i, h => by simp at h
  | a :: r, k, 0, _ => by
    have hf : (sel s (k + 1) r).filter (fun y => y != k + ((0 : Nat) : Int)) = sel s (k + 1) r := by
      rw [List.filter_eq_self]
      intro y hy; have := sel_bounds hy; simp; omega
    rw [List.set_cons_zero]
    conv => lhs; rw [sel_cons]
    conv => rhs; rw [sel_cons]
    rw [if_neg hu]
    split
    · rw [List.filter_cons_of_neg (by simp), hf]
    · rw [hf]
  | a :: r, k, i + 1, h => by
    have ih := sel_set_out hu (t := r) (k := k + 1) i (by simpa using h)
    have e : k + 1 + (i : Int) = k + ((i + 1 : Nat) : Int) := by omega
    rw [e] at ih
    rw [List.set_cons_succ]
    conv => lhs; rw [sel_cons]
    conv => rhs; rw [sel_cons]
    split
    · rw [List.filter_cons_of_pos (by simp; omega), ih]
    · exact ih

/-- A number into a rising list. -/
def insS (x : Int) : List Int → List Int
  | [] => [x]
  | y :: r => if x < y then x :: y :: r else y :: insS x r

theorem insS_end (x : Int) : ∀ {l : List Int}, (∀ y ∈ l, y < x) → insS x l = l ++ [x]
  | [], _ => rfl
  | y :: r, h => by
    have h1 := h y (by simp)
    unfold insS
    rw [if_neg (by omega), insS_end x (fun z hz => h z (by simp [hz]))]; rfl
theorem insS_front (x : Int) : ∀ {l : List Int}, (∀ y ∈ l, x < y) → insS x l = x :: l
  | [], _ => rfl
  | y :: r, h => by unfold insS; rw [if_pos (h y (by simp))]

/-- Setting one to s that was in another state: it is laid in. -/
theorem sel_set_in {s : Nat} : ∀ {t : TS} {k : Int} (i : Nat), i < t.length → t.getD i 0 ≠ s → sel s k (t.set i s) = insS (k + i) (sel s k t)
  | [], _, i, h, _ => by simp at h
  | a :: r, k, 0, _, hne => by
    rw [List.getD_cons_zero] at hne
    rw [List.set_cons_zero]
    conv => lhs; rw [sel_cons]
    conv => rhs; rw [sel_cons]
    rw [if_pos rfl, if_neg hne, insS_front]
    · simp
    · intro y hy; have := sel_bounds hy; omega
  | a :: r, k, i + 1, h, hne => by
    rw [List.getD_cons_succ] at hne
    have ih := sel_set_in (t := r) (k := k + 1) i (by simpa using h) hne
    have e : k + 1 + (i : Int) = k + ((i + 1 : Nat) : Int) := by omega
    rw [e] at ih
    rw [List.set_cons_succ]
    conv => lhs; rw [sel_cons]
    conv => rhs; rw [sel_cons]
    split
    · unfold insS; rw [if_neg (by omega), ih]
    · exact ih

theorem stOf_pos {t : TS} {x : Int} (h : stOf t x ≠ 0) : 1 ≤ x ∧ x ≤ t.length := by
  unfold stOf at h
  split at h
  · rename_i h1
    refine ⟨h1, ?_⟩
    by_cases h2 : x ≤ t.length
    · exact h2
    · exfalso; apply h
      exact getD_out (by omega)
  · exact absurd rfl h
theorem mem_sel1 {s : Nat} (hs : s ≠ 0) {t : TS} {x : Int} : x ∈ sel s 1 t ↔ stOf t x = s := by
  rw [mem_sel]
  constructor
  · rintro ⟨h1, h2, h3⟩
    unfold stOf
    rw [if_pos h1]
    have e : (x - 1).toNat = x.toNat - 1 := by omega
    rw [← e]; exact h3
  · intro h
    have := stOf_pos (t := t) (x := x) (by rw [h]; exact hs)
    refine ⟨this.1, by omega, ?_⟩
    unfold stOf at h
    rw [if_pos this.1] at h
    have e : (x - 1).toNat = x.toNat - 1 := by omega
    rw [e]; exact h
theorem mem_openL {t : TS} {x : Int} : x ∈ openL t ↔ stOf t x = 1 := mem_sel1 (by decide)
theorem mem_doneL {t : TS} {x : Int} : x ∈ doneL t ↔ stOf t x = 2 := mem_sel1 (by decide)
theorem stOf_out {t : TS} {x : Int} (h : x < 1 ∨ (t.length : Int) < x) : stOf t x = 0 := by
  unfold stOf
  split
  · exact getD_out (by omega)
  · rfl
theorem stOf_snoc {t : TS} {s : Nat} {x : Int} : stOf (t ++ [s]) x = if x = t.length + 1 then s else stOf t x := by
  unfold stOf
  by_cases h1 : 1 ≤ x
  · simp only [h1, if_true]
    by_cases h2 : x = t.length + 1
    · rw [if_pos h2]
      have e : x.toNat - 1 = t.length := by omega
      rw [e]; simp [List.getD]
    · rw [if_neg h2]
      simp only [List.getD]
      by_cases h3 : x.toNat - 1 < t.length
      · rw [List.getElem?_append_left h3]
      · rw [List.getElem?_eq_none (l := t ++ [s]) (by simp; omega), List.getElem?_eq_none (l := t) (by omega)]
  · simp only [h1, if_false]
    rw [if_neg (by omega)]
theorem stOf_setSt {t : TS} {s : Nat} {x y : Int} (h : 1 ≤ x) (h' : x ≤ t.length) : stOf (setSt t x s) y = if y = x then s else stOf t y := by
  unfold stOf setSt
  by_cases h1 : 1 ≤ y
  · simp only [h1, if_true, List.getD]
    rw [List.getElem?_set]
    by_cases h2 : y = x
    · subst h2
      rw [if_pos rfl, if_pos (by omega), if_pos rfl]; rfl
    · rw [if_neg (by omega), if_neg h2]
  · simp only [h1, if_false]
    rw [if_neg (by omega)]
theorem length_setSt {t : TS} {s : Nat} {x : Int} : (setSt t x s).length = t.length := by simp [setSt]
theorem openL_snoc {t : TS} : openL (t ++ [1]) = openL t ++ [(t.length : Int) + 1] := by
  unfold openL; rw [sel_append]; simp [sel]; omega
theorem doneL_snoc {t : TS} : doneL (t ++ [1]) = doneL t := by
  unfold doneL; rw [sel_append]; simp [sel]
theorem openL_set {t : TS} {x : Int} {u : Nat} (h : stOf t x = 1) (hu : u ≠ 1) : openL (setSt t x u) = (openL t).filter (fun y => y != x) := by
  have hb := stOf_pos (t := t) (x := x) (by rw [h]; decide)
  unfold openL setSt
  rw [sel_set_out hu _ (by omega)]
  congr 1; funext y; congr 1; omega
theorem doneL_set3 {t : TS} {x : Int} (h : stOf t x = 1) : doneL (setSt t x 3) = doneL t := by
  have hb := stOf_pos (t := t) (x := x) (by rw [h]; decide)
  unfold doneL setSt
  rw [sel_set_out (by decide) _ (by omega), List.filter_eq_self]
  intro y hy
  have hy2 := (mem_sel1 (by decide)).1 hy
  have : y ≠ x := by intro e; subst e; rw [h] at hy2; exact absurd hy2 (by decide)
  simp; omega
theorem doneL_set2 {t : TS} {x : Int} (h : stOf t x = 1) : doneL (setSt t x 2) = insS x (doneL t) := by
  have hb := stOf_pos (t := t) (x := x) (by rw [h]; decide)
  have e2 : (1 : Int) + ((x.toNat - 1 : Nat) : Int) = x := by omega
  unfold doneL setSt
  rw [sel_set_in _ (by omega), e2]
  unfold stOf at h
  rw [if_pos hb.1] at h
  rw [h]; decide

/-! ### the datum of a set of numbers -/
def mapD (S : List Int) : DataW Unit := .map (S.map fun x => (Lit.int .i64 x, DataW.lit (.bool true)))
theorem insert_mapD (x : Int) : ∀ (S : List Int), DataW.insert (Lit.int .i64 x, DataW.lit (.bool true)) (S.map fun x => (Lit.int .i64 x, (DataW.lit (.bool true) : DataW Unit))) = (insS x S).map fun x => (Lit.int .i64 x, DataW.lit (.bool true))
  | [] => rfl
  | y :: r => by
    simp only [List.map_cons]
    unfold DataW.insert insS
    by_cases h : x < y
    · simp [Lit.before, h]
    · simp [Lit.before, h, insert_mapD x r]
theorem sameKey_int (x y : Int) : (Lit.int .i64 x).sameKey (Lit.int .i64 y) = decide (x = y) := by simp [Lit.sameKey]
theorem put_mapD {x : Int} {S : List Int} (h : x ∉ S) : (mapD S).put (.int .i64 x) (.lit (.bool true)) = mapD (insS x S) := by
  unfold mapD DataW.put
  simp only
  rw [List.filter_eq_self.2, insert_mapD]
  intro p hp
  obtain ⟨y, hy, rfl⟩ := List.mem_map.1 hp
  simp only [sameKey_int]
  have : y ≠ x := fun e => h (e ▸ hy)
  simp [this]
theorem del_mapD {x : Int} {S : List Int} : (mapD S).del (.int .i64 x) = mapD (S.filter fun y => y != x) := by
  unfold mapD DataW.del
  simp only [List.filter_map]
  congr 2
  apply List.filter_congr
  intro y _
  simp only [Function.comp, sameKey_int]
  by_cases h : y = x <;> simp [h]
theorem has_mapD {x : Int} {S : List Int} : Maps.has (mapD S) (.int .i64 x) = decide (x ∈ S) := by
  unfold mapD
  rw [Maps.has_eq]
  induction S with
  | nil => simp
  | cons y r ih =>
    simp only [List.map_cons, List.any_cons, ih, sameKey_int, List.mem_cons]
    by_cases h : y = x
    · simp [h]
    · have h' : ¬ x = y := fun e => h e.symm
      simp [h, h']
theorem size_mapD {S : List Int} : Maps.size (mapD S) = S.length := by unfold mapD; rw [Maps.size_eq]; simp
theorem atKey_mapD {x : Int} {S : List Int} : (mapD S).atKey (.int .i64 x) (.lit (.bool false)) = .lit (.bool (decide (x ∈ S))) := by
  unfold mapD DataW.atKey
  induction S with
  | nil => simp
  | cons y r ih =>
    simp only [List.map_cons, List.find?_cons, sameKey_int, List.mem_cons]
    by_cases h : y = x
    · simp [h]
    · have h' : ¬ x = y := fun e => h e.symm
      simp only [h, h', decide_false, false_or]
      exact ih
theorem intKeys_mapD {S : List Int} : intKeys (mapD S) = S := by
  unfold mapD intKeys
  simp only [List.map_map]
  have : ((fun p : Lit × DataW Unit => intOf p.1) ∘ fun x => (Lit.int .i64 x, DataW.lit (.bool true))) = id := by funext x; rfl
  rw [this]; simp
theorem mergeSort_of_sorted {S : List Int} (h : S.Pairwise (· < ·)) : S.mergeSort (fun x y => decide (x ≤ y)) = S :=
  List.mergeSort_of_pairwise (h.imp fun h => by simp; omega)

/-! ### versions -/
structure Vr where
  key : Int
  text : ByteArray
  born : Int
  died : Int
instance : Inhabited Vr := ⟨⟨0, ByteArray.empty, 0, 0⟩⟩
structure Vw where
  max : Int
  opn : List Int
  own : Int
abbrev Rw := Int × ByteArray
def encV (x : Vr) : List Value := [.int .i64 x.key, .string x.text, .int .i64 x.born, .int .i64 x.died]
def encR (x : Rw) : List Value := [.int .i64 x.1, .string x.2]
def Vr.row (x : Vr) : Rw := (x.key, x.text)
/-- Is a transaction seen? -/
def seesB (mx : Int) (op : List Int) (x : Int) : Bool := decide (1 ≤ x) && decide (x < mx) && !decide (x ∈ op)
def didB (t : TS) (v : Vw) (x : Int) : Bool := decide (0 < x) && (decide (x = v.own) || (decide (stOf t x = 2) && seesB v.max v.opn x))
def visB (t : TS) (v : Vw) (x : Vr) : Bool := didB t v x.born && !didB t v x.died
def othersB (t : TS) (own x : Int) : Bool := decide (stOf t x = 2) || (decide (stOf t x = 1) && decide (x ≠ own))
def blocksB (t : TS) (own : Int) (x : Vr) : Bool := othersB t own x.born && !(decide (0 < x.died) && (decide (x.died = own) || decide (stOf t x.died = 2)))
/-- The place of the first of which p holds; below 0: none. -/
def idxI {α : Type} (p : α → Bool) : List α → Int
  | [] => -1
  | x :: r => if p x then 0 else if idxI p r < 0 then -1 else idxI p r + 1
theorem idxI_cases {α : Type} (p : α → Bool) : ∀ l : List α, (idxI p l = -1 ∧ ∀ x ∈ l, p x = false) ∨ (∃ (i : Nat) (x : α), idxI p l = i ∧ l[i]? = some x ∧ p x = true ∧ ∀ (j : Nat) (y : α), j < i → l[j]? = some y → p y = false)
  | [] => Or.inl ⟨rfl, by simp⟩
  | x :: r => by
    unfold idxI
    cases hx : p x
    · rcases idxI_cases p r with ⟨h1, h2⟩ | ⟨i, y, h1, h2, h3, h4⟩
      · left
        rw [h1]
        refine ⟨by simp, fun z hz => ?_⟩
        rcases List.mem_cons.1 hz with rfl | hz
        · exact hx
        · exact h2 z hz
      · right
        rw [h1]
        refine ⟨i + 1, y, ?_, by simpa using h2, h3, fun j z hj hz => ?_⟩
        · rw [if_neg (by decide), if_neg (by omega)]; omega
        · cases j with
          | zero => simp at hz; subst hz; exact hx
          | succ j => exact h4 j z (by omega) (by simpa using hz)
    · right
      exact ⟨0, x, by simp, by simp, hx, fun j z hj => by omega⟩
theorem idxI_hit {α : Type} {p : α → Bool} {l : List α} {i : Nat} {x : α} (h : l[i]? = some x) (hx : p x = true) (hb : ∀ (j : Nat) (y : α), j < i → l[j]? = some y → p y = false) : idxI p l = i := by
  rcases idxI_cases p l with ⟨_, h2⟩ | ⟨k, y, h1, h2, h3, h4⟩
  · exact absurd hx (by rw [h2 x (List.mem_of_getElem? h)]; decide)
  · rw [h1]
    rcases Nat.lt_trichotomy k i with hk | hk | hk
    · exact absurd h3 (by rw [hb k y hk h2]; decide)
    · rw [hk]
    · exact absurd hx (by rw [h4 i x hk h]; decide)
theorem idxI_miss {α : Type} {p : α → Bool} {l : List α} (hb : ∀ x ∈ l, p x = false) : idxI p l = -1 := by
  rcases idxI_cases p l with ⟨h1, _⟩ | ⟨k, y, _, h2, h3, _⟩
  · exact h1
  · exact absurd h3 (by rw [hb y (List.mem_of_getElem? h2)]; decide)
theorem idxI_nonneg {α : Type} (p : α → Bool) (l : List α) : decide (0 ≤ idxI p l) = l.any p := by
  rcases idxI_cases p l with ⟨h1, h2⟩ | ⟨k, y, h1, h2, h3, _⟩
  · rw [h1]
    symm
    simp only [decide_eq_false (show ¬ (0 : Int) ≤ -1 by decide), List.any_eq_false]
    intro x hx; rw [h2 x hx]; decide
  · rw [h1, decide_eq_true (by omega)]
    symm
    exact List.any_eq_true.2 ⟨y, List.mem_of_getElem? h2, h3⟩
theorem flat_get {α : Type} {enc : α → List Value} {k : Nat} (hk : ∀ x, (enc x).length = k) : ∀ {l : List α} {j : Nat} {x : α} {i : Nat} {v : Value}, l[j]? = some x → (enc x)[i]? = some v → (l.flatMap enc)[j * k + i]? = some v
  | [], j, x, i, v, h, _ => by simp at h
  | y :: r, 0, x, i, v, h, hv => by
    simp at h; subst h
    rw [List.flatMap_cons, Nat.zero_mul, Nat.zero_add, List.getElem?_append_left (List.getElem?_eq_some_iff.1 hv).1]
    exact hv
  | y :: r, j + 1, x, i, v, h, hv => by
    rw [List.flatMap_cons, List.getElem?_append_right (by rw [hk, Nat.add_mul]; omega), hk, show (j + 1) * k + i - k = j * k + i by rw [Nat.add_mul]; omega]
    exact flat_get hk (by simpa using h) hv
theorem flat_length {α : Type} {enc : α → List Value} {k : Nat} (hk : ∀ x, (enc x).length = k) : ∀ (l : List α), (l.flatMap enc).length = l.length * k
  | [] => by simp
  | y :: r => by rw [List.flatMap_cons, List.length_append, hk, flat_length hk r, List.length_cons, Nat.add_mul]; omega
/-! ### what is done to versions -/
def findI (t : TS) (v : Vw) (vs : List Vr) (key : Int) : Int := idxI (fun x => decide (x.key = key) && visB t v x) vs
def readyE (t : TS) (own : Int) : Int := if stOf t own = 1 then 0 else 7
def setD (vs : List Vr) (i : Nat) (o : Int) : List Vr := vs.modify i (fun x => { x with died := o })
/-- The error of kill. -/
def killE (t : TS) (v : Vw) (vs : List Vr) (key : Int) : Int :=
  if stOf t v.own = 1 then (match vs[(findI t v vs key).toNat]? with
    | some x => if findI t v vs key < 0 then 4 else if othersB t v.own x.died then 6 else 0
    | none => 4) else 7
def killV (t : TS) (v : Vw) (vs : List Vr) (key : Int) : List Vr := if killE t v vs key = 0 then setD vs (findI t v vs key).toNat v.own else vs
theorem length_setD {vs : List Vr} {i : Nat} {o : Int} : (setD vs i o).length = vs.length := by simp [setD]
theorem flat_setD {vs : List Vr} : ∀ {i : Nat} {o : Int}, (setD vs i o).flatMap encV = (vs.flatMap encV).set (i * 4 + 3) (.int .i64 o) := by
  induction vs with
  | nil => intro i o; simp [setD]
  | cons x r ih =>
    intro i o
    cases i with
    | zero => simp [setD, encV]
    | succ i =>
      have := ih (i := i) (o := o)
      unfold setD at this ⊢
      rw [List.modify_succ_cons, List.flatMap_cons, List.flatMap_cons, this, List.set_append_right _ _ (by simp [encV]; omega)]
      congr 2
      simp [encV]; omega
theorem setD_mem {vs : List Vr} {i : Nat} {o : Int} {y : Vr} (h : y ∈ setD vs i o) : y ∈ vs ∨ ∃ x ∈ vs, y = { x with died := o } := by
  unfold setD at h
  obtain ⟨j, hj, he⟩ := List.getElem_of_mem h
  rw [List.getElem_modify] at he
  have hj' : j < vs.length := by simpa using hj
  split at he
  · exact Or.inr ⟨vs[j], List.getElem_mem hj', he.symm⟩
  · exact Or.inl (he ▸ List.getElem_mem hj')
def insE (t : TS) (v : Vw) (vs : List Vr) (key : Int) : Int :=
  if stOf t v.own = 1 then (if 0 ≤ findI t v vs key then 5 else if vs.any (fun x => decide (x.key = key) && blocksB t v.own x) then 6 else 0) else 7
def insV (t : TS) (v : Vw) (vs : List Vr) (r : Rw) : List Vr := if insE t v vs r.1 = 0 then vs ++ [⟨r.1, r.2, v.own, 0⟩] else vs
def updV (t : TS) (v : Vw) (vs : List Vr) (r : Rw) : List Vr := if killE t v vs r.1 = 0 then killV t v vs r.1 ++ [⟨r.1, r.2, v.own, 0⟩] else vs
theorem length_killV {t : TS} {v : Vw} {vs : List Vr} {key : Int} : (killV t v vs key).length = vs.length := by
  unfold killV; split
  · exact length_setD
  · rfl
/-- What a view sees of a key. -/
def getR (t : TS) (v : Vw) (vs : List Vr) (key : Int) : Option Rw := (vs.find? (fun x => decide (x.key = key) && visB t v x)).map Vr.row
end Go.Proofs.YtkpfoaeldkkciaaGreat
