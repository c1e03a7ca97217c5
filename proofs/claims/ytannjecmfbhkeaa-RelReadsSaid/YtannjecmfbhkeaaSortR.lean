/- Sorting rows by their keys: what the library's stable sort does to a row of cells. -/
import Derived.Test.YtannjecmfbhkeaaHeapRead
import Derived.Test.YtannjecmfbhkeaaPureSort
namespace Go.Proofs.Ytannjecmfbhkeaa
open Go Go.RowKit Go.Lib

abbrev kyR (x : Rw) : Int := x.1
theorem flat_setR {l : List Rw} : ∀ {i : Nat} {x : Rw}, (l.set i x).flatMap encR = ((l.flatMap encR).set (i * 2) (.int .i64 x.1)).set (i * 2 + 1) (.string x.2) := by
  induction l with
  | nil => intro i x; simp
  | cons y r ih =>
    intro i x
    cases i with
    | zero => simp [encR]
    | succ i =>
      rw [List.set_cons_succ, List.flatMap_cons, List.flatMap_cons, ih (i := i) (x := x), show (i + 1) * 2 = i * 2 + (encR y).length by simp [encR]; omega,
        List.set_append_right _ _ (by omega), List.set_append_right _ _ (by omega)]
      congr 2 <;> omega

/-- W holds the list l in the row at block g (N elements, room c); beside that row nothing of w0 has turned. -/
structure SWR (w0 : World) (g c N : Nat) (l : List Rw) (W : World) : Prop where
  row : W.ownsRow 0 38 2 (.slice (some ⟨g, 0, none⟩) N c) N (l.flatMap encR)
  tc : Tc (fun b => b = g) w0 W
section
variable {w0 W W' : World} {g c N : Nat} {l : List Rw}
theorem SWR.len (h : SWR w0 g c N l W) : l.length = N := by
  have := h.row.1
  rw [flat_length (enc := encR) (k := 2) (fun _ => rfl)] at this
  omega
theorem SWR.gr (h : SWR w0 g c N l W) (hg : Gr W W') : SWR w0 g c N l W' :=
  ⟨ownsRow_heap h.row (fun b hb => hg.heap (h.row.lt b hb).2), h.tc.trans (hg.tc _)⟩
theorem SWR.at (h : SWR w0 g c N l W) {i : Nat} {x : Rw} (hx : l[i]? = some x) : W.cell? ⟨g, i * 2, none⟩ = some (.int .i64 x.1) ∧ W.cell? ⟨g, i * 2 + 1, none⟩ = some (.string x.2) := by
  have key : ∀ k v, (encR x)[k]? = some v → W.cell? ⟨g, i * 2 + k, none⟩ = some v := fun k v hv => by
    have := h.row.cells (g := g) rfl (i * 2 + k) v (flat_get (enc := encR) (k := 2) (fun _ => rfl) hx hv)
    rw [show (⟨g, 0, none⟩ : Addr).add (i * 2 + k) = ⟨g, i * 2 + k, none⟩ from by unfold Addr.add; split <;> simp_all] at this
    exact this
  exact ⟨key 0 _ rfl, key 1 _ rfl⟩
theorem SWR.frozen (h : SWR w0 g c N l W) (j : Nat) : W.frozen? ⟨g, j, none⟩ = false := ownsRow_frozen h.row j
theorem SWR.swap (h : SWR w0 g c N l W) {i j : Nat} {x y : Rw} (hx : l[i]? = some x) (hy : l[j]? = some y) :
    SWR w0 g c N (swp l i j) ((((W.drew.setCell ⟨g, i * 2, none⟩ (.int .i64 y.1)).setCell ⟨g, i * 2 + 1, none⟩ (.string y.2)).setCell ⟨g, j * 2, none⟩ (.int .i64 x.1)).setCell ⟨g, j * 2 + 1, none⟩ (.string x.2)) := by
  have h0 := h.gr (Gr.drew W)
  refine ⟨?_, (((h0.tc.setCell rfl _).setCell rfl _).setCell rfl _).setCell rfl _⟩
  unfold swp
  rw [hx, hy]
  simp only
  rw [flat_setR, flat_setR]
  exact ownsRow_set (ownsRow_set (ownsRow_set (ownsRow_set h0.row _ _) _ _) _ _) _ _
end

def cmpI (x y : Int) : Int := if x < y then -1 else if y < x then 1 else 0
theorem isNaN_calls (w : World) (x : Int) : Calls Try.prog 67 #[.int .i64 x] w fun e w' => e = .returned (.bool false) ∧ w = w' := by
  go_enter Try.func67, Try.ntmps67
  go_wp2
  go_ret
  exact ⟨by simp, rfl⟩
theorem Compare_calls (w : World) (x y : Int) : Calls Try.prog 48 #[.int .i64 x, .int .i64 y] w fun e w' => e = .returned (.int .i64 (cmpI x y)) ∧ w = w' := by
  by_cases h1 : x < y
  · have E : Hid (cmpI x y = -1) := by show _ = _; simp [cmpI, h1]
    go_enter Try.func48, Try.ntmps48
    go_wp2_with (go_at_call 67; refine (isNaN_calls _ _).mono ?_; rintro e w' ⟨rfl, rfl⟩)
    go_ret
    rw [E.out]
    exact ⟨rfl, rfl⟩
  by_cases h2 : y < x
  · have E : Hid (cmpI x y = 1) := by show _ = _; simp [cmpI, h1, h2]
    go_enter Try.func48, Try.ntmps48
    go_wp2_with (go_at_call 67; refine (isNaN_calls _ _).mono ?_; rintro e w' ⟨rfl, rfl⟩)
    go_ret
    rw [E.out]
    exact ⟨rfl, rfl⟩
  · have E : Hid (cmpI x y = 0) := by show _ = _; simp [cmpI, h1, h2]
    go_enter Try.func48, Try.ntmps48
    go_wp2_with (go_at_call 67; refine (isNaN_calls _ _).mono ?_; rintro e w' ⟨rfl, rfl⟩)
    go_ret
    rw [E.out]
    exact ⟨rfl, rfl⟩
theorem Scan1_calls (w : World) (x y : Rw) : Calls Try.prog 47 #[.agg (encR x).toArray, .agg (encR y).toArray] w fun e w' => e = .returned (.int .i64 (cmpI x.1 y.1)) ∧ Gr w w' := by
  obtain ⟨xk, xt⟩ := x
  obtain ⟨yk, yt⟩ := y
  unfold encR
  go_enter Try.func47, Try.ntmps47
  go_wp2_with (go_at_call 48; refine (Compare_calls _ _ _).mono ?_; rintro e w' ⟨rfl, rfl⟩)
  go_ret
  exact ⟨rfl, (Gr.alloc _ _).trans (Gr.alloc _ _)⟩

set_option maxHeartbeats 1600000 in
theorem swapR_calls (w0 w : World) (g c N a b n : Nat) (cv : Value) (P X M Y Q : List Rw) (h : SWR w0 g c N (P ++ X ++ M ++ Y ++ Q) w) (hN : N ≤ 1000000000)
    (ha : a = P.length) (hX : X.length = n) (hY : Y.length = n) (hb : b = P.length + n + M.length) :
    Calls Try.prog 92 #[.slice (some ⟨g, 0, none⟩) N c, .int .i64 a, .int .i64 b, .int .i64 n, cv] w fun e w' => e = .returned (.tuple #[]) ∧ SWR w0 g c N (P ++ Y ++ M ++ X ++ Q) w' := by
  have hlen := h.len
  simp only [List.length_append] at hlen
  have H0 := Lib.hid h
  have HA := Lib.hid ha
  have HX := Lib.hid hX
  have HY := Lib.hid hY
  have HB := Lib.hid hb
  have hln : a + n ≤ N := by omega
  have hbn : b + n ≤ N := by omega
  clear h ha hX hY hb hlen
  go_enter Try.func92, Try.ntmps92
  go_wp2
  go_loopw [10] (fun i W => ∃ k : Nat, k ≤ n ∧ i = .int .i64 k ∧ Hid (SWR w0 g c N (P ++ (Y.take k ++ X.drop k) ++ M ++ (X.take k ++ Y.drop k) ++ Q) W)) (fun i _ => n - (RowKit.intOf i).toNat)
  case atStart => exact ⟨0, Nat.zero_le _, rfl, by show SWR _ _ _ _ _ _; simpa using H0.out⟩
  case round =>
    obtain ⟨k, hk, rfl, hS⟩ := hrel
    by_cases hlt : k < n
    · have hltz : (k : Int) < (n : Int) := by omega
      obtain ⟨x, X', hx⟩ : ∃ x X', X.drop k = x :: X' := by
        cases hd : X.drop k with
        | nil => have := congrArg List.length hd; simp at this; have := HX.out; omega
        | cons x X' => exact ⟨x, X', rfl⟩
      obtain ⟨y, Y', hy⟩ : ∃ y Y', Y.drop k = y :: Y' := by
        cases hd : Y.drop k with
        | nil => have := congrArg List.length hd; simp at this; have := HY.out; omega
        | cons x X' => exact ⟨x, X', rfl⟩
      have e1 : P ++ (Y.take k ++ X.drop k) ++ M ++ (X.take k ++ Y.drop k) ++ Q = (P ++ Y.take k) ++ x :: ((X' ++ M ++ X.take k) ++ y :: (Y' ++ Q)) := by rw [hx, hy]; simp
      have hS2 := hS.out
      rw [e1] at hS2
      have lA : a + k = (P ++ Y.take k).length := by rw [List.length_append, List.length_take, HY.out, HA.out]; omega
      have lX' : X'.length + 1 = n - k := by have := congrArg List.length hx; simp at this; have := HX.out; omega
      have lB : b + k = (P ++ Y.take k).length + 1 + (X' ++ M ++ X.take k).length := by
        rw [← lA]; simp only [List.length_append, List.length_take]; have := HX.out; have := HA.out; have := HB.out; omega
      have g1 := get_mid (B := (X' ++ M ++ X.take k) ++ y :: (Y' ++ Q)) (x := x) lA
      have g2 := get_mid2 (B := Y' ++ Q) (x := x) (y := y) lB
      obtain ⟨c0, c1⟩ := hS2.at g1
      obtain ⟨c2, c3⟩ := hS2.at g2
      have f0 := hS2.frozen ((a + k) * 2)
      have f1 := hS2.frozen ((a + k) * 2 + 1)
      have f2 := hS2.frozen ((b + k) * 2)
      have f3 := hS2.frozen ((b + k) * 2 + 1)
      have hsw := hS2.swap g1 g2
      rw [swp_mid lA lB, show (P ++ Y.take k) ++ y :: ((X' ++ M ++ X.take k) ++ x :: (Y' ++ Q)) = P ++ (Y.take (k + 1) ++ X.drop (k + 1)) ++ M ++ (X.take (k + 1) ++ Y.drop (k + 1)) ++ Q from by
        rw [(take_drop_cons hx).1, (take_drop_cons hx).2, (take_drop_cons hy).1, (take_drop_cons hy).2]; simp] at hsw
      have HSW := Lib.hid hsw
      clear hsw
      clear g1 g2 hS2 hS e1 hx hy lA lB
      have n1 : ¬ a = b := by have := HA.out; have := HB.out; omega
      have n2 : ¬ b = a := fun e => n1 e.symm
      have z1 : (0 : Int) ≤ (a : Int) + k := by omega
      have z2 : (0 : Int) ≤ (b : Int) + k := by omega
      have z3 : (a : Int) + k < (N : Int) := by omega
      have z4 : (b : Int) + k < (N : Int) := by omega
      have q1 : IntKind.i64.wrap ((a : Int) + k) = (a : Int) + k := by rw [IntKind.wrap_i64]; omega
      have q2 : IntKind.i64.wrap ((b : Int) + k) = (b : Int) + k := by rw [IntKind.wrap_i64]; omega
      have q3 : ((a : Int) + k).toNat = a + k := by omega
      have q4 : ((b : Int) + k).toNat = b + k := by omega
      go_wp2_with fail
      go_region
      go_wp2
      go_roundw
      case rel => exact ⟨k + 1, by omega, by go_num, HSW.out⟩
      case measure => simp [RowKit.intOf]; omega
    · have hltz : ¬ (k : Int) < (n : Int) := by omega
      have HS := Lib.hid hS.out
      have e : k = n := by omega
      have E := Lib.hid e
      clear e
      go_wp2
      go_end0
      refine ⟨rfl, ?_⟩
      have := HS.out
      have tx : X.take n = X := List.take_of_length_le (by rw [HX.out]; exact Nat.le_refl _)
      have ty : Y.take n = Y := List.take_of_length_le (by rw [HY.out]; exact Nat.le_refl _)
      have dx : X.drop n = [] := List.drop_eq_nil_of_le (by rw [HX.out]; exact Nat.le_refl _)
      have dy : Y.drop n = [] := List.drop_eq_nil_of_le (by rw [HY.out]; exact Nat.le_refl _)
      rw [E.out, tx, ty, dx, dy] at this
      simpa using this

theorem swapR_callsI (w0 w : World) (g c N : Nat) (ai bi ni : Int) (cv : Value) (P X M Y Q : List Rw) (h : SWR w0 g c N (P ++ X ++ M ++ Y ++ Q) w) (hN : N ≤ 1000000000)
    (ha : ai = P.length) (hX : (X.length : Int) = ni) (hY : Y.length = X.length) (hb : bi = P.length + X.length + M.length) :
    Calls Try.prog 92 #[.slice (some ⟨g, 0, none⟩) N c, .int .i64 ai, .int .i64 bi, .int .i64 ni, cv] w fun e w' => e = .returned (.tuple #[]) ∧ SWR w0 g c N (P ++ Y ++ M ++ X ++ Q) w' := by
  subst ha; subst hX
  obtain rfl : bi = ((P.length + X.length + M.length : Nat) : Int) := by omega
  exact swapR_calls w0 w g c N _ _ _ cv P X M Y Q h hN rfl rfl hY rfl

/-- How far a rotation has come. -/
def RotI (w0 : World) (g c N m : Nat) (F : List Rw) (i j : Nat) (W : World) : Prop :=
  ∃ P X Y Q : List Rw, X.length = i ∧ Y.length = j ∧ P.length + i = m ∧ SWR w0 g c N (P ++ X ++ Y ++ Q) W ∧ P ++ Y ++ X ++ Q = F
set_option maxHeartbeats 1600000 in
theorem rotR_calls (w0 w : World) (g c N : Nat) (a m b : Nat) (cv : Value) (P L R Q : List Rw) (h : SWR w0 g c N (P ++ L ++ R ++ Q) w) (hN : N ≤ 1000000000)
    (ha : a = P.length) (hL : 0 < L.length) (hR : 0 < R.length) (hm : m = P.length + L.length) (hb : b = P.length + L.length + R.length) :
    Calls Try.prog 86 #[.slice (some ⟨g, 0, none⟩) N c, .int .i64 a, .int .i64 m, .int .i64 b, cv] w fun e w' => e = .returned (.tuple #[]) ∧ SWR w0 g c N (P ++ R ++ L ++ Q) w' := by
  have hlen := h.len
  simp only [List.length_append] at hlen
  obtain ⟨nl, hnl⟩ : ∃ nl, nl = L.length := ⟨_, rfl⟩
  obtain ⟨nr, hnr⟩ : ∃ nr, nr = R.length := ⟨_, rfl⟩
  have H0 : Hid (RotI w0 g c N m (P ++ R ++ L ++ Q) nl nr w) := ⟨P, L, R, Q, hnl.symm, hnr.symm, by omega, h, rfl⟩
  have s1 : IntKind.i64.wrap ((m : Int) - a) = (nl : Int) := by rw [IntKind.wrap_i64]; omega
  have s2 : IntKind.i64.wrap ((b : Int) - m) = (nr : Int) := by rw [IntKind.wrap_i64]; omega
  have s1' : ((m : Int) - a) = (nl : Int) := by omega
  have s2' : ((b : Int) - m) = (nr : Int) := by omega
  have hmN : m ≤ N := by omega
  have hmn : nl ≤ m := by omega
  have hmr : m + nr ≤ N := by omega
  have hl : 0 < nl := by omega
  have hr : 0 < nr := by omega
  have HF := Lib.hid (And.intro hnl hnr)
  clear h ha hL hR hm hb hlen hnl hnr
  go_enter Try.func86, Try.ntmps86
  go_wp2
  clear s1 s2 s1' s2'
  go_loopw [10, 11] (fun vi vj W => ∃ i j : Nat, vi = .int .i64 i ∧ vj = .int .i64 j ∧ 0 < i ∧ 0 < j ∧ i ≤ m ∧ m + j ≤ N ∧ Hid (RotI w0 g c N m (P ++ R ++ L ++ Q) i j W)) (fun vi vj _ => (RowKit.intOf vi).toNat + (RowKit.intOf vj).toNat)
  case atStart => exact ⟨nl, nr, rfl, rfl, hl, hr, hmn, hmr, H0⟩
  case round =>
    obtain ⟨i, j, rfl, rfl, hi, hj, him, hjm, hI⟩ := hrel
    rcases Nat.lt_trichotomy i j with hc | hc | hc
    · have t1 : ((i : Int) != (j : Int)) = true := by simp; omega
      have t2 : ¬ (j : Int) < (i : Int) := by omega
      obtain ⟨P', X, Y, Q', hX, hY, hP, hS, hF⟩ := hI.out
      have eY : Y = Y.take (j - i) ++ Y.drop (j - i) := (List.take_append_drop _ _).symm
      have lY1 : (Y.take (j - i)).length = j - i := by rw [List.length_take]; omega
      have lY2 : (Y.drop (j - i)).length = i := by rw [List.length_drop]; omega
      generalize Y.take (j - i) = Y1 at eY lY1
      generalize Y.drop (j - i) = Y2 at eY lY2
      subst eY
      have hS' : SWR w0 g c N (P' ++ X ++ Y1 ++ Y2 ++ Q') wr := by simpa using hS
      have hcall : ∀ ai bi ni : Int, ai = m - i → bi = m + j - i → ni = i → Calls Try.prog 92 #[.slice (some ⟨g, 0, none⟩) N c, .int .i64 ai, .int .i64 bi, .int .i64 ni, cv] wr fun e w' => e = .returned (.tuple #[]) ∧ RotI w0 g c N m (P ++ R ++ L ++ Q) i (j - i) w' := by
        intro ai bi ni h1 h2 h3
        refine (swapR_callsI w0 wr g c N ai bi ni cv P' X Y1 Y2 Q' hS' hN (by omega) (by omega) (by omega) (by omega)).mono ?_
        rintro e w' ⟨he, hq⟩
        exact ⟨he, P', Y2, Y1, X ++ Q', lY2, lY1, hP, by simpa using hq, by rw [← hF]; simp⟩
      have HC := Lib.hid hcall
      have h5 : (0 : Int) ≤ (m : Int) - i := by omega
      clear hcall hS' hS hF hX hY hP hI lY1 lY2
      go_wp2_with (go_at_call 92; refine (HC.out _ _ _ (by omega) (by omega) (by omega)).mono ?_; rintro e w1 ⟨rfl, hr⟩)
      go_roundw
      case rel => exact ⟨i, j - i, rfl, by go_num, hi, by omega, him, by omega, hr⟩
      case measure => simp [RowKit.intOf]; omega
    · subst hc
      obtain ⟨P', X, Y, Q', hX, hY, hP, hS, hF⟩ := hI.out
      have hS' : SWR w0 g c N (P' ++ X ++ [] ++ Y ++ Q') wr := by simpa using hS
      have hcall : ∀ ai bi ni : Int, ai = m - i → bi = m → ni = i → Calls Try.prog 92 #[.slice (some ⟨g, 0, none⟩) N c, .int .i64 ai, .int .i64 bi, .int .i64 ni, cv] wr fun e w' => e = .returned (.tuple #[]) ∧ SWR w0 g c N (P ++ R ++ L ++ Q) w' := by
        intro ai bi ni h1 h2 h3
        refine (swapR_callsI w0 wr g c N ai bi ni cv P' X [] Y Q' hS' hN (by omega) (by omega) (by omega) (by simp; omega)).mono ?_
        rintro e w' ⟨he, hq⟩
        exact ⟨he, by rw [← hF]; simpa using hq⟩
      have HC := Lib.hid hcall
      clear hcall hS' hS hF hX hY hP hI
      go_wp2_with (go_at_call 92; refine (HC.out _ _ _ (by omega) (by omega) (by omega)).mono ?_; rintro e w1 ⟨rfl, hr⟩)
      go_end0
      exact ⟨rfl, hr⟩
    · have t1 : ((i : Int) != (j : Int)) = true := by simp; omega
      have t2 : (j : Int) < (i : Int) := by omega
      obtain ⟨P', X, Y, Q', hX, hY, hP, hS, hF⟩ := hI.out
      have eX : X = X.take j ++ X.drop j := (List.take_append_drop _ _).symm
      have lX1 : (X.take j).length = j := by rw [List.length_take]; omega
      have lX2 : (X.drop j).length = i - j := by rw [List.length_drop]; omega
      generalize X.take j = X1 at eX lX1
      generalize X.drop j = X2 at eX lX2
      subst eX
      have hS' : SWR w0 g c N (P' ++ X1 ++ X2 ++ Y ++ Q') wr := by simpa using hS
      have hcall : ∀ ai bi ni : Int, ai = m - i → bi = m → ni = j → Calls Try.prog 92 #[.slice (some ⟨g, 0, none⟩) N c, .int .i64 ai, .int .i64 bi, .int .i64 ni, cv] wr fun e w' => e = .returned (.tuple #[]) ∧ RotI w0 g c N m (P ++ R ++ L ++ Q) (i - j) j w' := by
        intro ai bi ni h1 h2 h3
        refine (swapR_callsI w0 wr g c N ai bi ni cv P' X1 X2 Y Q' hS' hN (by omega) (by omega) (by omega) (by omega)).mono ?_
        rintro e w' ⟨he, hq⟩
        exact ⟨he, P' ++ Y, X2, X1, Q', lX2, lX1, by simp; omega, by simpa using hq, by rw [← hF]; simp⟩
      have HC := Lib.hid hcall
      clear hcall hS' hS hF hX hY hP hI lX1 lX2
      go_wp2_with (go_at_call 92; refine (HC.out _ _ _ (by omega) (by omega) (by omega)).mono ?_; rintro e w1 ⟨rfl, hr⟩)
      go_roundw
      case rel => exact ⟨i - j, j, by go_num, rfl, by omega, hj, by omega, by omega, hr⟩
      case measure => simp [RowKit.intOf]; omega

/-- What is asked of a comparison of rows. -/
def CmpR (gf : Nat) : Prop := ∀ (W : World) (x y : Rw), Calls Try.prog gf #[.agg (encR x).toArray, .agg (encR y).toArray] W fun e w' => e = .returned (.int .i64 (cmpI x.1 y.1)) ∧ Gr W w'
theorem cmpI_lt {x y : Int} (h : x < y) : cmpI x y = -1 := by simp [cmpI, h]
theorem cmpI_ge {x y : Int} (h : ¬ x < y) : ¬ cmpI x y < 0 := by unfold cmpI; rw [if_neg h]; split <;> decide
section
variable (gf : Nat) (eg : ∀ args w, (callFunc gf args).run Try.prog w = .ok (.enter gf args) w) (hcmp : CmpR gf)
include eg hcmp
set_option maxHeartbeats 3200000 in
set_option maxRecDepth 100000 in
theorem insR_calls (w0 w : World) (g c N a b : Nat) (A S B : List Rw) (h : SWR w0 g c N (A ++ S ++ B) w) (hN : N ≤ 1000000000) (ha : a = A.length) (hb : b = A.length + S.length) :
    Calls Try.prog 72 #[.slice (some ⟨g, 0, none⟩) N c, .int .i64 a, .int .i64 b, .func (.func gf) #[] #[]] w fun e w' => e = .returned (.tuple #[]) ∧ SWR w0 g c N (A ++ sortS kyR S ++ B) w' := by
  have mixed : Try.prog.follows .mixedOrders = true := by kernel_rfl
  have hlen := h.len
  simp only [List.length_append] at hlen
  have hbN : b ≤ N := by omega
  have hab : a ≤ b := by omega
  have HC := Lib.hid hcmp
  have HA := Lib.hid ha
  have HB : Hid (b = a + S.length) := by show _ = _; omega
  have H0 : Hid (SWR w0 g c N (A ++ sortS kyR (S.take 1) ++ S.drop 1 ++ B) w) := by
    show SWR _ _ _ _ _ _
    rw [sortS_of_srt (srt_short (by rw [List.length_take]; omega)), List.append_assoc A, List.take_append_drop]
    exact h
  clear h ha hb hlen hcmp
  go_enter Try.func72, Try.ntmps72
  go_wp2
  go_loopw [8] (fun vi W => ∃ i : Nat, vi = .int .i64 i ∧ a < i ∧ i ≤ b + 1 ∧ Hid (∃ k, i = a + k ∧ SWR w0 g c N (A ++ sortS kyR (S.take k) ++ S.drop k ++ B) W)) (fun vi _ => b + 1 - (RowKit.intOf vi).toNat)
  case atStart => exact ⟨a + 1, by go_num, by omega, by omega, 1, rfl, H0.out⟩
  case round =>
    obtain ⟨i, rfl, hk1, hkb, hS⟩ := hrel
    by_cases hlt : i < b
    · have hltz : (i : Int) < (b : Int) := by omega
      obtain ⟨k, hik, hS⟩ := hS.out
      obtain ⟨x, T, hx⟩ : ∃ x T, S.drop k = x :: T := by
        cases hd : S.drop k with
        | nil => have := congrArg List.length hd; simp at this; have := HB.out; omega
        | cons x T => exact ⟨x, T, rfl⟩
      have hkS : k ≤ S.length := by have := HB.out; omega
      have HI0 : Hid (∃ q l, i = a + q ∧ InnI A (T ++ B) S kyR x k q l ∧ SWR w0 g c N l wr) := ⟨k, _, hik, InnI.start hx hkS B, hS⟩
      have OUT : Hid (∀ W q l, InnI A (T ++ B) S kyR x k q l → SWR w0 g c N l W → (q = 0 ∨ ∃ y, (∃ P', (∃ P Q : List Rw, l = A ++ P ++ [x] ++ Q ++ (T ++ B) ∧ P.length = q ∧ P = P' ++ [y])) ∧ kyR y ≤ kyR x) →
          ∃ k', i + 1 = a + k' ∧ SWR w0 g c N (A ++ sortS kyR (S.take k') ++ S.drop k' ++ B) W) := by
        intro W q l h1 h2 h3
        have e := h1.stop ⟨T, hx⟩ h3
        refine ⟨k + 1, by omega, ?_⟩
        rw [(take_drop_cons hx).2, List.append_assoc _ T B, ← e]
        exact h2
      obtain ⟨wo, rfl⟩ : ∃ wo : World, wo = wr := ⟨_, rfl⟩
      clear hS hx hik
      go_wp2
      go_loopw [9] (fun vj W => ∃ j : Nat, vj = .int .i64 j ∧ a ≤ j ∧ j ≤ i ∧ Hid (∃ q l, j = a + q ∧ InnI A (T ++ B) S kyR x k q l ∧ SWR w0 g c N l W)) (fun vj _ => (RowKit.intOf vj).toNat)
      case atStart => exact ⟨i, rfl, by omega, Nat.le_refl _, HI0⟩
      case round =>
        obtain ⟨j, rfl, haj, hji, hI⟩ := hrel
        by_cases hja : a < j
        · obtain ⟨q, l, hjq, ⟨P, Q, rfl, hPQ, hPl, hQ⟩, hS⟩ := hI.out
          obtain ⟨jp, rfl⟩ : ∃ jp, j = jp + 1 := ⟨j - 1, by omega⟩
          obtain ⟨P', y, rfl⟩ : ∃ P' y, P = P' ++ [y] := by
            rcases List.eq_nil_or_concat P with rfl | ⟨P', y, h⟩
            · simp at hPl; omega
            · exact ⟨P', y, by rw [h, List.concat_eq_append]⟩
          have hP' : P'.length + 1 = q := by simpa using hPl
          have el : A ++ (P' ++ [y]) ++ [x] ++ Q ++ (T ++ B) = (A ++ P') ++ y :: x :: (Q ++ (T ++ B)) := by simp
          have lj : jp = (A ++ P').length := by rw [List.length_append]; have := HA.out; omega
          have g1 : (A ++ (P' ++ [y]) ++ [x] ++ Q ++ (T ++ B))[jp]? = some y := by rw [el]; exact get_mid lj
          have g2 : (A ++ (P' ++ [y]) ++ [x] ++ Q ++ (T ++ B))[jp + 1]? = some x := by rw [el]; exact get_mid2 (M := []) (by rw [← lj]; rfl)
          have hswp : swp (A ++ (P' ++ [y]) ++ [x] ++ Q ++ (T ++ B)) (jp + 1) jp = A ++ P' ++ [x] ++ (y :: Q) ++ (T ++ B) := by
            rw [swp_comm _ (by omega), el, lj, swp_next]; simp
          have k0 := fun n os => ((hS.gr (Gr.grow wr n os)).at g1).1
          have k1 := fun n os => ((hS.gr (Gr.grow wr n os)).at g1).2
          have k2 := fun n os => ((hS.gr (Gr.grow wr n os)).at g2).1
          have k3 := fun n os => ((hS.gr (Gr.grow wr n os)).at g2).2
          have hjaz : (a : Int) < (jp : Int) + 1 := by omega
          have hwp : IntKind.i64.wrap (jp : Int) = (jp : Int) := by rw [IntKind.wrap_i64]; omega
          have jz : (jp : Int) + 1 < (N : Int) := by omega
          have jz1 : (jp : Int) < (N : Int) := by omega
          have p0 : (0 : Int) ≤ (jp : Int) + 1 := by omega
          have e0 : ((jp : Int) + 1).toNat = jp + 1 := by omega
          by_cases hlv : x.1 < y.1
          · have hc : ∀ W, Calls Try.prog gf #[.agg (encR x).toArray, .agg (encR y).toArray] W fun e w' => e = .returned (.int .i64 (-1)) ∧ Gr W w' := by
              intro W; have := HC.out W x y; rw [cmpI_lt hlv] at this; exact this
            have HC2 := Lib.hid hc
            have NXT : Hid (∀ W, SWR w0 g c N (A ++ P' ++ [x] ++ (y :: Q) ++ (T ++ B)) W → ∃ q l, jp = a + q ∧ InnI A (T ++ B) S kyR x k q l ∧ SWR w0 g c N l W) := fun W h =>
              ⟨P'.length, _, by omega, ⟨P', y :: Q, rfl, by rw [← hPQ]; simp, rfl, fun z hz => by
                rcases List.mem_cons.1 hz with rfl | hz
                · exact hlv
                · exact hQ z hz⟩, h⟩
            have SW : Hid (∀ W, Gr wr W → SWR w0 g c N (A ++ (P' ++ [y]) ++ [x] ++ Q ++ (T ++ B)) W) := fun W hg => hS.gr hg
            have G12 := Lib.hid (And.intro g1 g2)
            have SWE := Lib.hid hswp
            clear hc hS hPQ hPl hQ hI hjq hP' el lj hswp g1 g2 hlv
            unfold encR at HC2
            go_wp2_with fail
            (refine wp_region_quiet_grown mixed (by kernel_rfl) ?_; (repeat (first | go_big_quiet_step (first | (go_at_fn gf; refine Calls.grown_of_gr (HC2.out _))) | quiet_step (first | (go_at_fn gf; refine Calls.grown_of_gr (HC2.out _))))); refine wpQuiet_nil ?_; intro _ hw'; obtain ⟨⟨nq, osq⟩, hw''⟩ := hw'; subst hw'')
            go_wp2_with fail
            generalize hW : Sort.grow (wr.drewN nq) osq = W2
            have hS2 := SW.out W2 (by subst hW; exact Gr.grow _ _ _)
            obtain ⟨g1, g2⟩ := G12.out
            obtain ⟨c0, c1⟩ := hS2.at g1
            obtain ⟨c2, c3⟩ := hS2.at g2
            have f0 := hS2.frozen (jp * 2)
            have f1 := hS2.frozen (jp * 2 + 1)
            have f2 := hS2.frozen ((jp + 1) * 2)
            have f3 := hS2.frozen ((jp + 1) * 2 + 1)
            have hsw := hS2.swap g2 g1
            rw [SWE.out] at hsw
            have HSW := Lib.hid hsw
            clear hS2 g1 g2 hsw hW k0 k1 k2 k3
            go_region
            go_wp2
            go_roundw
            case rel => exact ⟨jp, by go_num, by omega, by omega, NXT.out _ HSW.out⟩
            case measure => simp [RowKit.intOf]
          · have hge : ¬ cmpI x.1 y.1 < 0 := cmpI_ge hlv
            have hc := fun W => HC.out W x y
            generalize cmpI x.1 y.1 = rr at hge hc
            have HC2 := Lib.hid hc
            have NXT : Hid (∀ W, Gr wr W → ∃ k', i + 1 = a + k' ∧ SWR w0 g c N (A ++ sortS kyR (S.take k') ++ S.drop k' ++ B) W) := fun W hg =>
              OUT.out W q _ ⟨P' ++ [y], Q, rfl, hPQ, hPl, hQ⟩ (hS.gr hg) (Or.inr ⟨y, ⟨P', _, _, rfl, hPl, rfl⟩, by show y.1 ≤ x.1; omega⟩)
            clear hc hS hPQ hPl hQ hI hjq hP' el lj hswp g1 g2 hlv
            unfold encR at HC2
            go_wp2_with fail
            (refine wp_region_quiet_grown mixed (by kernel_rfl) ?_; (repeat (first | go_big_quiet_step (first | (go_at_fn gf; refine Calls.grown_of_gr (HC2.out _))) | quiet_step (first | (go_at_fn gf; refine Calls.grown_of_gr (HC2.out _))))); refine wpQuiet_nil ?_; intro _ hw'; obtain ⟨⟨nq, osq⟩, hw''⟩ := hw'; subst hw'')
            go_wp2
            go_roundw
            case rel => exact ⟨i + 1, by go_num, by omega, by omega, NXT.out _ (Gr.grow _ _ _)⟩
            case measure => simp [RowKit.intOf]; omega
        · have hjaz : decide ((j : Int) > (a : Int)) = false := decide_eq_false (by omega)
          have hjaz' : ¬ (a : Int) < (j : Int) := by omega
          have NXT : Hid (∀ W, Gr wr W → ∃ k', i + 1 = a + k' ∧ SWR w0 g c N (A ++ sortS kyR (S.take k') ++ S.drop k' ++ B) W) := fun W hg => by
            obtain ⟨q, l, hjq, hI2, hS⟩ := hI.out
            exact OUT.out W q _ hI2 (hS.gr hg) (Or.inl (by omega))
          clear hI
          go_wp2_with fail
          (refine wp_region_quiet_grown mixed (by kernel_rfl) ?_; (repeat (first | go_big_quiet_step (fail) | quiet_step (fail))); refine wpQuiet_nil ?_; intro _ hw'; obtain ⟨⟨nq, osq⟩, hw''⟩ := hw'; subst hw'')
          go_wp2
          go_roundw
          case rel => exact ⟨i + 1, by go_num, by omega, by omega, NXT.out _ (Gr.grow _ _ _)⟩
          case measure => simp [RowKit.intOf]; omega
    · have hltz : ¬ (i : Int) < (b : Int) := by omega
      have FIN : Hid (SWR w0 g c N (A ++ sortS kyR S ++ B) wr) := by
        show SWR _ _ _ _ _ _
        obtain ⟨k, hik, hS2⟩ := hS.out
        have hk : S.length ≤ k := by have := HB.out; omega
        rw [List.take_of_length_le hk, List.drop_eq_nil_of_le hk] at hS2
        simpa using hS2
      clear hS
      go_wp2
      go_end0
      exact ⟨rfl, by have := FIN.out; simpa using this⟩
end
end Go.Proofs.Ytannjecmfbhkeaa
