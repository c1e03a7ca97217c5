/- Loops of package slices that only read: Index, Contains over numbers; IndexFunc, ContainsFunc over versions. -/
import Derived.Test.YtannjecmfbhkeaaBase
import Derived.Test.YtannjecmfbhkeaaChecked
namespace Go.Proofs.Ytannjecmfbhkeaa
open Go Go.RowKit Go.Lib

abbrev I64Row (w : World) (a : Option Addr) (c : Nat) (xs : List Int) : Prop := w.ownsRow 0 2 1 (.slice a xs.length c) xs.length (xs.map (Value.int .i64))
theorem I64Row.cell {w : World} {a : Option Addr} {c : Nat} {xs : List Int} (h : I64Row w a c xs) {k : Nat} (hk : k < xs.length) : ∃ g, a = some ⟨g, 0, none⟩ ∧ ∀ j (hj : j < xs.length), w.cell? ⟨g, j, none⟩ = some (.int .i64 xs[j]) := by
  rcases h.2 with ⟨_, h0⟩ | ⟨g, cap, cur, hv, _⟩
  · omega
  · simp only [Value.slice.injEq] at hv
    refine ⟨g, hv.1, fun j hj => ?_⟩
    have := h.cells (g := g) (by rw [hv.1]; rfl) j (.int .i64 xs[j]) (by simp [hj])
    rw [show (⟨g, 0, none⟩ : Addr).add j = ⟨g, j, none⟩ from by unfold Addr.add; split <;> simp_all] at this
    exact this
set_option maxHeartbeats 800000 in
theorem Index_calls (w : World) (a : Option Addr) (c : Nat) (xs : List Int) (x : Int) (h : I64Row w a c xs) (hl : xs.length ≤ 140737488355328) :
    Calls Try.prog 74 #[.slice a xs.length c, .int .i64 x] w fun e w' => e = .returned (.int .i64 (idxI (fun y => decide (y = x)) xs)) ∧ w = w' := by
  have H := Lib.hid h
  clear h
  go_enter Try.func74, Try.ntmps74
  go_wp2
  go_loop [5, 8] (fun _ i => ∃ k : Nat, k ≤ xs.length ∧ i = .int .i64 k ∧ Hid (∀ (j : Nat) (y : Int), j < k → xs[j]? = some y → y ≠ x)) (fun _ i => xs.length - (RowKit.intOf i).toNat)
  case atStart => exact ⟨0, Nat.zero_le _, rfl, fun j y hj => absurd hj (Nat.not_lt_zero _)⟩
  case round =>
    obtain ⟨k, hk, rfl, hP⟩ := hrel
    by_cases hlt : k < xs.length
    · obtain ⟨g, rfl, hcell⟩ := H.out.cell hlt
      have hc := hcell k hlt
      clear hcell
      obtain ⟨y, hy⟩ : ∃ y, xs[k] = y := ⟨_, rfl⟩
      rw [hy] at hc
      have HY : Hid (xs[k]? = some y) := by show _ = _; rw [List.getElem?_eq_getElem hlt, hy]
      clear hy
      have hlti : (k : Int) < (xs.length : Int) := by omega
      by_cases e : x = y
      · subst e
        have e2 := Lib.hid (idxI_hit (p := fun z => decide (z = x)) HY.out (by simp) (fun j z hj hz => by simpa using hP.out j z hj hz))
        go_wp2
        go_ret
        exact ⟨by rw [e2.out]; rfl, rfl⟩
      · have e' : (x == y) = false := by simpa using e
        have e'' : (y == x) = false := by simpa using fun h => e h.symm
        go_wp2
        go_round
        case rel => exact ⟨k + 1, by omega, by go_num, fun j z hj hz => by
          by_cases h2 : j = k
          · subst h2
            have := HY.out.symm.trans hz
            simp only [Option.some.injEq] at this
            subst this
            exact fun h => e h.symm
          · exact hP.out j z (by omega) hz⟩
        case measure => simp [RowKit.intOf]; omega
    · have hlti : ¬ (k : Int) < (xs.length : Int) := by omega
      have e2 := Lib.hid (idxI_miss (p := fun z => decide (z = x)) (l := xs) (fun z hz => by
        obtain ⟨j, hj, hz⟩ := List.getElem_of_mem hz
        simpa using hP.out j z (by omega) (by rw [List.getElem?_eq_getElem hj, hz])))
      go_wp2
      go_ret
      exact ⟨by rw [e2.out]; rfl, rfl⟩

set_option maxHeartbeats 800000 in
theorem Contains_calls (w : World) (a : Option Addr) (c : Nat) (xs : List Int) (x : Int) (h : I64Row w a c xs) (hl : xs.length ≤ 140737488355328) :
    Calls Try.prog 68 #[.slice a xs.length c, .int .i64 x] w fun e w' => e = .returned (.bool (decide (x ∈ xs))) ∧ w = w' := by
  have hc := Index_calls w a c xs x h hl
  have E : Hid (decide (0 ≤ idxI (fun y => decide (y = x)) xs) = decide (x ∈ xs)) := by
    show _ = _
    rw [idxI_nonneg, Bool.eq_iff_iff, List.any_eq_true]
    simp
  clear h
  go_enter Try.func68, Try.ntmps68
  go_wp2_with (go_at_call 74; refine hc.mono ?_; rintro e w' ⟨rfl, rfl⟩)
  go_ret
  rw [← E.out]
  exact ⟨rfl, rfl⟩

/-- A row of versions. -/
abbrev VerRow (w : World) (a : Option Addr) (c : Nat) (vs : List Vr) : Prop := w.ownsRow 0 90 4 (.slice a vs.length c) vs.length (vs.flatMap encV)
theorem VerRow.gr {w w' : World} {a : Option Addr} {c : Nat} {vs : List Vr} (h : VerRow w a c vs) (hg : Gr w w') : VerRow w' a c vs :=
  ownsRow_heap h (fun b hb => hg.heap (h.lt b hb).2)
theorem VerRow.cell {w : World} {a : Option Addr} {c : Nat} {vs : List Vr} (h : VerRow w a c vs) {k : Nat} (hk : k < vs.length) :
    ∃ g, a = some ⟨g, 0, none⟩ ∧ w.cell? ⟨g, k * 4, none⟩ = some (.int .i64 vs[k].key) ∧ w.cell? ⟨g, k * 4 + 1, none⟩ = some (.string vs[k].text) ∧ w.cell? ⟨g, k * 4 + 2, none⟩ = some (.int .i64 vs[k].born) ∧ w.cell? ⟨g, k * 4 + 3, none⟩ = some (.int .i64 vs[k].died) := by
  rcases h.2 with ⟨_, h0⟩ | ⟨g, cap, cur, hv, _⟩
  · omega
  · simp only [Value.slice.injEq] at hv
    have key : ∀ i v, (encV vs[k])[i]? = some v → w.cell? ⟨g, k * 4 + i, none⟩ = some v := fun i v hv2 => by
      have := h.cells (g := g) (by rw [hv.1]; rfl) (k * 4 + i) v (flat_get (enc := encV) (k := 4) (fun _ => rfl) (List.getElem?_eq_getElem hk) hv2)
      rw [show (⟨g, 0, none⟩ : Addr).add (k * 4 + i) = ⟨g, k * 4 + i, none⟩ from by unfold Addr.add; split <;> simp_all] at this
      exact this
    exact ⟨g, hv.1, key 0 _ rfl, key 1 _ rfl, key 2 _ rfl, key 3 _ rfl⟩
theorem VerRow.at {w : World} {a : Option Addr} {c : Nat} {vs : List Vr} (h : VerRow w a c vs) {k : Nat} {x : Vr} (hx : vs[k]? = some x) :
    ∃ g, a = some ⟨g, 0, none⟩ ∧ w.cell? ⟨g, k * 4, none⟩ = some (.int .i64 x.key) ∧ w.cell? ⟨g, k * 4 + 1, none⟩ = some (.string x.text) ∧ w.cell? ⟨g, k * 4 + 2, none⟩ = some (.int .i64 x.born) ∧ w.cell? ⟨g, k * 4 + 3, none⟩ = some (.int .i64 x.died) := by
  obtain ⟨hk, rfl⟩ := List.getElem?_eq_some_iff.1 hx
  exact h.cell hk
/-- What is asked of a predicate on versions: it reads, and may lay blocks. -/
def PredV (w : World) (g : Nat) (lb : Array Value) (vs : List Vr) (p : Vr → Bool) : Prop :=
  ∀ (W : World) (x : Vr), Gr w W → x ∈ vs → Calls Try.prog g (#[.agg (encV x).toArray] ++ lb) W fun e w' => e = .returned (.bool (p x)) ∧ Gr W w'
set_option maxHeartbeats 1600000 in
theorem IndexV_calls (w : World) (a : Option Addr) (c : Nat) (vs : List Vr) (p : Vr → Bool) (g : Nat) (lb : Array Value) (eg : ∀ args w, (callFunc g args).run Try.prog w = .ok (.enter g args) w)
    (h : VerRow w a c vs) (hl : vs.length ≤ 140737488355328) (hp : PredV w g lb vs p) :
    Calls Try.prog 53 #[.slice a vs.length c, .func (.func g) #[] lb] w fun e w' => e = .returned (.int .i64 (idxI p vs)) ∧ Gr w w' := by
  have H := Lib.hid h
  have HP := Lib.hid hp
  clear h hp
  go_enter Try.func53, Try.ntmps53
  go_wp2
  go_loopw [5, 8] (fun _ i W => ∃ k : Nat, k ≤ vs.length ∧ i = .int .i64 k ∧ Hid (Gr w W) ∧ Hid (∀ (j : Nat) (y : Vr), j < k → vs[j]? = some y → p y = false)) (fun _ i _ => vs.length - (RowKit.intOf i).toNat)
  case atStart => exact ⟨0, Nat.zero_le _, rfl, Gr.refl w, fun j y hj => absurd hj (Nat.not_lt_zero _)⟩
  case round =>
    obtain ⟨k, hk, rfl, hG, hN⟩ := hrel
    by_cases hlt : k < vs.length
    · obtain ⟨b, rfl, d0, d1, d2, d3⟩ := (H.out.gr hG.out).cell hlt
      have hlti : (k : Int) < (vs.length : Int) := by omega
      have hcall := HP.out wr vs[k] hG.out (List.getElem_mem hlt)
      unfold encV at hcall
      obtain ⟨y, hy⟩ : ∃ y, vs[k] = y := ⟨_, rfl⟩
      rw [hy] at d0 d1 d2 d3 hcall
      have HY : Hid (vs[k]? = some y) := by show _ = _; rw [List.getElem?_eq_getElem hlt, hy]
      clear hy
      cases e : p y with
      | true =>
        rw [e] at hcall
        have e2 := Lib.hid (idxI_hit (p := p) HY.out e (fun j z hj hz => hN.out j z hj hz))
        clear e
        go_wp2_with (go_at_fn g; refine hcall.mono ?_; rintro e w' ⟨rfl, hg⟩)
        go_ret
        exact ⟨by rw [e2.out]; rfl, hG.out.trans hg⟩
      | false =>
        rw [e] at hcall
        have e2 := Lib.hid e
        clear e
        go_wp2_with (go_at_fn g; refine hcall.mono ?_; rintro e w' ⟨rfl, hg⟩)
        go_roundw
        case rel => exact ⟨k + 1, by omega, by go_num, hG.out.trans hg, fun j z hj hz => by
          by_cases h2 : j = k
          · subst h2
            have := HY.out.symm.trans hz
            simp only [Option.some.injEq] at this
            subst this
            exact e2.out
          · exact hN.out j z (by omega) hz⟩
        case measure => simp [RowKit.intOf]; omega
    · have hlti : ¬ (k : Int) < (vs.length : Int) := by omega
      have e2 := Lib.hid (idxI_miss (p := p) (l := vs) (fun z hz => by
        obtain ⟨j, hj, hz⟩ := List.getElem_of_mem hz
        exact hN.out j z (by omega) (by rw [List.getElem?_eq_getElem hj, hz])))
      go_wp2
      go_ret
      exact ⟨by rw [e2.out]; rfl, hG.out⟩
theorem ContainsV_calls (w : World) (a : Option Addr) (c : Nat) (vs : List Vr) (p : Vr → Bool) (g : Nat) (lb : Array Value) (eg : ∀ args w, (callFunc g args).run Try.prog w = .ok (.enter g args) w)
    (h : VerRow w a c vs) (hl : vs.length ≤ 140737488355328) (hp : PredV w g lb vs p) :
    Calls Try.prog 39 #[.slice a vs.length c, .func (.func g) #[] lb] w fun e w' => e = .returned (.bool (vs.any p)) ∧ Gr w w' := by
  have hc := IndexV_calls w a c vs p g lb eg h hl hp
  have E := Lib.hid (idxI_nonneg p vs)
  clear h hp
  go_enter Try.func39, Try.ntmps39
  go_wp2_with (go_at_call 53; refine hc.mono ?_; rintro e w' ⟨rfl, hg⟩)
  go_ret
  rw [← E.out]
  exact ⟨rfl, hg⟩
end Go.Proofs.Ytannjecmfbhkeaa
