/- What law 7's small tells: that lists of acts are short. -/
import Derived.Test.YtannjecmfbhkeaaActs
namespace Go.Proofs.Ytannjecmfbhkeaa
open Go Go.RowKit Go.Lib Go.Maps
theorem ActIn.at {w : World} {a : Option Addr} {n : Nat} (h : ActIn w a n) {k : Nat} (hk : k < n) : ∃ x, a = some x ∧ ActAt w x k := by
  rcases h.2 with h0 | ⟨x, rfl, h1⟩
  · omega
  · exact ⟨x, rfl, h1 k hk⟩
theorem ActAt.bel {w w' : World} {x : Addr} {i : Nat} (h : ActAt w x i) (b : Below w.heap.size w w') : ActAt w' x i := by
  obtain ⟨d, q, k, s, h0, h1, h2, h3, r⟩ := h
  exact ⟨d, q, k, s, by rw [b.cell (World.block_lt_of_cell? _ _ h0)]; exact h0, by rw [b.cell (World.block_lt_of_cell? _ _ h1)]; exact h1, by rw [b.cell (World.block_lt_of_cell? _ _ h2)]; exact h2, by rw [b.cell (World.block_lt_of_cell? _ _ h3)]; exact h3, r⟩
theorem ActIn.bel {w w' : World} {a : Option Addr} {n : Nat} (h : ActIn w a n) (b : Below w.heap.size w w') : ActIn w' a n :=
  ⟨h.1, by
    rcases h.2 with h0 | ⟨x, rfl, h1⟩
    · exact Or.inl h0
    · exact Or.inr ⟨x, rfl, fun i hi => (h1 i hi).bel b⟩⟩
def SmallP (n : Nat) (w : World) (e : Ending) (w' : World) : Prop := ∃ b : Bool, e = .returned (.bool b) ∧ (b = true → n ≤ 80) ∧ w = w'
set_option maxHeartbeats 1600000 in
theorem small7_calls (w : World) (a : Option Addr) (n cap : Nat) (h : ActIn w a n) : Calls Try.prog 21 #[.slice a n cap] w fun e w' => SmallP n w e w' := by
  have hm := h.1
  unfold maxLen at hm
  have H := Lib.hid h
  clear h
  go_enter Try.func21, Try.ntmps21
  go_wp2
  go_loop [3] (fun vi => ∃ k : Nat, vi = .int .i64 k ∧ k ≤ n) (fun vi => n - (RowKit.intOf vi).toNat)
  case atStart => exact ⟨0, rfl, Nat.zero_le _⟩
  case round =>
    obtain ⟨k, rfl, hk⟩ := hrel
    by_cases hlt : k < n
    · have hltz : (k : Int) < (n : Int) := by omega
      obtain ⟨x, rfl, d, q, kk, s, _, _, _, h3, _, _, _, hs⟩ := H.out.at hlt
      unfold maxLen at hs
      by_cases h20 : 20 < s.size
      · have h20z : (20 : Int) < (s.size : Int) := by omega
        go_wp2
        go_ret
        exact ⟨false, rfl, (fun h => by cases h), rfl⟩
      · have h20z : (s.size : Int) ≤ 20 := by omega
        go_wp2
        go_round
        case rel => exact ⟨k + 1, by go_num, by omega⟩
        case measure => simp [RowKit.intOf]; omega
    · have hltz : ¬ (k : Int) < (n : Int) := by omega
      by_cases h80 : n ≤ 80
      · have h80z : (n : Int) ≤ 80 := by omega
        go_wp2
        go_ret
        exact ⟨_, rfl, fun _ => h80, rfl⟩
      · have h80z : decide ((n : Int) ≤ 80) = false := decide_eq_false (by omega)
        go_wp2
        go_ret
        exact ⟨_, rfl, fun h => (by simp at h), rfl⟩
end Go.Proofs.Ytannjecmfbhkeaa
