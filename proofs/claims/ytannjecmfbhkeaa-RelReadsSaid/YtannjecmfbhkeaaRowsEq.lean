/- Lists of rows are compared: the same rows are the same. -/
import Derived.Test.YtannjecmfbhkeaaClash
namespace Go.Proofs.Ytannjecmfbhkeaa
open Go Go.RowKit Go.Lib Go.Maps
theorem RowRow.gr {w w' : World} {a : Option Addr} {c : Nat} {l : List Rw} (h : RowRow w a c l) (g : Gr w w') : RowRow w' a c l :=
  ownsRow_heap h (fun b hb => g.heap (h.lt b hb).2)
set_option maxHeartbeats 3200000 in
theorem r7Rows_same (w : World) (a b : Option Addr) (c d : Nat) (l : List Rw) (hlim : l.length ≤ 100000000) (h1 : RowRow w a c l) (h2 : RowRow w b d l) :
    Calls Try.prog 34 #[.slice a l.length c, .slice b l.length d] w fun e w' => e = .returned (.bool true) ∧ Gr w w' := by
  have H1 := Lib.hid h1
  have H2 := Lib.hid h2
  have mixed : Try.prog.follows .mixedOrders = true := by kernel_rfl
  clear h1 h2
  go_enter Try.func34, Try.ntmps34
  go_wp2
  go_loopw [5] (fun vi W => ∃ k : Nat, vi = .int .i64 k ∧ k ≤ l.length ∧ Hid (Gr w W)) (fun vi _ => l.length - (RowKit.intOf vi).toNat)
  case atStart => exact ⟨0, rfl, Nat.zero_le _, Gr.refl _⟩
  case round =>
    obtain ⟨k, rfl, hk, hI⟩ := hrel
    by_cases hlt : k < l.length
    · have hltz : (k : Int) < (l.length : Int) := by omega
      obtain ⟨r, hr⟩ : ∃ r, l[k]? = some r := ⟨_, List.getElem?_eq_getElem hlt⟩
      obtain ⟨g, rfl, _, _⟩ := RowRow.at (H1.out.gr hI.out) hr
      obtain ⟨g', rfl, _, _⟩ := RowRow.at (H2.out.gr hI.out) hr
      have k0 : ∀ n os, (Sort.grow (wr.drewN n) os).cell? ⟨g, k * 2, none⟩ = some (.int .i64 r.1) := fun n os => by
        obtain ⟨_, e, h, _⟩ := RowRow.at (H1.out.gr (hI.out.trans (Gr.grow wr n os))) hr; cases e; exact h
      have k1 : ∀ n os, (Sort.grow (wr.drewN n) os).cell? ⟨g, k * 2 + 1, none⟩ = some (.string r.2) := fun n os => by
        obtain ⟨_, e, _, h⟩ := RowRow.at (H1.out.gr (hI.out.trans (Gr.grow wr n os))) hr; cases e; exact h
      have k2 : ∀ n os, (Sort.grow (wr.drewN n) os).cell? ⟨g', k * 2, none⟩ = some (.int .i64 r.1) := fun n os => by
        obtain ⟨_, e, h, _⟩ := RowRow.at (H2.out.gr (hI.out.trans (Gr.grow wr n os))) hr; cases e; exact h
      have k3 : ∀ n os, (Sort.grow (wr.drewN n) os).cell? ⟨g', k * 2 + 1, none⟩ = some (.string r.2) := fun n os => by
        obtain ⟨_, e, _, h⟩ := RowRow.at (H2.out.gr (hI.out.trans (Gr.grow wr n os))) hr; cases e; exact h
      obtain ⟨rk, rt⟩ := r
      simp only at k0 k1 k2 k3
      clear hr
      go_wp2_with fail
      (refine wp_region_quiet_grown mixed (by kernel_rfl) ?_; (repeat (first | go_big_quiet_step (fail) | quiet_step (fail))); refine wpQuiet_nil ?_; intro _ hw'; obtain ⟨⟨nq, osq⟩, hw''⟩ := hw'; subst hw'')
      go_wp2
      go_roundw
      case rel => exact ⟨k + 1, by go_num, by omega, hI.out.trans (Gr.grow _ _ _)⟩
      case measure => simp [RowKit.intOf]; omega
    · have hltz : ¬ (k : Int) < (l.length : Int) := by omega
      go_wp2
      go_ret
      exact ⟨rfl, hI.out⟩
theorem rows_same (w : World) (a b : Option Addr) (c d : Nat) (l : List Rw) (hlim : l.length ≤ 100000000) (h1 : RowRow w a c l) (h2 : RowRow w b d l) :
    Calls Try.prog 20 #[.slice a l.length c, .slice b l.length d] w fun e w' => e = .returned (.bool true) ∧ Gr w w' := by
  have H := Lib.hid (r7Rows_same w a b c d l hlim h1 h2)
  clear h1 h2 hlim
  go_enter Try.func20, Try.ntmps20
  go_wp2_with (go_at_call 34; refine H.out.mono ?_; rintro e w1 ⟨rfl, hg⟩)
  go_ret
  exact ⟨rfl, hg⟩
end Go.Proofs.Ytannjecmfbhkeaa
