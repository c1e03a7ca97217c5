/- Sorting rows by their keys: the whole stable sort. -/
import Derived.Test.YtannjecmfbhkeaaSortR3
import Derived.Test.YtannjecmfbhkeaaPureStable
namespace Go.Proofs.Ytannjecmfbhkeaa
open Go Go.RowKit Go.Lib
section
variable (gf : Nat) (eg : ∀ args w, (callFunc gf args).run Try.prog w = .ok (.enter gf args) w) (hcmp : CmpR gf)
include eg hcmp
set_option maxHeartbeats 6400000 in
set_option maxRecDepth 100000 in
theorem stableR_calls (w0 w : World) (g c N : Nat) (l0 : List Rw) (h : SWR w0 g c N l0 w) (hN : N ≤ 1000000000) :
    Calls Try.prog 66 #[.slice (some ⟨g, 0, none⟩) N c, .int .i64 N, .func (.func gf) #[] #[]] w fun e w' => e = .returned (.tuple #[]) ∧ SWR w0 g c N (sortS kyR l0) w' := by
  have fIns : ∀ (W : World) (a b : Int) (A S B : List Rw), SWR w0 g c N (A ++ S ++ B) W → a = A.length → b = A.length + S.length →
      Calls Try.prog 72 #[.slice (some ⟨g, 0, none⟩) N c, .int .i64 a, .int .i64 b, .func (.func gf) #[] #[]] W fun e w' => e = .returned (.tuple #[]) ∧ SWR w0 g c N (A ++ sortS kyR S ++ B) w' := by
    intro W a b A S B hW ha hb
    obtain rfl : a = ((A.length : Nat) : Int) := ha
    obtain rfl : b = ((A.length + S.length : Nat) : Int) := by omega
    exact insR_calls gf eg hcmp w0 W g c N _ _ A S B hW hN rfl rfl
  have fSym : ∀ (W : World) (a m b : Int) (A L R B : List Rw), SWR w0 g c N (A ++ L ++ R ++ B) W → a = A.length → m = a + L.length → b = m + R.length → 0 < L.length → 0 < R.length → Srt kyR L → Srt kyR R →
      Calls Try.prog 73 #[.slice (some ⟨g, 0, none⟩) N c, .int .i64 a, .int .i64 m, .int .i64 b, .func (.func gf) #[] #[]] W fun e w' => e = .returned (.tuple #[]) ∧ SWR w0 g c N (A ++ sortS kyR (L ++ R) ++ B) w' := by
    intro W a m b A L R B hW ha hm hb h1 h2 h3 h4
    obtain rfl : a = ((A.length : Nat) : Int) := ha
    obtain rfl : m = ((A.length + L.length : Nat) : Int) := by omega
    obtain rfl : b = ((A.length + L.length + R.length : Nat) : Int) := by omega
    exact symR_all gf eg hcmp _ w0 W g c N _ _ _ A L R B (Nat.lt_succ_self _) hW hN rfl rfl rfl h1 h2 h3 h4
  have FI := Lib.hid fIns
  have FS := Lib.hid fSym
  have hl0 := h.len
  have HL0 := Lib.hid hl0
  have H0 := Lib.hid h
  clear fIns fSym h hl0 hcmp
  go_enter Try.func66, Try.ntmps66
  go_wp2
  go_loopw [7, 8] (fun va vb W => ∃ a b : Nat, va = .int .i64 a ∧ vb = .int .i64 b ∧ a ≤ N ∧ b ≤ a + 20 ∧ a + 20 ≤ b ∧ Hid (∃ q l, a = q * 20 ∧ SWR w0 g c N l W ∧ SEq kyR l0 l ∧ ChkTo kyR 20 q l)) (fun _ vb _ => N + 40 - (RowKit.intOf vb).toNat)
  case atStart => exact ⟨0, 20, rfl, rfl, Nat.zero_le _, by omega, by omega, 0, l0, by omega, H0.out, SEq.refl _, fun i hi => absurd hi (Nat.not_lt_zero _)⟩
  case round =>
    obtain ⟨a, b, rfl, rfl, haN, hb1, hb2, hI⟩ := hrel
    by_cases hlt : b ≤ N
    · have hltz : (b : Int) ≤ (N : Int) := by omega
      have hcall : Calls Try.prog 72 #[.slice (some ⟨g, 0, none⟩) N c, .int .i64 a, .int .i64 b, .func (.func gf) #[] #[]] wr fun e w' => e = .returned (.tuple #[]) ∧ Hid (∃ q l, b = q * 20 ∧ SWR w0 g c N l w' ∧ SEq kyR l0 l ∧ ChkTo kyR 20 q l) := by
        obtain ⟨q, l, haq, hS, hE, hC⟩ := hI.out
        obtain ⟨A, S, B, rfl, hA, hSl⟩ := cut2 l (a := a) (b := b) (by omega) (by rw [hS.len]; exact hlt)
        refine (FI.out wr a b A S B hS (by omega) (by omega)).mono ?_
        rintro e w' ⟨he, hq⟩
        exact ⟨he, q + 1, _, by omega, hq, hE.trans seq_piece, chk_insert (by omega) (by omega) hC⟩
      have HC := Lib.hid hcall
      clear hcall hI
      go_wp2_with (go_at_call 72; refine HC.out.mono ?_; rintro e w1 ⟨rfl, hq⟩)
      go_roundw
      case rel => exact ⟨b, b + 20, rfl, by go_num, hlt, by omega, by omega, hq⟩
      case measure => simp [RowKit.intOf]; omega
    · have hltz : ¬ (b : Int) ≤ (N : Int) := by omega
      have hcall : Calls Try.prog 72 #[.slice (some ⟨g, 0, none⟩) N c, .int .i64 a, .int .i64 N, .func (.func gf) #[] #[]] wr fun e w' => e = .returned (.tuple #[]) ∧ Hid (∃ l, SWR w0 g c N l w' ∧ SEq kyR l0 l ∧ ChkFrom kyR 20 0 l) := by
        obtain ⟨q, l, haq, hS, hE, hC⟩ := hI.out
        obtain ⟨A, S, B, rfl, hA, hSl⟩ := cut2 l (a := a) (b := N) (by omega) (by rw [hS.len]; exact Nat.le_refl _)
        have hB : B = [] := by
          have := hS.len
          simp only [List.length_append] at this
          exact List.eq_nil_of_length_eq_zero (by omega)
        subst hB
        refine (FI.out wr a N A S [] hS (by omega) (by omega)).mono ?_
        rintro e w' ⟨he, hq⟩
        refine ⟨he, _, hq, hE.trans seq_piece, ?_⟩
        rw [List.append_nil] at hC ⊢
        exact chk_last (by omega) (by omega) hC
      have HC := Lib.hid hcall
      clear hcall hI
      obtain ⟨wo, rfl⟩ : ∃ wo : World, wo = wr := ⟨_, rfl⟩
      go_wp2_with (go_at_call 72; refine HC.out.mono ?_; rintro e w1 ⟨rfl, hq⟩)
      clear HC
      go_loopw [6] (fun vs W => ∃ bs : Nat, vs = .int .i64 bs ∧ 0 < bs ∧ bs ≤ 2 * N + 20 ∧ Hid (∃ l, SWR w0 g c N l W ∧ SEq kyR l0 l ∧ ChkFrom kyR bs 0 l)) (fun vs _ => 4 * N + 80 - (RowKit.intOf vs).toNat)
      case atStart => exact ⟨20, rfl, by omega, by omega, hq.out⟩
      case round =>
        obtain ⟨bs, rfl, hbs, hbsN, hI⟩ := hrel
        by_cases hlt2 : bs < N
        · have hltz2 : (bs : Int) < (N : Int) := by omega
          have HI0 : Hid (∃ q l, (0 : Nat) = 2 * q * bs ∧ SWR w0 g c N l wr ∧ SEq kyR l0 l ∧ ChkTo kyR (2 * bs) q l ∧ ChkFrom kyR bs (2 * q) l) := by
            obtain ⟨l, h1, h2, h3⟩ := hI.out
            exact ⟨0, l, by omega, h1, h2, fun i hi => absurd hi (Nat.not_lt_zero _), h3⟩
          clear hI
          obtain ⟨wo2, rfl⟩ : ∃ wo2 : World, wo2 = wr := ⟨_, rfl⟩
          go_wp2
          go_loopw [7, 8] (fun va vb W => ∃ a b : Nat, va = .int .i64 a ∧ vb = .int .i64 b ∧ a ≤ N ∧ b ≤ a + 2 * bs ∧ a + 2 * bs ≤ b ∧ Hid (∃ q l, a = 2 * q * bs ∧ SWR w0 g c N l W ∧ SEq kyR l0 l ∧ ChkTo kyR (2 * bs) q l ∧ ChkFrom kyR bs (2 * q) l)) (fun _ vb _ => 8 * N + 80 - (RowKit.intOf vb).toNat)
          case atStart => exact ⟨0, 2 * bs, rfl, by go_num, Nat.zero_le _, by omega, by omega, HI0.out⟩
          case round =>
            obtain ⟨a, b, rfl, rfl, haN, hb1, hb2, hI⟩ := hrel
            by_cases hlt3 : b ≤ N
            · have hltz3 : (b : Int) ≤ (N : Int) := by omega
              have hcall : ∀ mi : Int, mi = a + bs → Calls Try.prog 73 #[.slice (some ⟨g, 0, none⟩) N c, .int .i64 a, .int .i64 mi, .int .i64 b, .func (.func gf) #[] #[]] wr fun e w' => e = .returned (.tuple #[]) ∧ Hid (∃ q l, b = 2 * q * bs ∧ SWR w0 g c N l w' ∧ SEq kyR l0 l ∧ ChkTo kyR (2 * bs) q l ∧ ChkFrom kyR bs (2 * q) l) := by
                intro mi hmi
                obtain ⟨q, l, haq, hS, hE, hC1, hC2⟩ := hI.out
                obtain ⟨A, S, B, rfl, hA, hSl⟩ := cut2 l (a := a) (b := b) (by omega) (by rw [hS.len]; exact hlt3)
                obtain ⟨L, R, rfl, hL⟩ := split_at S (k := bs) (by omega)
                have hR : R.length = bs := by rw [List.length_append] at hSl; omega
                rw [← List.append_assoc A L R] at hS hE hC1 hC2
                have hr := chk_runs rfl (by omega) hL (by omega) (Or.inl hR) hC2
                refine (FS.out wr a mi b A L R B hS (by omega) (by omega) (by omega) (by omega) (by omega) hr.1 hr.2).mono ?_
                rintro e w' ⟨he, hq⟩
                have hm := chk_merge (q := q) (by omega) hL hR hC1 hC2
                refine ⟨he, q + 1, _, ?_, hq, hE.trans (by rw [show A ++ L ++ R ++ B = A ++ (L ++ R) ++ B from by simp]; exact seq_piece), hm.1, hm.2⟩
                rw [Nat.mul_add, Nat.add_mul]; omega
              have HC := Lib.hid hcall
              clear hcall hI
              go_wp2_with (go_at_call 73; refine (HC.out _ (by omega)).mono ?_; rintro e w1 ⟨rfl, hq⟩)
              go_roundw
              case rel => exact ⟨b, b + 2 * bs, rfl, by go_num, hlt3, by omega, by omega, hq⟩
              case measure => simp [RowKit.intOf]; omega
            · have hltz3 : ¬ (b : Int) ≤ (N : Int) := by omega
              by_cases hlt4 : a + bs < N
              · have hltz4 : (a : Int) + bs < (N : Int) := by omega
                have hcall : ∀ mi : Int, mi = a + bs → Calls Try.prog 73 #[.slice (some ⟨g, 0, none⟩) N c, .int .i64 a, .int .i64 mi, .int .i64 N, .func (.func gf) #[] #[]] wr fun e w' => e = .returned (.tuple #[]) ∧ Hid (∃ l, SWR w0 g c N l w' ∧ SEq kyR l0 l ∧ ChkFrom kyR (2 * bs) 0 l) := by
                  intro mi hmi
                  obtain ⟨q, l, haq, hS, hE, hC1, hC2⟩ := hI.out
                  obtain ⟨A, S, B, rfl, hA, hSl⟩ := cut2 l (a := a) (b := N) (by omega) (by rw [hS.len]; exact Nat.le_refl _)
                  have hB : B = [] := by
                    have := hS.len
                    simp only [List.length_append] at this
                    exact List.eq_nil_of_length_eq_zero (by omega)
                  subst hB
                  obtain ⟨L, R, rfl, hL⟩ := split_at S (k := bs) (by omega)
                  have hR : R.length ≤ bs := by rw [List.length_append] at hSl; omega
                  have hR0 : 0 < R.length := by rw [List.length_append] at hSl; omega
                  have hRN : R.length = N - a - bs := by rw [List.length_append] at hSl; omega
                  rw [← List.append_assoc A L R] at hS hE hC1 hC2
                  have hr := chk_runs rfl (by omega) hL (by omega) (Or.inr rfl) hC2
                  refine (FS.out wr a mi N A L R [] hS (by omega) (by omega) (by omega) (by omega) (by omega) hr.1 hr.2).mono ?_
                  rintro e w' ⟨he, hq⟩
                  refine ⟨he, _, hq, hE.trans (by rw [show A ++ L ++ R ++ [] = A ++ (L ++ R) ++ [] from by simp]; exact seq_piece), ?_⟩
                  rw [List.append_nil] at hC1 ⊢
                  exact chk_merge_last (q := q) (by omega) hL hR hC1
                have HC := Lib.hid hcall
                clear hcall hI
                go_wp2_with (go_at_call 73; refine (HC.out _ (by omega)).mono ?_; rintro e w1 ⟨rfl, hq⟩)
                go_roundw
                case rel => exact ⟨2 * bs, by go_num, by omega, by omega, hq⟩
                case measure => simp [RowKit.intOf]; omega
              · have hltz4 : ¬ (a : Int) + bs < (N : Int) := by omega
                have NXT : Hid (∃ l, SWR w0 g c N l wr ∧ SEq kyR l0 l ∧ ChkFrom kyR (2 * bs) 0 l) := by
                  obtain ⟨q, l, haq, hS, hE, hC1, hC2⟩ := hI.out
                  obtain ⟨A, L, B, rfl, hA, hSl⟩ := cut2 l (a := a) (b := N) (by omega) (by rw [hS.len]; exact Nat.le_refl _)
                  have hB : B = [] := by
                    have := hS.len
                    simp only [List.length_append] at this
                    exact List.eq_nil_of_length_eq_zero (by omega)
                  subst hB
                  refine ⟨_, hS, hE, ?_⟩
                  rw [List.append_nil] at hC1 hC2 ⊢
                  exact chk_alone (q := q) (by omega) (by omega) hC1 hC2
                clear hI
                go_wp2
                go_roundw
                case rel => exact ⟨2 * bs, by go_num, by omega, by omega, NXT⟩
                case measure => simp [RowKit.intOf]; omega
        · have hltz2 : ¬ (bs : Int) < (N : Int) := by omega
          have FIN : Hid (SWR w0 g c N (sortS kyR l0) wr) := by
            obtain ⟨l, h1, h2, h3⟩ := hI.out
            show SWR _ _ _ _ _ _
            rw [← chk_all h3 (by rw [h1.len]; omega) h2]
            exact h1
          clear hI
          go_wp2
          go_end0
          exact ⟨rfl, FIN.out⟩

set_option maxRecDepth 100000 in
omit eg hcmp in
theorem insR_nil (w : World) : Calls Try.prog 72 #[.slice none 0 0, .int .i64 0, .int .i64 0, .func (.func gf) #[] #[]] w fun e w' => e = .returned (.tuple #[]) ∧ w = w' := by
  go_enter Try.func72, Try.ntmps72
  go_wp2
  refine wp_loop_rounds 1 ?_
  rw [rounds_succ]
  go_wp2
  go_end0
  exact ⟨rfl, rfl⟩
set_option maxRecDepth 100000 in
omit eg hcmp in
theorem stableR_nil (w : World) : Calls Try.prog 66 #[.slice none 0 0, .int .i64 0, .func (.func gf) #[] #[]] w fun e w' => e = .returned (.tuple #[]) ∧ w = w' := by
  go_enter Try.func66, Try.ntmps66
  go_wp2
  refine wp_loop_rounds 1 ?_
  rw [rounds_succ]
  go_wp2_with (go_at_call 72; refine (insR_nil gf _).mono ?_; rintro e w1 ⟨rfl, rfl⟩)
  refine wp_loop_rounds 1 ?_
  rw [rounds_succ]
  go_wp2
  go_end0
  exact ⟨rfl, rfl⟩
/-- The whole: a row of rows is sorted by their keys, stably; no other block has turned. -/
theorem SortR_calls (w : World) (a : Option Addr) (c N : Nat) (l : List Rw) (h : w.ownsRow 0 38 2 (.slice a N c) N (l.flatMap encR)) (hN : N ≤ 1000000000) :
    Calls Try.prog 46 #[.slice a N c, .func (.func gf) #[] #[]] w fun e w' => e = .returned (.tuple #[]) ∧ w'.ownsRow 0 38 2 (.slice a N c) N ((sortS kyR l).flatMap encR) ∧ Tc (fun b => ∃ x, a = some x ∧ x.block = b) w w' := by
  rcases h.2 with ⟨hv, h0⟩ | ⟨g, cap, cur, hv, _⟩
  · cases hv
    have hl : l = [] := by
      have := h.1
      rw [flat_length (enc := encR) (k := 2) (fun _ => rfl)] at this
      exact List.eq_nil_of_length_eq_zero (by omega)
    subst hl
    have H := Lib.hid h
    clear h h0 hN
    go_enter Try.func46, Try.ntmps46
    go_wp2_with (go_at_call 66; refine (stableR_nil gf _).mono ?_; rintro e w1 ⟨rfl, rfl⟩)
    go_end0
    refine ⟨rfl, ?_, Tc.refl _ _⟩
    rw [sortS_of_srt (List.Pairwise.nil)]
    exact H.out
  · cases hv
    have hS := stableR_calls gf eg hcmp w w g c N l ⟨h, Tc.refl _ _⟩ hN
    have HS := Lib.hid hS
    clear hS h
    go_enter Try.func46, Try.ntmps46
    go_wp2_with (go_at_call 66; refine HS.out.mono ?_; rintro e w1 ⟨rfl, hq⟩)
    go_end0
    exact ⟨rfl, hq.row, hq.tc.mono (fun b hb => ⟨_, rfl, hb.symm⟩)⟩
end
end Go.Proofs.Ytannjecmfbhkeaa
