/- Sorting rows by their keys: the merging of two sorted runs. -/
import Derived.Test.YtannjecmfbhkeaaSortR
namespace Go.Proofs.Ytannjecmfbhkeaa
open Go Go.RowKit Go.Lib
section
variable (gf : Nat) (eg : ∀ args w, (callFunc gf args).run Try.prog w = .ok (.enter gf args) w) (hcmp : CmpR gf)
include eg hcmp
set_option maxHeartbeats 3200000 in
set_option maxRecDepth 100000 in
theorem sym1_calls (w0 w : World) (g c N a m b : Nat) (A R B : List Rw) (x : Rw) (h : SWR w0 g c N (A ++ [x] ++ R ++ B) w) (hN : N ≤ 1000000000) (ha : a = A.length) (hm : m = a + 1) (hb : b = m + R.length) (hR : Srt kyR R) :
    Calls Try.prog 73 #[.slice (some ⟨g, 0, none⟩) N c, .int .i64 a, .int .i64 m, .int .i64 b, .func (.func gf) #[] #[]] w fun e w' => e = .returned (.tuple #[]) ∧ SWR w0 g c N (A ++ sortS kyR ([x] ++ R) ++ B) w' := by
  have mixed : Try.prog.follows .mixedOrders = true := by kernel_rfl
  have hlen := h.len
  simp only [List.length_append, List.length_cons, List.length_nil] at hlen
  have hbN : b ≤ N := by omega
  have hmb : m ≤ b := by omega
  have HC := Lib.hid hcmp
  have HA := Lib.hid ha
  have HM := Lib.hid hm
  have HB := Lib.hid hb
  have HR := Lib.hid hR
  have t0 : ((m : Int) - a == 1) = true := by simp; omega
  have H0 := Lib.hid h
  have GX : Hid ((A ++ [x] ++ R ++ B)[a]? = some x) := by show _ = _; simp [ha]
  have haN : (a : Int) < (N : Int) := by omega
  clear h ha hb hlen hcmp hR hm
  go_enter Try.func73, Try.ntmps73
  go_wp2
  clear t0
  go_loopw [10, 11] (fun vi vj W => ∃ i j : Nat, vi = .int .i64 i ∧ vj = .int .i64 j ∧ m ≤ i ∧ i ≤ j ∧ j ≤ b ∧ Hid (SWR w0 g c N (A ++ [x] ++ R ++ B) W ∧ (i = m ∨ ∃ y, (A ++ [x] ++ R ++ B)[i - 1]? = some y ∧ y.1 < x.1) ∧ (j = b ∨ ∃ y, (A ++ [x] ++ R ++ B)[j]? = some y ∧ x.1 ≤ y.1))) (fun vi vj _ => (RowKit.intOf vj).toNat - (RowKit.intOf vi).toNat)
  case atStart => exact ⟨m, b, rfl, rfl, Nat.le_refl _, hmb, Nat.le_refl _, H0.out, Or.inl rfl, Or.inl rfl⟩
  case round =>
    obtain ⟨i, j, rfl, rfl, hmi, hij, hjb, hS⟩ := hrel
    by_cases hlt : i < j
    · have hltz : (i : Int) < (j : Int) := by omega
      obtain ⟨hh, hq⟩ : ∃ hh : Nat, ((i : Int) + j) / 2 = hh := ⟨(i + j) / 2, by omega⟩
      have hr1 : i ≤ hh := by omega
      have hr2 : hh < j := by omega
      have hhN : (hh : Int) < (N : Int) := by omega
      obtain ⟨y, hy⟩ : ∃ y, (A ++ [x] ++ R ++ B)[hh]? = some y := ⟨_, List.getElem?_eq_getElem (by rw [hS.out.1.len]; omega)⟩
      have hS1 := hS.out.1
      have k0 := fun n os => ((hS1.gr (Gr.grow wr n os)).at hy).1
      have k1 := fun n os => ((hS1.gr (Gr.grow wr n os)).at hy).2
      have k2 := fun n os => ((hS1.gr (Gr.grow wr n os)).at GX.out).1
      have k3 := fun n os => ((hS1.gr (Gr.grow wr n os)).at GX.out).2
      by_cases hlv : y.1 < x.1
      · have hc : ∀ W, Calls Try.prog gf #[.agg (encR y).toArray, .agg (encR x).toArray] W fun e w' => e = .returned (.int .i64 (-1)) ∧ Gr W w' := by
          intro W; have := HC.out W y x; rw [cmpI_lt hlv] at this; exact this
        have HC2 := Lib.hid hc
        have NXT : Hid (∀ W, Gr wr W → SWR w0 g c N (A ++ [x] ++ R ++ B) W ∧ (hh + 1 = m ∨ ∃ y, (A ++ [x] ++ R ++ B)[hh + 1 - 1]? = some y ∧ y.1 < x.1) ∧ (j = b ∨ ∃ y, (A ++ [x] ++ R ++ B)[j]? = some y ∧ x.1 ≤ y.1)) := fun W hg =>
          ⟨hS1.gr hg, Or.inr ⟨y, hy, hlv⟩, hS.out.2.2⟩
        clear hc hS1 hy hlv hS
        unfold encR at HC2
        go_wp2_with fail
        (refine wp_region_quiet_grown mixed (by kernel_rfl) ?_; (repeat (first | go_big_quiet_step (first | (go_at_fn gf; refine Calls.grown_of_gr (HC2.out _))) | quiet_step (first | (go_at_fn gf; refine Calls.grown_of_gr (HC2.out _))))); refine wpQuiet_nil ?_; intro _ hw'; obtain ⟨⟨nq, osq⟩, hw''⟩ := hw'; subst hw'')
        go_wp2
        go_roundw
        case rel => exact ⟨hh + 1, j, by go_num, rfl, by omega, by omega, hjb, NXT.out _ (Gr.grow _ _ _)⟩
        case measure => simp [RowKit.intOf]; omega
      · have hge : ¬ cmpI y.1 x.1 < 0 := cmpI_ge hlv
        have hc := fun W => HC.out W y x
        generalize cmpI y.1 x.1 = rr at hge hc
        have HC2 := Lib.hid hc
        have NXT : Hid (∀ W, Gr wr W → SWR w0 g c N (A ++ [x] ++ R ++ B) W ∧ (i = m ∨ ∃ y, (A ++ [x] ++ R ++ B)[i - 1]? = some y ∧ y.1 < x.1) ∧ (hh = b ∨ ∃ y, (A ++ [x] ++ R ++ B)[hh]? = some y ∧ x.1 ≤ y.1)) := fun W hg =>
          ⟨hS1.gr hg, hS.out.2.1, Or.inr ⟨y, hy, by omega⟩⟩
        clear hc hS1 hy hlv hS
        unfold encR at HC2
        go_wp2_with fail
        (refine wp_region_quiet_grown mixed (by kernel_rfl) ?_; (repeat (first | go_big_quiet_step (first | (go_at_fn gf; refine Calls.grown_of_gr (HC2.out _))) | quiet_step (first | (go_at_fn gf; refine Calls.grown_of_gr (HC2.out _))))); refine wpQuiet_nil ?_; intro _ hw'; obtain ⟨⟨nq, osq⟩, hw''⟩ := hw'; subst hw'')
        go_wp2
        go_roundw
        case rel => exact ⟨i, hh, rfl, rfl, hmi, hr1, by omega, NXT.out _ (Gr.grow _ _ _)⟩
        case measure => simp [RowKit.intOf]; omega
    · have hltz : ¬ (i : Int) < (j : Int) := by omega
      obtain ⟨R1, R2, e1, e2, e3⟩ : ∃ R1 R2, R = R1 ++ R2 ∧ R1.length = i - m ∧ sortS kyR ([x] ++ R) = R1 ++ [x] ++ R2 := by
        have hS2 := hS.out.2
        have hM := HM.out; have hA := HA.out; have hB := HB.out
        refine sym_end1 (ky := kyR) (by omega) HR.out hmi (by omega) hS2.1 ?_
        obtain rfl : i = j := by omega
        rw [← hB]; exact hS2.2.imp id (fun ⟨y, h1, h2⟩ => ⟨y, h1, by show ¬ y.1 < x.1; omega⟩)
      have E3 := Lib.hid e3
      have HI0 : Hid (∃ q, a = a + q ∧ q ≤ R1.length ∧ SWR w0 g c N (A ++ R1.take q ++ [x] ++ R1.drop q ++ R2 ++ B) wr) := ⟨0, rfl, by omega, by
        have := hS.out.1; rw [e1] at this; simpa using this⟩
      have hi1 : i = a + 1 + R1.length := by have := HM.out; omega
      have HI1 := Lib.hid hi1
      have hiN : i ≤ N := by omega
      have hai : a + 1 ≤ i := by omega
      obtain ⟨wo, rfl⟩ : ∃ wo : World, wo = wr := ⟨_, rfl⟩
      clear hS e1 e2 e3 hi1
      go_wp2
      go_loopw [13] (fun vk W => ∃ k : Nat, vk = .int .i64 k ∧ a ≤ k ∧ k + 1 ≤ i ∧ Hid (∃ q, k = a + q ∧ q ≤ R1.length ∧ SWR w0 g c N (A ++ R1.take q ++ [x] ++ R1.drop q ++ R2 ++ B) W)) (fun vk _ => N - (RowKit.intOf vk).toNat)
      case atStart => exact ⟨a, rfl, Nat.le_refl _, hai, HI0.out⟩
      case round =>
        obtain ⟨k, rfl, hak, hki, hI⟩ := hrel
        obtain ⟨q, hkq, hqR, hS⟩ := hI.out
        by_cases hlt2 : k + 1 < i
        · have hltz2 : (k : Int) < (i : Int) - 1 := by omega
          obtain ⟨y, R1', hy⟩ : ∃ y R1', R1.drop q = y :: R1' := by
            cases hd : R1.drop q with
            | nil => have := congrArg List.length hd; simp at this; have := HI1.out; omega
            | cons y R1' => exact ⟨y, R1', rfl⟩
          have el : A ++ R1.take q ++ [x] ++ R1.drop q ++ R2 ++ B = (A ++ R1.take q) ++ x :: y :: (R1' ++ R2 ++ B) := by rw [hy]; simp
          have lk : k = (A ++ R1.take q).length := by rw [List.length_append, List.length_take]; have := HA.out; omega
          rw [el] at hS
          have g1 : ((A ++ R1.take q) ++ x :: y :: (R1' ++ R2 ++ B))[k]? = some x := get_mid lk
          have g2 : ((A ++ R1.take q) ++ x :: y :: (R1' ++ R2 ++ B))[k + 1]? = some y := get_mid2 (M := []) (by rw [← lk]; rfl)
          obtain ⟨c0, c1⟩ := hS.at g1
          obtain ⟨c2, c3⟩ := hS.at g2
          have f0 := hS.frozen (k * 2)
          have f1 := hS.frozen (k * 2 + 1)
          have f2 := hS.frozen ((k + 1) * 2)
          have f3 := hS.frozen ((k + 1) * 2 + 1)
          have hsw := hS.swap g1 g2
          rw [lk, swp_next, ← lk, show (A ++ R1.take q) ++ y :: x :: (R1' ++ R2 ++ B) = A ++ R1.take (q + 1) ++ [x] ++ R1.drop (q + 1) ++ R2 ++ B from by rw [(take_drop_cons hy).1, (take_drop_cons hy).2]; simp] at hsw
          have hq1 : q + 1 ≤ R1.length := by have := congrArg List.length hy; simp at this; omega
          have NXT : Hid (∃ q, k + 1 = a + q ∧ q ≤ R1.length ∧ SWR w0 g c N (A ++ R1.take q ++ [x] ++ R1.drop q ++ R2 ++ B) _) := ⟨q + 1, by omega, hq1, hsw⟩
          have p0 : (0 : Int) ≤ (k : Int) + 1 := by omega
          have jz : (k : Int) + 1 < (N : Int) := by omega
          have jz1 : (k : Int) < (N : Int) := by omega
          have e0 : ((k : Int) + 1).toNat = k + 1 := by omega
          have hwp : IntKind.i64.wrap ((k : Int) + 1) = (k : Int) + 1 := by rw [IntKind.wrap_i64]; omega
          clear hS g1 g2 hsw el lk hy hkq hqR hI hq1
          go_wp2_with fail
          go_region
          go_wp2
          go_roundw
          case rel => exact ⟨k + 1, by go_num, by omega, by omega, NXT.out⟩
          case measure => simp [RowKit.intOf]; omega
        · have hltz2 : ¬ (k : Int) < (i : Int) - 1 := by omega
          have FIN : Hid (SWR w0 g c N (A ++ sortS kyR ([x] ++ R) ++ B) wr) := by
            show SWR _ _ _ _ _ _
            have hk : R1.length ≤ q := by have := HI1.out; omega
            rw [List.take_of_length_le hk, List.drop_eq_nil_of_le hk] at hS
            rw [E3.out]
            simpa using hS
          clear hS hkq hqR hI
          go_wp2
          exact bodyPost_ret (v := .tuple #[]) (by simp [results, Try.results73, go_sem]) rfl ⟨rfl, by have := FIN.out; simpa using this⟩
set_option maxHeartbeats 3200000 in
set_option maxRecDepth 100000 in
theorem sym2_calls (w0 w : World) (g c N a m b : Nat) (A L B : List Rw) (y : Rw) (h : SWR w0 g c N (A ++ L ++ [y] ++ B) w) (hN : N ≤ 1000000000) (ha : a = A.length) (hm : m = a + L.length) (hb : b = m + 1) (h1 : L.length ≠ 1) (hL : Srt kyR L) :
    Calls Try.prog 73 #[.slice (some ⟨g, 0, none⟩) N c, .int .i64 a, .int .i64 m, .int .i64 b, .func (.func gf) #[] #[]] w fun e w' => e = .returned (.tuple #[]) ∧ SWR w0 g c N (A ++ sortS kyR (L ++ [y]) ++ B) w' := by
  have mixed : Try.prog.follows .mixedOrders = true := by kernel_rfl
  have hlen := h.len
  simp only [List.length_append, List.length_cons, List.length_nil] at hlen
  have hmN' : m < N := by omega
  have hbN : b ≤ N := by omega
  have ham : a ≤ m := by omega
  have HC := Lib.hid hcmp
  have HA := Lib.hid ha
  have HM := Lib.hid hm
  have HL := Lib.hid hL
  have t0 : ((m : Int) - a == 1) = false := by simp; omega
  have t1 : ((b : Int) - m == 1) = true := by simp; omega
  have H0 := Lib.hid h
  have GX : Hid ((A ++ L ++ [y] ++ B)[m]? = some y) := by show _ = _; rw [show A ++ L ++ [y] ++ B = (A ++ L) ++ y :: B from by simp]; exact get_mid (by simp; omega)
  have hmN : (m : Int) < (N : Int) := by omega
  clear h ha hb hlen hcmp hL hm h1
  go_enter Try.func73, Try.ntmps73
  go_wp2
  clear t0 t1
  go_loopw [14, 15] (fun vi vj W => ∃ i j : Nat, vi = .int .i64 i ∧ vj = .int .i64 j ∧ a ≤ i ∧ i ≤ j ∧ j ≤ m ∧ Hid (SWR w0 g c N (A ++ L ++ [y] ++ B) W ∧ (i = a ∨ ∃ z, (A ++ L ++ [y] ++ B)[i - 1]? = some z ∧ z.1 ≤ y.1) ∧ (j = m ∨ ∃ z, (A ++ L ++ [y] ++ B)[j]? = some z ∧ y.1 < z.1))) (fun vi vj _ => (RowKit.intOf vj).toNat - (RowKit.intOf vi).toNat)
  case atStart => exact ⟨a, m, rfl, rfl, Nat.le_refl _, ham, Nat.le_refl _, H0.out, Or.inl rfl, Or.inl rfl⟩
  case round =>
    obtain ⟨i, j, rfl, rfl, hai, hij, hjm, hS⟩ := hrel
    by_cases hlt : i < j
    · have hltz : (i : Int) < (j : Int) := by omega
      obtain ⟨hh, hq⟩ : ∃ hh : Nat, ((i : Int) + j) / 2 = hh := ⟨(i + j) / 2, by omega⟩
      have hr1 : i ≤ hh := by omega
      have hr2 : hh < j := by omega
      have hhN : (hh : Int) < (N : Int) := by omega
      obtain ⟨z, hz⟩ : ∃ z, (A ++ L ++ [y] ++ B)[hh]? = some z := ⟨_, List.getElem?_eq_getElem (by rw [hS.out.1.len]; omega)⟩
      have hS1 := hS.out.1
      have k0 := fun n os => ((hS1.gr (Gr.grow wr n os)).at hz).1
      have k1 := fun n os => ((hS1.gr (Gr.grow wr n os)).at hz).2
      have k2 := fun n os => ((hS1.gr (Gr.grow wr n os)).at GX.out).1
      have k3 := fun n os => ((hS1.gr (Gr.grow wr n os)).at GX.out).2
      by_cases hlv : y.1 < z.1
      · have hge : cmpI y.1 z.1 < 0 := by rw [cmpI_lt hlv]; decide
        have hc := fun W => HC.out W y z
        generalize cmpI y.1 z.1 = rr at hge hc
        have hge2 : (!decide (rr < 0)) = false := by simp; omega
        have HC2 := Lib.hid hc
        have NXT : Hid (∀ W, Gr wr W → SWR w0 g c N (A ++ L ++ [y] ++ B) W ∧ (i = a ∨ ∃ z, (A ++ L ++ [y] ++ B)[i - 1]? = some z ∧ z.1 ≤ y.1) ∧ (hh = m ∨ ∃ z, (A ++ L ++ [y] ++ B)[hh]? = some z ∧ y.1 < z.1)) := fun W hg =>
          ⟨hS1.gr hg, hS.out.2.1, Or.inr ⟨z, hz, hlv⟩⟩
        clear hc hS1 hz hlv hS
        unfold encR at HC2
        go_wp2_with fail
        (refine wp_region_quiet_grown mixed (by kernel_rfl) ?_; (repeat (first | go_big_quiet_step (first | (go_at_fn gf; refine Calls.grown_of_gr (HC2.out _))) | quiet_step (first | (go_at_fn gf; refine Calls.grown_of_gr (HC2.out _))))); refine wpQuiet_nil ?_; intro _ hw'; obtain ⟨⟨nq, osq⟩, hw''⟩ := hw'; subst hw'')
        go_wp2
        go_roundw
        case rel => exact ⟨i, hh, rfl, rfl, hai, hr1, by omega, NXT.out _ (Gr.grow _ _ _)⟩
        case measure => simp [RowKit.intOf]; omega
      · have hge : ¬ cmpI y.1 z.1 < 0 := cmpI_ge hlv
        have hc := fun W => HC.out W y z
        generalize cmpI y.1 z.1 = rr at hge hc
        have hge2 : (!decide (rr < 0)) = true := by simp; omega
        have HC2 := Lib.hid hc
        have NXT : Hid (∀ W, Gr wr W → SWR w0 g c N (A ++ L ++ [y] ++ B) W ∧ (hh + 1 = a ∨ ∃ z, (A ++ L ++ [y] ++ B)[hh + 1 - 1]? = some z ∧ z.1 ≤ y.1) ∧ (j = m ∨ ∃ z, (A ++ L ++ [y] ++ B)[j]? = some z ∧ y.1 < z.1)) := fun W hg =>
          ⟨hS1.gr hg, Or.inr ⟨z, hz, by omega⟩, hS.out.2.2⟩
        clear hc hS1 hz hlv hS
        unfold encR at HC2
        go_wp2_with fail
        (refine wp_region_quiet_grown mixed (by kernel_rfl) ?_; (repeat (first | go_big_quiet_step (first | (go_at_fn gf; refine Calls.grown_of_gr (HC2.out _))) | quiet_step (first | (go_at_fn gf; refine Calls.grown_of_gr (HC2.out _))))); refine wpQuiet_nil ?_; intro _ hw'; obtain ⟨⟨nq, osq⟩, hw''⟩ := hw'; subst hw'')
        go_wp2
        go_roundw
        case rel => exact ⟨hh + 1, j, by go_num, rfl, by omega, by omega, hjm, NXT.out _ (Gr.grow _ _ _)⟩
        case measure => simp [RowKit.intOf]; omega
    · have hltz : ¬ (i : Int) < (j : Int) := by omega
      obtain ⟨L1, L2, e1, e2, e3⟩ : ∃ L1 L2, L = L1 ++ L2 ∧ L1.length = i - a ∧ sortS kyR (L ++ [y]) = L1 ++ [y] ++ L2 := by
        have hS2 := hS.out.2
        obtain rfl : i = j := by omega
        exact sym_end2 (ky := kyR) HA.out HM.out HL.out hai (by omega) (hS2.1.imp id (fun ⟨z, h1, h2⟩ => ⟨z, h1, by show ¬ y.1 < z.1; omega⟩)) hS2.2
      have E3 := Lib.hid e3
      have HI0 : Hid (∃ q, m = i + q ∧ q ≤ L2.length ∧ SWR w0 g c N (A ++ L1 ++ L2.take q ++ [y] ++ L2.drop q ++ B) wr) := ⟨L2.length, by have := HM.out; rw [e1, List.length_append] at this; omega, Nat.le_refl _, by
        have := hS.out.1; rw [e1] at this; simpa using this⟩
      have lA : (A ++ L1).length = i := by rw [List.length_append]; have := HA.out; omega
      have HLA := Lib.hid lA
      have him : i ≤ m := by omega
      obtain ⟨wo, rfl⟩ : ∃ wo : World, wo = wr := ⟨_, rfl⟩
      clear hS e1 e2 e3 lA
      go_wp2
      go_loopw [17] (fun vk W => ∃ k : Nat, vk = .int .i64 k ∧ i ≤ k ∧ k ≤ m ∧ Hid (∃ q, k = i + q ∧ q ≤ L2.length ∧ SWR w0 g c N (A ++ L1 ++ L2.take q ++ [y] ++ L2.drop q ++ B) W)) (fun vk _ => (RowKit.intOf vk).toNat)
      case atStart => exact ⟨m, rfl, him, Nat.le_refl _, HI0.out⟩
      case round =>
        obtain ⟨k, rfl, hik, hkm, hI⟩ := hrel
        obtain ⟨q, hkq, hqL, hS⟩ := hI.out
        by_cases hlt2 : i < k
        · have hltz2 : (i : Int) < (k : Int) := by omega
          obtain ⟨kp, rfl⟩ : ∃ kp, k = kp + 1 := ⟨k - 1, by omega⟩
          obtain ⟨qp, rfl⟩ : ∃ qp, q = qp + 1 := ⟨q - 1, by omega⟩
          obtain ⟨z, L2', hz⟩ : ∃ z L2', L2.drop qp = z :: L2' := by
            cases hd : L2.drop qp with
            | nil => have := congrArg List.length hd; simp at this; omega
            | cons z L2' => exact ⟨z, L2', rfl⟩
          have el : A ++ L1 ++ L2.take (qp + 1) ++ [y] ++ L2.drop (qp + 1) ++ B = (A ++ L1 ++ L2.take qp) ++ z :: y :: (L2' ++ B) := by rw [(take_drop_cons hz).1, (take_drop_cons hz).2]; simp
          have lk : kp = (A ++ L1 ++ L2.take qp).length := by rw [List.length_append, HLA.out, List.length_take]; omega
          rw [el] at hS
          have g1 : ((A ++ L1 ++ L2.take qp) ++ z :: y :: (L2' ++ B))[kp]? = some z := get_mid lk
          have g2 : ((A ++ L1 ++ L2.take qp) ++ z :: y :: (L2' ++ B))[kp + 1]? = some y := get_mid2 (M := []) (by rw [← lk]; rfl)
          obtain ⟨c0, c1⟩ := hS.at g1
          obtain ⟨c2, c3⟩ := hS.at g2
          have f0 := hS.frozen (kp * 2)
          have f1 := hS.frozen (kp * 2 + 1)
          have f2 := hS.frozen ((kp + 1) * 2)
          have f3 := hS.frozen ((kp + 1) * 2 + 1)
          have hsw := hS.swap g2 g1
          rw [swp_comm _ (by omega), lk, swp_next, ← lk, show (A ++ L1 ++ L2.take qp) ++ y :: z :: (L2' ++ B) = A ++ L1 ++ L2.take qp ++ [y] ++ L2.drop qp ++ B from by rw [hz]; simp] at hsw
          have NXT : Hid (∃ q, kp = i + q ∧ q ≤ L2.length ∧ SWR w0 g c N (A ++ L1 ++ L2.take q ++ [y] ++ L2.drop q ++ B) _) := ⟨qp, by omega, by omega, hsw⟩
          have p0 : (0 : Int) ≤ (kp : Int) + 1 := by omega
          have jz : (kp : Int) + 1 < (N : Int) := by omega
          have jz1 : (kp : Int) < (N : Int) := by omega
          have e0 : ((kp : Int) + 1).toNat = kp + 1 := by omega
          have hwp : IntKind.i64.wrap (kp : Int) = (kp : Int) := by rw [IntKind.wrap_i64]; omega
          have hlt3 : (i : Int) < (kp : Int) + 1 := by omega
          clear hS g1 g2 hsw el lk hz hkq hqL hI
          go_wp2_with fail
          go_region
          go_wp2
          go_roundw
          case rel => exact ⟨kp, by go_num, by omega, by omega, NXT.out⟩
          case measure => simp [RowKit.intOf]
        · have hltz2 : ¬ (i : Int) < (k : Int) := by omega
          have FIN : Hid (SWR w0 g c N (A ++ sortS kyR (L ++ [y]) ++ B) wr) := by
            show SWR _ _ _ _ _ _
            obtain rfl : q = 0 := by omega
            rw [E3.out]
            simpa using hS
          clear hS hkq hqL hI
          go_wp2
          exact bodyPost_ret (v := .tuple #[]) (by simp [results, Try.results73, go_sem]) rfl ⟨rfl, by have := FIN.out; simpa using this⟩
end
end Go.Proofs.Ytannjecmfbhkeaa
