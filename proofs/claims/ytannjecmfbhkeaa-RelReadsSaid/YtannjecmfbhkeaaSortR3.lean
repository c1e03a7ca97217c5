/- Sorting rows by their keys: the general merging of two sorted runs; the whole sort. -/
import Derived.Test.YtannjecmfbhkeaaSortR2
namespace Go.Proofs.Ytannjecmfbhkeaa
open Go Go.RowKit Go.Lib
section
variable (gf : Nat) (eg : ∀ args w, (callFunc gf args).run Try.prog w = .ok (.enter gf args) w) (hcmp : CmpR gf)
include eg hcmp
/-- What symMerge does to runs that are together shorter than n. -/
def SymOk (gf n : Nat) : Prop := ∀ (w0 w : World) (g c N a m b : Nat) (A L R B : List Rw), b - a < n → SWR w0 g c N (A ++ L ++ R ++ B) w → N ≤ 1000000000 → a = A.length → m = a + L.length → b = m + R.length → 0 < L.length → 0 < R.length → Srt kyR L → Srt kyR R →
  Calls Try.prog 73 #[.slice (some ⟨g, 0, none⟩) N c, .int .i64 a, .int .i64 m, .int .i64 b, .func (.func gf) #[] #[]] w fun e w' => e = .returned (.tuple #[]) ∧ SWR w0 g c N (A ++ sortS kyR (L ++ R) ++ B) w'
set_option maxHeartbeats 6400000 in
set_option maxRecDepth 100000 in
theorem sym3_calls (w0 w : World) (g c N a m b : Nat) (A L R B : List Rw) (IH : SymOk gf (b - a)) (h : SWR w0 g c N (A ++ L ++ R ++ B) w) (hN : N ≤ 1000000000) (ha : a = A.length) (hm : m = a + L.length) (hb : b = m + R.length)
    (h1 : 2 ≤ L.length) (h2 : 2 ≤ R.length) (hL : Srt kyR L) (hR : Srt kyR R) :
    Calls Try.prog 73 #[.slice (some ⟨g, 0, none⟩) N c, .int .i64 a, .int .i64 m, .int .i64 b, .func (.func gf) #[] #[]] w fun e w' => e = .returned (.tuple #[]) ∧ SWR w0 g c N (A ++ sortS kyR (L ++ R) ++ B) w' := by
  have mixed : Try.prog.follows .mixedOrders = true := by kernel_rfl
  have hlen := h.len
  simp only [List.length_append] at hlen
  have hbN : b ≤ N := by omega
  obtain ⟨mid, hmid⟩ : ∃ mid : Nat, ((a : Int) + b) / 2 = mid := ⟨(a + b) / 2, by omega⟩
  have hmd : 2 * mid ≤ a + b ∧ a + b ≤ 2 * mid + 1 := by omega
  obtain ⟨pp, hpp⟩ : ∃ pp : Nat, ((mid : Int) + m) - 1 = pp := ⟨mid + m - 1, by omega⟩
  have hpp2 : pp + 1 = mid + m := by omega
  have ham : a + 2 ≤ m := by omega
  have hmb : m + 2 ≤ b := by omega
  have HC := Lib.hid hcmp
  have HI := Lib.hid IH
  have HA := Lib.hid ha
  have HM := Lib.hid hm
  have HB := Lib.hid hb
  have HL := Lib.hid hL
  have HR := Lib.hid hR
  have t0 : ((m : Int) - a == 1) = false := by simp; omega
  have t1 : ((b : Int) - m == 1) = false := by simp; omega
  have H0 := Lib.hid h
  -- where the search begins and ends
  obtain ⟨s0, r0, hsr⟩ : ∃ s0 r0 : Nat, (if mid < m then s0 + b = mid + m ∧ r0 = mid else s0 = a ∧ r0 = m) := by
    by_cases hc : mid < m
    · exact ⟨mid + m - b, mid, by rw [if_pos hc]; omega⟩
    · exact ⟨a, m, by rw [if_neg hc]; exact ⟨rfl, rfl⟩⟩
  have q1 : a ≤ s0 ∧ s0 ≤ r0 ∧ r0 ≤ m ∧ r0 ≤ mid ∧ mid + m ≤ s0 + b ∧ (s0 = a ∨ s0 + b = mid + m) ∧ (r0 = m ∨ r0 = mid) := by
    split at hsr <;> omega
  have fact : ∀ W s, SWR w0 g c N (A ++ L ++ R ++ B) W → s0 ≤ s → s ≤ r0 →
      (s = s0 ∨ ∃ u v, (A ++ L ++ R ++ B)[s - 1]? = some u ∧ (A ++ L ++ R ++ B)[pp - (s - 1)]? = some v ∧ u.1 ≤ v.1) →
      (s = r0 ∨ ∃ u v, (A ++ L ++ R ++ B)[s]? = some u ∧ (A ++ L ++ R ++ B)[pp - s]? = some v ∧ v.1 < u.1) →
      ∃ L1 L2 R1 R2, L = L1 ++ L2 ∧ R = R1 ++ R2 ∧ L1.length = s - a ∧ R1.length = (mid + m - s) - m ∧ sortS kyR (L ++ R) = sortS kyR (L1 ++ R1) ++ sortS kyR (L2 ++ R2) := by
    intro W s hW hs1 hs2 hl hr
    refine sym_end3 (ky := kyR) (s := s) (e := mid + m - s) (p := pp) (s0 := s0) (r0 := r0) ha hm hb hL hR ?_ ?_ ?_ ?_ ?_ ?_ ?_ ?_ ?_ (hl.imp id (fun ⟨u, v, e1, e2, e3⟩ => ⟨u, v, e1, e2, by show ¬ v.1 < u.1; omega⟩)) hr ?_ ?_ <;> (clear hl hr; first | omega | (intro hh; omega))
  have FACT := Lib.hid fact
  obtain ⟨q2, q3, q4, q5, q6, q7, q8⟩ := q1
  have Q7 := Lib.hid (And.intro q7 q8)
  clear h ha hb hlen hcmp hL hR hm h1 h2 IH fact q7 q8
  have hcase : (mid < m ∧ ((mid : Int) + m - b = s0) ∧ (mid : Int) = r0) ∨ (¬ mid < m ∧ (a : Int) = s0 ∧ (m : Int) = r0) := by
    by_cases hc : mid < m
    · rw [if_pos hc] at hsr; left; omega
    · rw [if_neg hc] at hsr; right; omega
  clear hsr
  have EX : Hid ((mid < m ∧ ((mid : Int) + m - b = s0) ∧ (mid : Int) = r0) ∨ (¬ mid < m ∧ (a : Int) = s0 ∧ (m : Int) = r0)) := hcase
  rcases hcase with ⟨hc, hst, hr0⟩ | ⟨hc, ha0, hr0⟩
  · have hcz : (mid : Int) < (m : Int) := by omega
    have EB := Lib.hid hr0
    have EA : Hid ((s0 : Int) = s0) := rfl
    clear hc hr0
    go_enter Try.func73, Try.ntmps73
    go_wp2
    clear t0 t1
    go_loopw [20, 21] (fun vs vr W => ∃ s r : Nat, vs = .int .i64 s ∧ vr = .int .i64 r ∧ s0 ≤ s ∧ s ≤ r ∧ r ≤ r0 ∧ Hid (SWR w0 g c N (A ++ L ++ R ++ B) W ∧ (s = s0 ∨ ∃ u v, (A ++ L ++ R ++ B)[s - 1]? = some u ∧ (A ++ L ++ R ++ B)[pp - (s - 1)]? = some v ∧ u.1 ≤ v.1) ∧ (r = r0 ∨ ∃ u v, (A ++ L ++ R ++ B)[r]? = some u ∧ (A ++ L ++ R ++ B)[pp - r]? = some v ∧ v.1 < u.1))) (fun vs vr _ => (RowKit.intOf vr).toNat - (RowKit.intOf vs).toNat)
    case atStart => exact ⟨s0, r0, by first | rfl | rw [EA.out], by rw [EB.out], Nat.le_refl _, q3, Nat.le_refl _, H0.out, Or.inl rfl, Or.inl rfl⟩
    case round =>
      obtain ⟨s, r, rfl, rfl, h0s, hsr, hrr, hS⟩ := hrel
      by_cases hlt : s < r
      · have hltz : (s : Int) < (r : Int) := by omega
        obtain ⟨cc, hq⟩ : ∃ cc : Nat, ((s : Int) + r) / 2 = cc := ⟨(s + r) / 2, by omega⟩
        have hr1 : s ≤ cc := by omega
        have hr2 : cc < r := by omega
        have hcN : (cc : Int) < (N : Int) := by omega
        obtain ⟨d, hd⟩ : ∃ d : Nat, (pp : Int) - cc = d := ⟨pp - cc, by omega⟩
        have hd2 : d = pp - cc := by omega
        have hdN : (d : Int) < (N : Int) := by omega
        obtain ⟨u, hu⟩ : ∃ u, (A ++ L ++ R ++ B)[cc]? = some u := ⟨_, List.getElem?_eq_getElem (by rw [hS.out.1.len]; omega)⟩
        obtain ⟨v, hv⟩ : ∃ v, (A ++ L ++ R ++ B)[d]? = some v := ⟨_, List.getElem?_eq_getElem (by rw [hS.out.1.len]; omega)⟩
        have hS1 := hS.out.1
        have k0 := fun n os => ((hS1.gr (Gr.grow wr n os)).at hu).1
        have k1 := fun n os => ((hS1.gr (Gr.grow wr n os)).at hu).2
        have k2 := fun n os => ((hS1.gr (Gr.grow wr n os)).at hv).1
        have k3 := fun n os => ((hS1.gr (Gr.grow wr n os)).at hv).2
        have z0 : (0 : Int) ≤ (pp : Int) - cc := by omega
        have z1 : IntKind.i64.wrap ((pp : Int) - cc) = (d : Int) := by rw [IntKind.wrap_i64]; omega
        by_cases hlv : v.1 < u.1
        · have hge : cmpI v.1 u.1 < 0 := by rw [cmpI_lt hlv]; decide
          have hcl := fun W => HC.out W v u
          generalize cmpI v.1 u.1 = rr at hge hcl
          have hge2 : (!decide (rr < 0)) = false := by simp; omega
          have HC2 := Lib.hid hcl
          have NXT : Hid (∀ W, Gr wr W → SWR w0 g c N (A ++ L ++ R ++ B) W ∧ (s = s0 ∨ ∃ u v, (A ++ L ++ R ++ B)[s - 1]? = some u ∧ (A ++ L ++ R ++ B)[pp - (s - 1)]? = some v ∧ u.1 ≤ v.1) ∧ (cc = r0 ∨ ∃ u v, (A ++ L ++ R ++ B)[cc]? = some u ∧ (A ++ L ++ R ++ B)[pp - cc]? = some v ∧ v.1 < u.1)) := fun W hg =>
            ⟨hS1.gr hg, hS.out.2.1, Or.inr ⟨u, v, hu, hd2 ▸ hv, hlv⟩⟩
          clear hcl hS1 hu hv hlv hS hd2
          unfold encR at HC2
          go_wp2_with fail
          (refine wp_region_quiet_grown mixed (by kernel_rfl) ?_; (repeat (first | go_big_quiet_step (first | (go_at_fn gf; refine Calls.grown_of_gr (HC2.out _))) | quiet_step (first | (go_at_fn gf; refine Calls.grown_of_gr (HC2.out _))))); refine wpQuiet_nil ?_; intro _ hw'; obtain ⟨⟨nq, osq⟩, hw''⟩ := hw'; subst hw'')
          go_wp2
          go_roundw
          case rel => exact ⟨s, cc, rfl, rfl, h0s, hr1, by omega, NXT.out _ (Gr.grow _ _ _)⟩
          case measure => simp [RowKit.intOf]; omega
        · have hge : ¬ cmpI v.1 u.1 < 0 := cmpI_ge hlv
          have hcl := fun W => HC.out W v u
          generalize cmpI v.1 u.1 = rr at hge hcl
          have hge2 : (!decide (rr < 0)) = true := by simp; omega
          have HC2 := Lib.hid hcl
          have NXT : Hid (∀ W, Gr wr W → SWR w0 g c N (A ++ L ++ R ++ B) W ∧ (cc + 1 = s0 ∨ ∃ u v, (A ++ L ++ R ++ B)[cc + 1 - 1]? = some u ∧ (A ++ L ++ R ++ B)[pp - (cc + 1 - 1)]? = some v ∧ u.1 ≤ v.1) ∧ (r = r0 ∨ ∃ u v, (A ++ L ++ R ++ B)[r]? = some u ∧ (A ++ L ++ R ++ B)[pp - r]? = some v ∧ v.1 < u.1)) := fun W hg =>
            ⟨hS1.gr hg, Or.inr ⟨u, v, hu, by rw [Nat.add_sub_cancel]; exact hd2 ▸ hv, by omega⟩, hS.out.2.2⟩
          clear hcl hS1 hu hv hlv hS hd2
          unfold encR at HC2
          go_wp2_with fail
          (refine wp_region_quiet_grown mixed (by kernel_rfl) ?_; (repeat (first | go_big_quiet_step (first | (go_at_fn gf; refine Calls.grown_of_gr (HC2.out _))) | quiet_step (first | (go_at_fn gf; refine Calls.grown_of_gr (HC2.out _))))); refine wpQuiet_nil ?_; intro _ hw'; obtain ⟨⟨nq, osq⟩, hw''⟩ := hw'; subst hw'')
          go_wp2
          go_roundw
          case rel => exact ⟨cc + 1, r, by go_num, rfl, by omega, by omega, hrr, NXT.out _ (Gr.grow _ _ _)⟩
          case measure => simp [RowKit.intOf]; omega
      · have hltz : ¬ (s : Int) < (r : Int) := by omega
        obtain ⟨e, he⟩ : ∃ e : Nat, ((mid : Int) + m) - s = e := ⟨mid + m - s, by omega⟩
        have he2 : e + s = mid + m := by omega
        have hsr' : s = r := by omega
        obtain ⟨L1, L2, R1, R2, e1, e2, l1, l2, hsrt⟩ : ∃ L1 L2 R1 R2, L = L1 ++ L2 ∧ R = R1 ++ R2 ∧ L1.length = s - a ∧ R1.length = e - m ∧ sortS kyR (L ++ R) = sortS kyR (L1 ++ R1) ++ sortS kyR (L2 ++ R2) := by
          have hS2 := hS.out
          have := FACT.out wr s hS2.1 h0s (by clear hS2; omega) hS2.2.1 (by rw [hsr']; exact hS2.2.2)
          rwa [show mid + m - s = e from by clear hS2; omega] at this
        have hS0 := Lib.hid hS.out.1
        clear hS
        have hA := HA.out
        have hM := HM.out
        have hB := HB.out
        have lL : L1.length + L2.length = L.length := by rw [e1, List.length_append]
        have lR : R1.length + R2.length = R.length := by rw [e2, List.length_append]
        have srt := HL.out
        have srt2 := HR.out
        rw [e1] at srt
        rw [e2] at srt2
        have qq := Q7.out
        have fRot : ∀ W, s < m → s < mid → SWR w0 g c N (A ++ L ++ R ++ B) W → Calls Try.prog 86 #[.slice (some ⟨g, 0, none⟩) N c, .int .i64 s, .int .i64 m, .int .i64 e, .func (.func gf) #[] #[]] W fun e w' => e = .returned (.tuple #[]) ∧ SWR w0 g c N (A ++ L1 ++ R1 ++ L2 ++ R2 ++ B) w' := by
          intro W z1 z2 hW
          rw [e1, e2] at hW
          refine (rotR_calls w0 W g c N s m e _ (A ++ L1) L2 R1 (R2 ++ B) (by simpa using hW) hN (by rw [List.length_append]; omega) (by omega) (by omega) (by rw [List.length_append]; omega) (by rw [List.length_append]; omega)).mono ?_
          rintro en w' ⟨h1, h2⟩
          exact ⟨h1, by simpa using h2⟩
        have fNo1 : ∀ W, ¬ (s < m ∧ s < mid) → SWR w0 g c N (A ++ L ++ R ++ B) W → SWR w0 g c N (A ++ L1 ++ R1 ++ L2 ++ R2 ++ B) W := by
          intro W z1 hW
          rw [e1, e2] at hW
          have : L2 = [] ∨ R1 = [] := by
            by_cases z2 : s < m
            · right; exact List.eq_nil_of_length_eq_zero (by omega)
            · left; exact List.eq_nil_of_length_eq_zero (by omega)
          rcases this with rfl | rfl
          · simpa using hW
          · simpa using hW
        have fSy1 : ∀ W, a < s → s < mid → SWR w0 g c N (A ++ L1 ++ R1 ++ L2 ++ R2 ++ B) W → Calls Try.prog 73 #[.slice (some ⟨g, 0, none⟩) N c, .int .i64 a, .int .i64 s, .int .i64 mid, .func (.func gf) #[] #[]] W fun e w' => e = .returned (.tuple #[]) ∧ SWR w0 g c N (A ++ sortS kyR (L1 ++ R1) ++ L2 ++ R2 ++ B) w' := by
          intro W z1 z2 hW
          refine (HI.out w0 W g c N a s mid A L1 R1 (L2 ++ R2 ++ B) (by omega) (by simpa using hW) hN hA (by omega) (by omega) (by omega) (by omega) srt.left srt2.left).mono ?_
          rintro en w' ⟨h1, h2⟩
          exact ⟨h1, by simpa using h2⟩
        have fNo2 : ∀ W, ¬ (a < s ∧ s < mid) → SWR w0 g c N (A ++ L1 ++ R1 ++ L2 ++ R2 ++ B) W → SWR w0 g c N (A ++ sortS kyR (L1 ++ R1) ++ L2 ++ R2 ++ B) W := by
          intro W z1 hW
          have : sortS kyR (L1 ++ R1) = L1 ++ R1 := by
            by_cases z2 : a < s
            · have : R1 = [] := List.eq_nil_of_length_eq_zero (by omega)
              subst this; rw [List.append_nil]; exact sortS_of_srt srt.left
            · have : L1 = [] := List.eq_nil_of_length_eq_zero (by omega)
              subst this; rw [List.nil_append]; exact sortS_of_srt srt2.left
          rw [this]; simpa using hW
        have lS : (sortS kyR (L1 ++ R1)).length = L1.length + R1.length := by rw [length_sortS, List.length_append]
        have fSy2 : ∀ W, s < m → e < b → SWR w0 g c N (A ++ sortS kyR (L1 ++ R1) ++ L2 ++ R2 ++ B) W → Calls Try.prog 73 #[.slice (some ⟨g, 0, none⟩) N c, .int .i64 mid, .int .i64 e, .int .i64 b, .func (.func gf) #[] #[]] W fun e w' => e = .returned (.tuple #[]) ∧ SWR w0 g c N (A ++ sortS kyR (L ++ R) ++ B) w' := by
          intro W z1 z2 hW
          refine (HI.out w0 W g c N mid e b (A ++ sortS kyR (L1 ++ R1)) L2 R2 B (by omega) hW hN (by rw [List.length_append]; omega) (by omega) (by omega) (by omega) (by omega) srt.right srt2.right).mono ?_
          rintro en w' ⟨h1, h2⟩
          exact ⟨h1, by rw [hsrt]; simpa using h2⟩
        have fNo3 : ∀ W, ¬ (s < m ∧ e < b) → SWR w0 g c N (A ++ sortS kyR (L1 ++ R1) ++ L2 ++ R2 ++ B) W → SWR w0 g c N (A ++ sortS kyR (L ++ R) ++ B) W := by
          intro W z1 hW
          have : sortS kyR (L2 ++ R2) = L2 ++ R2 := by
            by_cases z2 : s < m
            · have : R2 = [] := List.eq_nil_of_length_eq_zero (by omega)
              subst this; rw [List.append_nil]; exact sortS_of_srt srt.right
            · have : L2 = [] := List.eq_nil_of_length_eq_zero (by omega)
              subst this; rw [List.nil_append]; exact sortS_of_srt srt2.right
          rw [hsrt, this]; simpa using hW
        have HRot := Lib.hid fRot
        have HNo1 := Lib.hid fNo1
        have HSy1 := Lib.hid fSy1
        have HNo2 := Lib.hid fNo2
        have HSy2 := Lib.hid fSy2
        have HNo3 := Lib.hid fNo3
        have hs0 := hS0
        have heb : e ≤ b := by omega
        have hme : m ≤ e := by omega
        have has : a ≤ s := by omega
        have he3 := Lib.hid he2
        clear fRot fNo1 fSy1 fNo2 fSy2 fNo3 lS srt srt2 lL lR e1 e2 l1 l2 hsrt hA hM hB qq hsr'
        by_cases b1 : s < m
        · by_cases b2 : s < mid
          · by_cases b3 : a < s
            · by_cases b4 : e < b
              · have z1 : (s : Int) < (m : Int) := by omega
                have z2 : (s : Int) < (mid : Int) := by omega
                have z3 : (a : Int) < (s : Int) := by omega
                have z4 : (e : Int) < (b : Int) := by omega
                have z5 : (m : Int) < (e : Int) := by omega
                have z6 : (mid : Int) < (e : Int) := by omega
                go_wp2_with fail
                refine (HRot.out _ b1 b2 hs0.out).mono ?_
                rintro e1 w1 ⟨rfl, hr1⟩
                have hs1 := Lib.hid hr1
                clear hr1
                go_wp2_with fail
                refine (HSy1.out _ b3 b2 hs1.out).mono ?_
                rintro e1 w2 ⟨rfl, hr1⟩
                have hs2 := Lib.hid hr1
                clear hr1
                go_wp2_with fail
                refine (HSy2.out _ b1 b4 hs2.out).mono ?_
                rintro e1 w3 ⟨rfl, hr1⟩
                have hs3 := Lib.hid hr1
                clear hr1
                go_wp2
                all_goals (go_end0; exact ⟨rfl, by have := hs3.out; simpa using this⟩)
              · have z1 : (s : Int) < (m : Int) := by omega
                have z2 : (s : Int) < (mid : Int) := by omega
                have z3 : (a : Int) < (s : Int) := by omega
                have z4 : ¬ (e : Int) < (b : Int) := by omega
                have z5 : (m : Int) < (e : Int) := by omega
                have z6 : (mid : Int) < (e : Int) := by omega
                go_wp2_with fail
                refine (HRot.out _ b1 b2 hs0.out).mono ?_
                rintro e1 w1 ⟨rfl, hr1⟩
                have hs1 := Lib.hid hr1
                clear hr1
                go_wp2_with fail
                refine (HSy1.out _ b3 b2 hs1.out).mono ?_
                rintro e1 w2 ⟨rfl, hr1⟩
                have hs2 := Lib.hid hr1
                clear hr1
                have hs3 := Lib.hid (HNo3.out _ (by omega) hs2.out)
                go_wp2
                all_goals (go_end0; exact ⟨rfl, by have := hs3.out; simpa using this⟩)
            · by_cases b4 : e < b
              · have z1 : (s : Int) < (m : Int) := by omega
                have z2 : (s : Int) < (mid : Int) := by omega
                have z3 : ¬ (a : Int) < (s : Int) := by omega
                have z4 : (e : Int) < (b : Int) := by omega
                have z5 : (m : Int) < (e : Int) := by omega
                have z6 : (mid : Int) < (e : Int) := by omega
                go_wp2_with fail
                refine (HRot.out _ b1 b2 hs0.out).mono ?_
                rintro e1 w1 ⟨rfl, hr1⟩
                have hs1 := Lib.hid hr1
                clear hr1
                have hs2 := Lib.hid (HNo2.out _ (by omega) hs1.out)
                go_wp2_with fail
                refine (HSy2.out _ b1 b4 hs2.out).mono ?_
                rintro e1 w3 ⟨rfl, hr1⟩
                have hs3 := Lib.hid hr1
                clear hr1
                go_wp2
                all_goals (go_end0; exact ⟨rfl, by have := hs3.out; simpa using this⟩)
              · have z1 : (s : Int) < (m : Int) := by omega
                have z2 : (s : Int) < (mid : Int) := by omega
                have z3 : ¬ (a : Int) < (s : Int) := by omega
                have z4 : ¬ (e : Int) < (b : Int) := by omega
                have z5 : (m : Int) < (e : Int) := by omega
                have z6 : (mid : Int) < (e : Int) := by omega
                go_wp2_with fail
                refine (HRot.out _ b1 b2 hs0.out).mono ?_
                rintro e1 w1 ⟨rfl, hr1⟩
                have hs1 := Lib.hid hr1
                clear hr1
                have hs2 := Lib.hid (HNo2.out _ (by omega) hs1.out)
                have hs3 := Lib.hid (HNo3.out _ (by omega) hs2.out)
                go_wp2
                all_goals (go_end0; exact ⟨rfl, by have := hs3.out; simpa using this⟩)
          · by_cases b3 : a < s
            · by_cases b4 : e < b
              · have z1 : (s : Int) < (m : Int) := by omega
                have z2 : ¬ (s : Int) < (mid : Int) := by omega
                have z3 : (a : Int) < (s : Int) := by omega
                have z4 : (e : Int) < (b : Int) := by omega
                have z5 : ¬ (m : Int) < (e : Int) := by omega
                have z6 : (mid : Int) < (e : Int) := by omega
                have hs1 := Lib.hid (HNo1.out _ (by omega) hs0.out)
                have hs2 := Lib.hid (HNo2.out _ (by omega) hs1.out)
                go_wp2_with fail
                refine (HSy2.out _ b1 b4 hs2.out).mono ?_
                rintro e1 w3 ⟨rfl, hr1⟩
                have hs3 := Lib.hid hr1
                clear hr1
                go_wp2
                all_goals (go_end0; exact ⟨rfl, by have := hs3.out; simpa using this⟩)
              · have z1 : (s : Int) < (m : Int) := by omega
                have z2 : ¬ (s : Int) < (mid : Int) := by omega
                have z3 : (a : Int) < (s : Int) := by omega
                have z4 : ¬ (e : Int) < (b : Int) := by omega
                have z5 : ¬ (m : Int) < (e : Int) := by omega
                have z6 : (mid : Int) < (e : Int) := by omega
                have hs1 := Lib.hid (HNo1.out _ (by omega) hs0.out)
                have hs2 := Lib.hid (HNo2.out _ (by omega) hs1.out)
                have hs3 := Lib.hid (HNo3.out _ (by omega) hs2.out)
                go_wp2
                all_goals (go_end0; exact ⟨rfl, by have := hs3.out; simpa using this⟩)
            · by_cases b4 : e < b
              · have z1 : (s : Int) < (m : Int) := by omega
                have z2 : ¬ (s : Int) < (mid : Int) := by omega
                have z3 : ¬ (a : Int) < (s : Int) := by omega
                have z4 : (e : Int) < (b : Int) := by omega
                have z5 : ¬ (m : Int) < (e : Int) := by omega
                have z6 : (mid : Int) < (e : Int) := by omega
                have hs1 := Lib.hid (HNo1.out _ (by omega) hs0.out)
                have hs2 := Lib.hid (HNo2.out _ (by omega) hs1.out)
                go_wp2_with fail
                refine (HSy2.out _ b1 b4 hs2.out).mono ?_
                rintro e1 w3 ⟨rfl, hr1⟩
                have hs3 := Lib.hid hr1
                clear hr1
                go_wp2
                all_goals (go_end0; exact ⟨rfl, by have := hs3.out; simpa using this⟩)
              · have z1 : (s : Int) < (m : Int) := by omega
                have z2 : ¬ (s : Int) < (mid : Int) := by omega
                have z3 : ¬ (a : Int) < (s : Int) := by omega
                have z4 : ¬ (e : Int) < (b : Int) := by omega
                have z5 : ¬ (m : Int) < (e : Int) := by omega
                have z6 : (mid : Int) < (e : Int) := by omega
                have hs1 := Lib.hid (HNo1.out _ (by omega) hs0.out)
                have hs2 := Lib.hid (HNo2.out _ (by omega) hs1.out)
                have hs3 := Lib.hid (HNo3.out _ (by omega) hs2.out)
                go_wp2
                all_goals (go_end0; exact ⟨rfl, by have := hs3.out; simpa using this⟩)
        · by_cases b2 : s < mid
          · by_cases b3 : a < s
            · by_cases b4 : e < b
              · have z1 : ¬ (s : Int) < (m : Int) := by omega
                have z2 : (s : Int) < (mid : Int) := by omega
                have z3 : (a : Int) < (s : Int) := by omega
                have z4 : (e : Int) < (b : Int) := by omega
                have z5 : (m : Int) < (e : Int) := by omega
                have z6 : ¬ (mid : Int) < (e : Int) := by omega
                have hs1 := Lib.hid (HNo1.out _ (by omega) hs0.out)
                go_wp2_with fail
                refine (HSy1.out _ b3 b2 hs1.out).mono ?_
                rintro e1 w2 ⟨rfl, hr1⟩
                have hs2 := Lib.hid hr1
                clear hr1
                have hs3 := Lib.hid (HNo3.out _ (by omega) hs2.out)
                go_wp2
                all_goals (go_end0; exact ⟨rfl, by have := hs3.out; simpa using this⟩)
              · have z1 : ¬ (s : Int) < (m : Int) := by omega
                have z2 : (s : Int) < (mid : Int) := by omega
                have z3 : (a : Int) < (s : Int) := by omega
                have z4 : ¬ (e : Int) < (b : Int) := by omega
                have z5 : (m : Int) < (e : Int) := by omega
                have z6 : ¬ (mid : Int) < (e : Int) := by omega
                have hs1 := Lib.hid (HNo1.out _ (by omega) hs0.out)
                go_wp2_with fail
                refine (HSy1.out _ b3 b2 hs1.out).mono ?_
                rintro e1 w2 ⟨rfl, hr1⟩
                have hs2 := Lib.hid hr1
                clear hr1
                have hs3 := Lib.hid (HNo3.out _ (by omega) hs2.out)
                go_wp2
                all_goals (go_end0; exact ⟨rfl, by have := hs3.out; simpa using this⟩)
            · by_cases b4 : e < b
              · have z1 : ¬ (s : Int) < (m : Int) := by omega
                have z2 : (s : Int) < (mid : Int) := by omega
                have z3 : ¬ (a : Int) < (s : Int) := by omega
                have z4 : (e : Int) < (b : Int) := by omega
                have z5 : (m : Int) < (e : Int) := by omega
                have z6 : ¬ (mid : Int) < (e : Int) := by omega
                have hs1 := Lib.hid (HNo1.out _ (by omega) hs0.out)
                have hs2 := Lib.hid (HNo2.out _ (by omega) hs1.out)
                have hs3 := Lib.hid (HNo3.out _ (by omega) hs2.out)
                go_wp2
                all_goals (go_end0; exact ⟨rfl, by have := hs3.out; simpa using this⟩)
              · have z1 : ¬ (s : Int) < (m : Int) := by omega
                have z2 : (s : Int) < (mid : Int) := by omega
                have z3 : ¬ (a : Int) < (s : Int) := by omega
                have z4 : ¬ (e : Int) < (b : Int) := by omega
                have z5 : (m : Int) < (e : Int) := by omega
                have z6 : ¬ (mid : Int) < (e : Int) := by omega
                have hs1 := Lib.hid (HNo1.out _ (by omega) hs0.out)
                have hs2 := Lib.hid (HNo2.out _ (by omega) hs1.out)
                have hs3 := Lib.hid (HNo3.out _ (by omega) hs2.out)
                go_wp2
                all_goals (go_end0; exact ⟨rfl, by have := hs3.out; simpa using this⟩)
          · by_cases b3 : a < s
            · by_cases b4 : e < b
              · have z1 : ¬ (s : Int) < (m : Int) := by omega
                have z2 : ¬ (s : Int) < (mid : Int) := by omega
                have z3 : (a : Int) < (s : Int) := by omega
                have z4 : (e : Int) < (b : Int) := by omega
                have z5 : ¬ (m : Int) < (e : Int) := by omega
                have z6 : ¬ (mid : Int) < (e : Int) := by omega
                have hs1 := Lib.hid (HNo1.out _ (by omega) hs0.out)
                have hs2 := Lib.hid (HNo2.out _ (by omega) hs1.out)
                have hs3 := Lib.hid (HNo3.out _ (by omega) hs2.out)
                go_wp2
                all_goals (go_end0; exact ⟨rfl, by have := hs3.out; simpa using this⟩)
              · have z1 : ¬ (s : Int) < (m : Int) := by omega
                have z2 : ¬ (s : Int) < (mid : Int) := by omega
                have z3 : (a : Int) < (s : Int) := by omega
                have z4 : ¬ (e : Int) < (b : Int) := by omega
                have z5 : ¬ (m : Int) < (e : Int) := by omega
                have z6 : ¬ (mid : Int) < (e : Int) := by omega
                have hs1 := Lib.hid (HNo1.out _ (by omega) hs0.out)
                have hs2 := Lib.hid (HNo2.out _ (by omega) hs1.out)
                have hs3 := Lib.hid (HNo3.out _ (by omega) hs2.out)
                go_wp2
                all_goals (go_end0; exact ⟨rfl, by have := hs3.out; simpa using this⟩)
            · by_cases b4 : e < b
              · have z1 : ¬ (s : Int) < (m : Int) := by omega
                have z2 : ¬ (s : Int) < (mid : Int) := by omega
                have z3 : ¬ (a : Int) < (s : Int) := by omega
                have z4 : (e : Int) < (b : Int) := by omega
                have z5 : ¬ (m : Int) < (e : Int) := by omega
                have z6 : ¬ (mid : Int) < (e : Int) := by omega
                have hs1 := Lib.hid (HNo1.out _ (by omega) hs0.out)
                have hs2 := Lib.hid (HNo2.out _ (by omega) hs1.out)
                have hs3 := Lib.hid (HNo3.out _ (by omega) hs2.out)
                go_wp2
                all_goals (go_end0; exact ⟨rfl, by have := hs3.out; simpa using this⟩)
              · have z1 : ¬ (s : Int) < (m : Int) := by omega
                have z2 : ¬ (s : Int) < (mid : Int) := by omega
                have z3 : ¬ (a : Int) < (s : Int) := by omega
                have z4 : ¬ (e : Int) < (b : Int) := by omega
                have z5 : ¬ (m : Int) < (e : Int) := by omega
                have z6 : ¬ (mid : Int) < (e : Int) := by omega
                have hs1 := Lib.hid (HNo1.out _ (by omega) hs0.out)
                have hs2 := Lib.hid (HNo2.out _ (by omega) hs1.out)
                have hs3 := Lib.hid (HNo3.out _ (by omega) hs2.out)
                go_wp2
                all_goals (go_end0; exact ⟨rfl, by have := hs3.out; simpa using this⟩)

  · have hcz : ¬ (mid : Int) < (m : Int) := by omega
    have EB := Lib.hid hr0
    have EA := Lib.hid ha0
    clear hc hr0 ha0
    go_enter Try.func73, Try.ntmps73
    go_wp2
    clear t0 t1
    go_loopw [20, 21] (fun vs vr W => ∃ s r : Nat, vs = .int .i64 s ∧ vr = .int .i64 r ∧ s0 ≤ s ∧ s ≤ r ∧ r ≤ r0 ∧ Hid (SWR w0 g c N (A ++ L ++ R ++ B) W ∧ (s = s0 ∨ ∃ u v, (A ++ L ++ R ++ B)[s - 1]? = some u ∧ (A ++ L ++ R ++ B)[pp - (s - 1)]? = some v ∧ u.1 ≤ v.1) ∧ (r = r0 ∨ ∃ u v, (A ++ L ++ R ++ B)[r]? = some u ∧ (A ++ L ++ R ++ B)[pp - r]? = some v ∧ v.1 < u.1))) (fun vs vr _ => (RowKit.intOf vr).toNat - (RowKit.intOf vs).toNat)
    case atStart => exact ⟨s0, r0, by first | rfl | rw [EA.out], by rw [EB.out], Nat.le_refl _, q3, Nat.le_refl _, H0.out, Or.inl rfl, Or.inl rfl⟩
    case round =>
      obtain ⟨s, r, rfl, rfl, h0s, hsr, hrr, hS⟩ := hrel
      by_cases hlt : s < r
      · have hltz : (s : Int) < (r : Int) := by omega
        obtain ⟨cc, hq⟩ : ∃ cc : Nat, ((s : Int) + r) / 2 = cc := ⟨(s + r) / 2, by omega⟩
        have hr1 : s ≤ cc := by omega
        have hr2 : cc < r := by omega
        have hcN : (cc : Int) < (N : Int) := by omega
        obtain ⟨d, hd⟩ : ∃ d : Nat, (pp : Int) - cc = d := ⟨pp - cc, by omega⟩
        have hd2 : d = pp - cc := by omega
        have hdN : (d : Int) < (N : Int) := by omega
        obtain ⟨u, hu⟩ : ∃ u, (A ++ L ++ R ++ B)[cc]? = some u := ⟨_, List.getElem?_eq_getElem (by rw [hS.out.1.len]; omega)⟩
        obtain ⟨v, hv⟩ : ∃ v, (A ++ L ++ R ++ B)[d]? = some v := ⟨_, List.getElem?_eq_getElem (by rw [hS.out.1.len]; omega)⟩
        have hS1 := hS.out.1
        have k0 := fun n os => ((hS1.gr (Gr.grow wr n os)).at hu).1
        have k1 := fun n os => ((hS1.gr (Gr.grow wr n os)).at hu).2
        have k2 := fun n os => ((hS1.gr (Gr.grow wr n os)).at hv).1
        have k3 := fun n os => ((hS1.gr (Gr.grow wr n os)).at hv).2
        have z0 : (0 : Int) ≤ (pp : Int) - cc := by omega
        have z1 : IntKind.i64.wrap ((pp : Int) - cc) = (d : Int) := by rw [IntKind.wrap_i64]; omega
        by_cases hlv : v.1 < u.1
        · have hge : cmpI v.1 u.1 < 0 := by rw [cmpI_lt hlv]; decide
          have hcl := fun W => HC.out W v u
          generalize cmpI v.1 u.1 = rr at hge hcl
          have hge2 : (!decide (rr < 0)) = false := by simp; omega
          have HC2 := Lib.hid hcl
          have NXT : Hid (∀ W, Gr wr W → SWR w0 g c N (A ++ L ++ R ++ B) W ∧ (s = s0 ∨ ∃ u v, (A ++ L ++ R ++ B)[s - 1]? = some u ∧ (A ++ L ++ R ++ B)[pp - (s - 1)]? = some v ∧ u.1 ≤ v.1) ∧ (cc = r0 ∨ ∃ u v, (A ++ L ++ R ++ B)[cc]? = some u ∧ (A ++ L ++ R ++ B)[pp - cc]? = some v ∧ v.1 < u.1)) := fun W hg =>
            ⟨hS1.gr hg, hS.out.2.1, Or.inr ⟨u, v, hu, hd2 ▸ hv, hlv⟩⟩
          clear hcl hS1 hu hv hlv hS hd2
          unfold encR at HC2
          go_wp2_with fail
          (refine wp_region_quiet_grown mixed (by kernel_rfl) ?_; (repeat (first | go_big_quiet_step (first | (go_at_fn gf; refine Calls.grown_of_gr (HC2.out _))) | quiet_step (first | (go_at_fn gf; refine Calls.grown_of_gr (HC2.out _))))); refine wpQuiet_nil ?_; intro _ hw'; obtain ⟨⟨nq, osq⟩, hw''⟩ := hw'; subst hw'')
          go_wp2
          go_roundw
          case rel => exact ⟨s, cc, rfl, rfl, h0s, hr1, by omega, NXT.out _ (Gr.grow _ _ _)⟩
          case measure => simp [RowKit.intOf]; omega
        · have hge : ¬ cmpI v.1 u.1 < 0 := cmpI_ge hlv
          have hcl := fun W => HC.out W v u
          generalize cmpI v.1 u.1 = rr at hge hcl
          have hge2 : (!decide (rr < 0)) = true := by simp; omega
          have HC2 := Lib.hid hcl
          have NXT : Hid (∀ W, Gr wr W → SWR w0 g c N (A ++ L ++ R ++ B) W ∧ (cc + 1 = s0 ∨ ∃ u v, (A ++ L ++ R ++ B)[cc + 1 - 1]? = some u ∧ (A ++ L ++ R ++ B)[pp - (cc + 1 - 1)]? = some v ∧ u.1 ≤ v.1) ∧ (r = r0 ∨ ∃ u v, (A ++ L ++ R ++ B)[r]? = some u ∧ (A ++ L ++ R ++ B)[pp - r]? = some v ∧ v.1 < u.1)) := fun W hg =>
            ⟨hS1.gr hg, Or.inr ⟨u, v, hu, by rw [Nat.add_sub_cancel]; exact hd2 ▸ hv, by omega⟩, hS.out.2.2⟩
          clear hcl hS1 hu hv hlv hS hd2
          unfold encR at HC2
          go_wp2_with fail
          (refine wp_region_quiet_grown mixed (by kernel_rfl) ?_; (repeat (first | go_big_quiet_step (first | (go_at_fn gf; refine Calls.grown_of_gr (HC2.out _))) | quiet_step (first | (go_at_fn gf; refine Calls.grown_of_gr (HC2.out _))))); refine wpQuiet_nil ?_; intro _ hw'; obtain ⟨⟨nq, osq⟩, hw''⟩ := hw'; subst hw'')
          go_wp2
          go_roundw
          case rel => exact ⟨cc + 1, r, by go_num, rfl, by omega, by omega, hrr, NXT.out _ (Gr.grow _ _ _)⟩
          case measure => simp [RowKit.intOf]; omega
      · have hltz : ¬ (s : Int) < (r : Int) := by omega
        obtain ⟨e, he⟩ : ∃ e : Nat, ((mid : Int) + m) - s = e := ⟨mid + m - s, by omega⟩
        have he2 : e + s = mid + m := by omega
        have hsr' : s = r := by omega
        obtain ⟨L1, L2, R1, R2, e1, e2, l1, l2, hsrt⟩ : ∃ L1 L2 R1 R2, L = L1 ++ L2 ∧ R = R1 ++ R2 ∧ L1.length = s - a ∧ R1.length = e - m ∧ sortS kyR (L ++ R) = sortS kyR (L1 ++ R1) ++ sortS kyR (L2 ++ R2) := by
          have hS2 := hS.out
          have := FACT.out wr s hS2.1 h0s (by clear hS2; omega) hS2.2.1 (by rw [hsr']; exact hS2.2.2)
          rwa [show mid + m - s = e from by clear hS2; omega] at this
        have hS0 := Lib.hid hS.out.1
        clear hS
        have hA := HA.out
        have hM := HM.out
        have hB := HB.out
        have lL : L1.length + L2.length = L.length := by rw [e1, List.length_append]
        have lR : R1.length + R2.length = R.length := by rw [e2, List.length_append]
        have srt := HL.out
        have srt2 := HR.out
        rw [e1] at srt
        rw [e2] at srt2
        have qq := Q7.out
        have fRot : ∀ W, s < m → s < mid → SWR w0 g c N (A ++ L ++ R ++ B) W → Calls Try.prog 86 #[.slice (some ⟨g, 0, none⟩) N c, .int .i64 s, .int .i64 m, .int .i64 e, .func (.func gf) #[] #[]] W fun e w' => e = .returned (.tuple #[]) ∧ SWR w0 g c N (A ++ L1 ++ R1 ++ L2 ++ R2 ++ B) w' := by
          intro W z1 z2 hW
          rw [e1, e2] at hW
          refine (rotR_calls w0 W g c N s m e _ (A ++ L1) L2 R1 (R2 ++ B) (by simpa using hW) hN (by rw [List.length_append]; omega) (by omega) (by omega) (by rw [List.length_append]; omega) (by rw [List.length_append]; omega)).mono ?_
          rintro en w' ⟨h1, h2⟩
          exact ⟨h1, by simpa using h2⟩
        have fNo1 : ∀ W, ¬ (s < m ∧ s < mid) → SWR w0 g c N (A ++ L ++ R ++ B) W → SWR w0 g c N (A ++ L1 ++ R1 ++ L2 ++ R2 ++ B) W := by
          intro W z1 hW
          rw [e1, e2] at hW
          have : L2 = [] ∨ R1 = [] := by
            by_cases z2 : s < m
            · right; exact List.eq_nil_of_length_eq_zero (by omega)
            · left; exact List.eq_nil_of_length_eq_zero (by omega)
          rcases this with rfl | rfl
          · simpa using hW
          · simpa using hW
        have fSy1 : ∀ W, a < s → s < mid → SWR w0 g c N (A ++ L1 ++ R1 ++ L2 ++ R2 ++ B) W → Calls Try.prog 73 #[.slice (some ⟨g, 0, none⟩) N c, .int .i64 a, .int .i64 s, .int .i64 mid, .func (.func gf) #[] #[]] W fun e w' => e = .returned (.tuple #[]) ∧ SWR w0 g c N (A ++ sortS kyR (L1 ++ R1) ++ L2 ++ R2 ++ B) w' := by
          intro W z1 z2 hW
          refine (HI.out w0 W g c N a s mid A L1 R1 (L2 ++ R2 ++ B) (by omega) (by simpa using hW) hN hA (by omega) (by omega) (by omega) (by omega) srt.left srt2.left).mono ?_
          rintro en w' ⟨h1, h2⟩
          exact ⟨h1, by simpa using h2⟩
        have fNo2 : ∀ W, ¬ (a < s ∧ s < mid) → SWR w0 g c N (A ++ L1 ++ R1 ++ L2 ++ R2 ++ B) W → SWR w0 g c N (A ++ sortS kyR (L1 ++ R1) ++ L2 ++ R2 ++ B) W := by
          intro W z1 hW
          have : sortS kyR (L1 ++ R1) = L1 ++ R1 := by
            by_cases z2 : a < s
            · have : R1 = [] := List.eq_nil_of_length_eq_zero (by omega)
              subst this; rw [List.append_nil]; exact sortS_of_srt srt.left
            · have : L1 = [] := List.eq_nil_of_length_eq_zero (by omega)
              subst this; rw [List.nil_append]; exact sortS_of_srt srt2.left
          rw [this]; simpa using hW
        have lS : (sortS kyR (L1 ++ R1)).length = L1.length + R1.length := by rw [length_sortS, List.length_append]
        have fSy2 : ∀ W, s < m → e < b → SWR w0 g c N (A ++ sortS kyR (L1 ++ R1) ++ L2 ++ R2 ++ B) W → Calls Try.prog 73 #[.slice (some ⟨g, 0, none⟩) N c, .int .i64 mid, .int .i64 e, .int .i64 b, .func (.func gf) #[] #[]] W fun e w' => e = .returned (.tuple #[]) ∧ SWR w0 g c N (A ++ sortS kyR (L ++ R) ++ B) w' := by
          intro W z1 z2 hW
          refine (HI.out w0 W g c N mid e b (A ++ sortS kyR (L1 ++ R1)) L2 R2 B (by omega) hW hN (by rw [List.length_append]; omega) (by omega) (by omega) (by omega) (by omega) srt.right srt2.right).mono ?_
          rintro en w' ⟨h1, h2⟩
          exact ⟨h1, by rw [hsrt]; simpa using h2⟩
        have fNo3 : ∀ W, ¬ (s < m ∧ e < b) → SWR w0 g c N (A ++ sortS kyR (L1 ++ R1) ++ L2 ++ R2 ++ B) W → SWR w0 g c N (A ++ sortS kyR (L ++ R) ++ B) W := by
          intro W z1 hW
          have : sortS kyR (L2 ++ R2) = L2 ++ R2 := by
            by_cases z2 : s < m
            · have : R2 = [] := List.eq_nil_of_length_eq_zero (by omega)
              subst this; rw [List.append_nil]; exact sortS_of_srt srt.right
            · have : L2 = [] := List.eq_nil_of_length_eq_zero (by omega)
              subst this; rw [List.nil_append]; exact sortS_of_srt srt2.right
          rw [hsrt, this]; simpa using hW
        have HRot := Lib.hid fRot
        have HNo1 := Lib.hid fNo1
        have HSy1 := Lib.hid fSy1
        have HNo2 := Lib.hid fNo2
        have HSy2 := Lib.hid fSy2
        have HNo3 := Lib.hid fNo3
        have hs0 := hS0
        have heb : e ≤ b := by omega
        have hme : m ≤ e := by omega
        have has : a ≤ s := by omega
        have he3 := Lib.hid he2
        clear fRot fNo1 fSy1 fNo2 fSy2 fNo3 lS srt srt2 lL lR e1 e2 l1 l2 hsrt hA hM hB qq hsr'
        by_cases b1 : s < m
        · by_cases b2 : s < mid
          · by_cases b3 : a < s
            · by_cases b4 : e < b
              · have z1 : (s : Int) < (m : Int) := by omega
                have z2 : (s : Int) < (mid : Int) := by omega
                have z3 : (a : Int) < (s : Int) := by omega
                have z4 : (e : Int) < (b : Int) := by omega
                have z5 : (m : Int) < (e : Int) := by omega
                have z6 : (mid : Int) < (e : Int) := by omega
                go_wp2_with fail
                refine (HRot.out _ b1 b2 hs0.out).mono ?_
                rintro e1 w1 ⟨rfl, hr1⟩
                have hs1 := Lib.hid hr1
                clear hr1
                go_wp2_with fail
                refine (HSy1.out _ b3 b2 hs1.out).mono ?_
                rintro e1 w2 ⟨rfl, hr1⟩
                have hs2 := Lib.hid hr1
                clear hr1
                go_wp2_with fail
                refine (HSy2.out _ b1 b4 hs2.out).mono ?_
                rintro e1 w3 ⟨rfl, hr1⟩
                have hs3 := Lib.hid hr1
                clear hr1
                go_wp2
                all_goals (go_end0; exact ⟨rfl, by have := hs3.out; simpa using this⟩)
              · have z1 : (s : Int) < (m : Int) := by omega
                have z2 : (s : Int) < (mid : Int) := by omega
                have z3 : (a : Int) < (s : Int) := by omega
                have z4 : ¬ (e : Int) < (b : Int) := by omega
                have z5 : (m : Int) < (e : Int) := by omega
                have z6 : (mid : Int) < (e : Int) := by omega
                go_wp2_with fail
                refine (HRot.out _ b1 b2 hs0.out).mono ?_
                rintro e1 w1 ⟨rfl, hr1⟩
                have hs1 := Lib.hid hr1
                clear hr1
                go_wp2_with fail
                refine (HSy1.out _ b3 b2 hs1.out).mono ?_
                rintro e1 w2 ⟨rfl, hr1⟩
                have hs2 := Lib.hid hr1
                clear hr1
                have hs3 := Lib.hid (HNo3.out _ (by omega) hs2.out)
                go_wp2
                all_goals (go_end0; exact ⟨rfl, by have := hs3.out; simpa using this⟩)
            · by_cases b4 : e < b
              · have z1 : (s : Int) < (m : Int) := by omega
                have z2 : (s : Int) < (mid : Int) := by omega
                have z3 : ¬ (a : Int) < (s : Int) := by omega
                have z4 : (e : Int) < (b : Int) := by omega
                have z5 : (m : Int) < (e : Int) := by omega
                have z6 : (mid : Int) < (e : Int) := by omega
                go_wp2_with fail
                refine (HRot.out _ b1 b2 hs0.out).mono ?_
                rintro e1 w1 ⟨rfl, hr1⟩
                have hs1 := Lib.hid hr1
                clear hr1
                have hs2 := Lib.hid (HNo2.out _ (by omega) hs1.out)
                go_wp2_with fail
                refine (HSy2.out _ b1 b4 hs2.out).mono ?_
                rintro e1 w3 ⟨rfl, hr1⟩
                have hs3 := Lib.hid hr1
                clear hr1
                go_wp2
                all_goals (go_end0; exact ⟨rfl, by have := hs3.out; simpa using this⟩)
              · have z1 : (s : Int) < (m : Int) := by omega
                have z2 : (s : Int) < (mid : Int) := by omega
                have z3 : ¬ (a : Int) < (s : Int) := by omega
                have z4 : ¬ (e : Int) < (b : Int) := by omega
                have z5 : (m : Int) < (e : Int) := by omega
                have z6 : (mid : Int) < (e : Int) := by omega
                go_wp2_with fail
                refine (HRot.out _ b1 b2 hs0.out).mono ?_
                rintro e1 w1 ⟨rfl, hr1⟩
                have hs1 := Lib.hid hr1
                clear hr1
                have hs2 := Lib.hid (HNo2.out _ (by omega) hs1.out)
                have hs3 := Lib.hid (HNo3.out _ (by omega) hs2.out)
                go_wp2
                all_goals (go_end0; exact ⟨rfl, by have := hs3.out; simpa using this⟩)
          · by_cases b3 : a < s
            · by_cases b4 : e < b
              · have z1 : (s : Int) < (m : Int) := by omega
                have z2 : ¬ (s : Int) < (mid : Int) := by omega
                have z3 : (a : Int) < (s : Int) := by omega
                have z4 : (e : Int) < (b : Int) := by omega
                have z5 : ¬ (m : Int) < (e : Int) := by omega
                have z6 : (mid : Int) < (e : Int) := by omega
                have hs1 := Lib.hid (HNo1.out _ (by omega) hs0.out)
                have hs2 := Lib.hid (HNo2.out _ (by omega) hs1.out)
                go_wp2_with fail
                refine (HSy2.out _ b1 b4 hs2.out).mono ?_
                rintro e1 w3 ⟨rfl, hr1⟩
                have hs3 := Lib.hid hr1
                clear hr1
                go_wp2
                all_goals (go_end0; exact ⟨rfl, by have := hs3.out; simpa using this⟩)
              · have z1 : (s : Int) < (m : Int) := by omega
                have z2 : ¬ (s : Int) < (mid : Int) := by omega
                have z3 : (a : Int) < (s : Int) := by omega
                have z4 : ¬ (e : Int) < (b : Int) := by omega
                have z5 : ¬ (m : Int) < (e : Int) := by omega
                have z6 : (mid : Int) < (e : Int) := by omega
                have hs1 := Lib.hid (HNo1.out _ (by omega) hs0.out)
                have hs2 := Lib.hid (HNo2.out _ (by omega) hs1.out)
                have hs3 := Lib.hid (HNo3.out _ (by omega) hs2.out)
                go_wp2
                all_goals (go_end0; exact ⟨rfl, by have := hs3.out; simpa using this⟩)
            · by_cases b4 : e < b
              · have z1 : (s : Int) < (m : Int) := by omega
                have z2 : ¬ (s : Int) < (mid : Int) := by omega
                have z3 : ¬ (a : Int) < (s : Int) := by omega
                have z4 : (e : Int) < (b : Int) := by omega
                have z5 : ¬ (m : Int) < (e : Int) := by omega
                have z6 : (mid : Int) < (e : Int) := by omega
                have hs1 := Lib.hid (HNo1.out _ (by omega) hs0.out)
                have hs2 := Lib.hid (HNo2.out _ (by omega) hs1.out)
                go_wp2_with fail
                refine (HSy2.out _ b1 b4 hs2.out).mono ?_
                rintro e1 w3 ⟨rfl, hr1⟩
                have hs3 := Lib.hid hr1
                clear hr1
                go_wp2
                all_goals (go_end0; exact ⟨rfl, by have := hs3.out; simpa using this⟩)
              · have z1 : (s : Int) < (m : Int) := by omega
                have z2 : ¬ (s : Int) < (mid : Int) := by omega
                have z3 : ¬ (a : Int) < (s : Int) := by omega
                have z4 : ¬ (e : Int) < (b : Int) := by omega
                have z5 : ¬ (m : Int) < (e : Int) := by omega
                have z6 : (mid : Int) < (e : Int) := by omega
                have hs1 := Lib.hid (HNo1.out _ (by omega) hs0.out)
                have hs2 := Lib.hid (HNo2.out _ (by omega) hs1.out)
                have hs3 := Lib.hid (HNo3.out _ (by omega) hs2.out)
                go_wp2
                all_goals (go_end0; exact ⟨rfl, by have := hs3.out; simpa using this⟩)
        · by_cases b2 : s < mid
          · by_cases b3 : a < s
            · by_cases b4 : e < b
              · have z1 : ¬ (s : Int) < (m : Int) := by omega
                have z2 : (s : Int) < (mid : Int) := by omega
                have z3 : (a : Int) < (s : Int) := by omega
                have z4 : (e : Int) < (b : Int) := by omega
                have z5 : (m : Int) < (e : Int) := by omega
                have z6 : ¬ (mid : Int) < (e : Int) := by omega
                have hs1 := Lib.hid (HNo1.out _ (by omega) hs0.out)
                go_wp2_with fail
                refine (HSy1.out _ b3 b2 hs1.out).mono ?_
                rintro e1 w2 ⟨rfl, hr1⟩
                have hs2 := Lib.hid hr1
                clear hr1
                have hs3 := Lib.hid (HNo3.out _ (by omega) hs2.out)
                go_wp2
                all_goals (go_end0; exact ⟨rfl, by have := hs3.out; simpa using this⟩)
              · have z1 : ¬ (s : Int) < (m : Int) := by omega
                have z2 : (s : Int) < (mid : Int) := by omega
                have z3 : (a : Int) < (s : Int) := by omega
                have z4 : ¬ (e : Int) < (b : Int) := by omega
                have z5 : (m : Int) < (e : Int) := by omega
                have z6 : ¬ (mid : Int) < (e : Int) := by omega
                have hs1 := Lib.hid (HNo1.out _ (by omega) hs0.out)
                go_wp2_with fail
                refine (HSy1.out _ b3 b2 hs1.out).mono ?_
                rintro e1 w2 ⟨rfl, hr1⟩
                have hs2 := Lib.hid hr1
                clear hr1
                have hs3 := Lib.hid (HNo3.out _ (by omega) hs2.out)
                go_wp2
                all_goals (go_end0; exact ⟨rfl, by have := hs3.out; simpa using this⟩)
            · by_cases b4 : e < b
              · have z1 : ¬ (s : Int) < (m : Int) := by omega
                have z2 : (s : Int) < (mid : Int) := by omega
                have z3 : ¬ (a : Int) < (s : Int) := by omega
                have z4 : (e : Int) < (b : Int) := by omega
                have z5 : (m : Int) < (e : Int) := by omega
                have z6 : ¬ (mid : Int) < (e : Int) := by omega
                have hs1 := Lib.hid (HNo1.out _ (by omega) hs0.out)
                have hs2 := Lib.hid (HNo2.out _ (by omega) hs1.out)
                have hs3 := Lib.hid (HNo3.out _ (by omega) hs2.out)
                go_wp2
                all_goals (go_end0; exact ⟨rfl, by have := hs3.out; simpa using this⟩)
              · have z1 : ¬ (s : Int) < (m : Int) := by omega
                have z2 : (s : Int) < (mid : Int) := by omega
                have z3 : ¬ (a : Int) < (s : Int) := by omega
                have z4 : ¬ (e : Int) < (b : Int) := by omega
                have z5 : (m : Int) < (e : Int) := by omega
                have z6 : ¬ (mid : Int) < (e : Int) := by omega
                have hs1 := Lib.hid (HNo1.out _ (by omega) hs0.out)
                have hs2 := Lib.hid (HNo2.out _ (by omega) hs1.out)
                have hs3 := Lib.hid (HNo3.out _ (by omega) hs2.out)
                go_wp2
                all_goals (go_end0; exact ⟨rfl, by have := hs3.out; simpa using this⟩)
          · by_cases b3 : a < s
            · by_cases b4 : e < b
              · have z1 : ¬ (s : Int) < (m : Int) := by omega
                have z2 : ¬ (s : Int) < (mid : Int) := by omega
                have z3 : (a : Int) < (s : Int) := by omega
                have z4 : (e : Int) < (b : Int) := by omega
                have z5 : ¬ (m : Int) < (e : Int) := by omega
                have z6 : ¬ (mid : Int) < (e : Int) := by omega
                have hs1 := Lib.hid (HNo1.out _ (by omega) hs0.out)
                have hs2 := Lib.hid (HNo2.out _ (by omega) hs1.out)
                have hs3 := Lib.hid (HNo3.out _ (by omega) hs2.out)
                go_wp2
                all_goals (go_end0; exact ⟨rfl, by have := hs3.out; simpa using this⟩)
              · have z1 : ¬ (s : Int) < (m : Int) := by omega
                have z2 : ¬ (s : Int) < (mid : Int) := by omega
                have z3 : (a : Int) < (s : Int) := by omega
                have z4 : ¬ (e : Int) < (b : Int) := by omega
                have z5 : ¬ (m : Int) < (e : Int) := by omega
                have z6 : ¬ (mid : Int) < (e : Int) := by omega
                have hs1 := Lib.hid (HNo1.out _ (by omega) hs0.out)
                have hs2 := Lib.hid (HNo2.out _ (by omega) hs1.out)
                have hs3 := Lib.hid (HNo3.out _ (by omega) hs2.out)
                go_wp2
                all_goals (go_end0; exact ⟨rfl, by have := hs3.out; simpa using this⟩)
            · by_cases b4 : e < b
              · have z1 : ¬ (s : Int) < (m : Int) := by omega
                have z2 : ¬ (s : Int) < (mid : Int) := by omega
                have z3 : ¬ (a : Int) < (s : Int) := by omega
                have z4 : (e : Int) < (b : Int) := by omega
                have z5 : ¬ (m : Int) < (e : Int) := by omega
                have z6 : ¬ (mid : Int) < (e : Int) := by omega
                have hs1 := Lib.hid (HNo1.out _ (by omega) hs0.out)
                have hs2 := Lib.hid (HNo2.out _ (by omega) hs1.out)
                have hs3 := Lib.hid (HNo3.out _ (by omega) hs2.out)
                go_wp2
                all_goals (go_end0; exact ⟨rfl, by have := hs3.out; simpa using this⟩)
              · have z1 : ¬ (s : Int) < (m : Int) := by omega
                have z2 : ¬ (s : Int) < (mid : Int) := by omega
                have z3 : ¬ (a : Int) < (s : Int) := by omega
                have z4 : ¬ (e : Int) < (b : Int) := by omega
                have z5 : ¬ (m : Int) < (e : Int) := by omega
                have z6 : ¬ (mid : Int) < (e : Int) := by omega
                have hs1 := Lib.hid (HNo1.out _ (by omega) hs0.out)
                have hs2 := Lib.hid (HNo2.out _ (by omega) hs1.out)
                have hs3 := Lib.hid (HNo3.out _ (by omega) hs2.out)
                go_wp2
                all_goals (go_end0; exact ⟨rfl, by have := hs3.out; simpa using this⟩)


/-- symMerge: two sorted runs become one, stably. -/
theorem symR_all (n : Nat) : SymOk gf n := by
  induction n with
  | zero => intro w0 w g c N a m b A L R B h; omega
  | succ n ih =>
    intro w0 w g c N a m b A L R B hn h hN ha hm hb hL0 hR0 hL hR
    by_cases h1 : L.length = 1
    · obtain ⟨x, rfl⟩ := List.length_eq_one_iff.1 h1
      exact sym1_calls gf eg hcmp w0 w g c N a m b A R B x h hN ha (by simpa using hm) hb hR
    by_cases h2 : R.length = 1
    · obtain ⟨y, rfl⟩ := List.length_eq_one_iff.1 h2
      exact sym2_calls gf eg hcmp w0 w g c N a m b A L B y h hN ha hm (by simpa using hb) h1 hL
    · refine sym3_calls gf eg hcmp w0 w g c N a m b A L R B ?_ h hN ha hm hb (by omega) (by omega) hL hR
      intro w0' w' g' c' N' a' m' b' A' L' R' B' hlt
      exact ih w0' w' g' c' N' a' m' b' A' L' R' B' (by omega)
end
end Go.Proofs.Ytannjecmfbhkeaa
