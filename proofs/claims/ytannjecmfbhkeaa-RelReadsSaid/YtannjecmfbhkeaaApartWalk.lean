/- RelApart: what is done to one table changes no other one. -/
import Derived.Test.YtannjecmfbhkeaaRel3
import Derived.Test.YtannjecmfbhkeaaActs8
import Derived.Test.YtannjecmfbhkeaaApartPure
import Derived.Test.YtannjecmfbhkeaaTruncates
import Derived.StillTailTactics
namespace Go.Proofs.Ytannjecmfbhkeaa
open Go Go.RowKit Go.Lib Go.Maps
structure ApS (w : World) (pm bo bd pr : Nat) (aR : Option Addr) (cR : Nat) (phs : List Nat) (vb : Nat) (va : Option Addr) (vc : Nat) (own : Nat → Nat) (V : Nat → List Vr) (W : World) : Prop where
  K : K9 w own W
  M : MgrL own 1 W pm bo bd [1]
  R : RelL own 8 W pr aR cR phs
  V : HeapsL own W pm phs V
  b : VBox own 3 W vb vw1 va vc
/-- Behind what reads, and behind Run. -/
theorem ApS.gr {w : World} {pm bo bd pr : Nat} {aR : Option Addr} {cR : Nat} {phs : List Nat} {vb : Nat} {va : Option Addr} {vc : Nat} {own : Nat → Nat} {V : Nat → List Vr} {W W' : World} (h : ApS w pm bo bd pr aR cR phs vb va vc own V W) (g : Gr W W') : ApS w pm bo bd pr aR cR phs vb va vc own V W' :=
  ⟨h.K.step (g.stp 0 own) (by decide), h.M.keep (g.stp 0 own) (by decide), h.R.gr g, h.V.keep (g.stp 0 own) (by decide), h.b.keep (g.stp 0 own) (by decide)⟩
theorem ApS.ran {w : World} {pm bo bd pr : Nat} {aR : Option Addr} {cR : Nat} {phs : List Nat} {vb : Nat} {va : Option Addr} {vc : Nat} {own own' : Nat → Nat} {V V' : Nat → List Vr} {W W' : World} {i : Nat} (h : ApS w pm bo bd pr aR cR phs vb va vc own V W) (hV : HeapsL own' W' pm phs V') (s : Stp (20 + i) own own' W W') : ApS w pm bo bd pr aR cR phs vb va vc own' V' W' :=
  ⟨h.K.step s (by omega), h.M.keep s (by omega), h.R.keep s (by omega), hV, h.b.keep s (by omega)⟩
def xT : ByteArray := ⟨#[120]⟩
def ApA (w : World) (pm bo bd pr : Nat) (aR : Option Addr) (cR : Nat) (phs : List Nat) (vb : Nat) (va : Option Addr) (vc : Nat) (k : Nat) (W : World) : Prop :=
  ∃ own V, (∀ j : Nat, j < 4 → V j = if j < k then [⟨(j : Int), xT, 1, 0⟩] else []) ∧ ApS w pm bo bd pr aR cR phs vb va vc own V W
def ApB (w : World) (pm bo bd pr : Nat) (aR : Option Addr) (cR : Nat) (phs : List Nat) (vb : Nat) (va : Option Addr) (vc : Nat) (q k : Nat) (W : World) : Prop :=
  ∃ own V, (∀ j : Nat, j < 4 → j ≠ q → V j = [⟨(j : Int), xT, 1, 0⟩]) ∧ (V q).length ≤ 1 + k ∧ ApS w pm bo bd pr aR cR phs vb va vc own V W
theorem put_same {V : Nat → List Vr} {i : Nat} : (fun j => if j = i then V i else V j) = V := by
  funext j; by_cases h : j = i
  · rw [if_pos h, h]
  · rw [if_neg h]
set_option maxHeartbeats 16000000 in
set_option maxRecDepth 100000 in
theorem RelApart_walk (a0 : Option Addr) (n0 c0 : Nat) (t : Int) (w : World) (h0 : Act8In w a0 n0) (t0 : 0 ≤ t) (t1 : t < 256) :
    Calls Try.prog 9 #[.slice a0 n0 c0, .int .u8 t] w fun e w' => e = .returned (.bool true) ∧ Below w.heap.size w w' := by
  have K0 := K9.start w
  have H0 := Lib.hid h0
  obtain ⟨q, hq⟩ : ∃ q : Nat, t % 4 = q := ⟨(t % 4).toNat, by omega⟩
  have q4 : q < 4 := by omega
  clear h0
  go_enter Try.func9, Try.ntmps9
  go_wp2_with fail
  refine (row8_calls _).mono ?_
  rintro e w0 ⟨rfl, hb⟩
  have K := K0.step (Below.stp hb 0 _ 9) (by decide)
  clear K0 hb
  go_wp2_with fail
  refine (small8_calls _ a0 n0 c0 (K.acts8 H0.out)).mono ?_
  rintro e w01 ⟨b0, rfl, hb0, rfl⟩
  cases b0
  · clear hb0
    go_wp2_with fail
    refine (row8_calls _).mono ?_
    rintro e w1 ⟨rfl, hb⟩
    go_wp2
    go_ret
    exact ⟨rfl, K.bel.trans (hb.mono K.bel.size)⟩
  have hn0 := hb0 rfl
  clear hb0
  go_wp2_with fail
  refine (TxNew_L (lab (fun _ => 9) w.heap.size 9) 1 _).mono ?_
  rintro e w1 ⟨o1, pm, bo, bd, rfl, hM, s1⟩
  replace K := K.step s1 (by decide)
  clear s1
  go_wp2_with fail
  refine (RNew_L o1 8 (by decide) _ pm 4 4 (by decide) (by decide) rfl).mono ?_
  rintro e w2 ⟨pr, o2, phs, aR, cR, rfl, hl, hR, hV, s1⟩
  replace K := K.step s1 (by decide)
  replace hM := hM.keep s1 (by decide)
  have HL := Lib.hid hl
  clear s1 hl
  go_wp2_with fail
  refine (Begin_L o2 1 _ pm bo bd _ hM).mono ?_
  rintro e w3 ⟨he, hM0, s1⟩
  obtain rfl : e = .returned (.tuple #[.int .i64 1, .int .i64 0]) := he
  replace K := K.step s1 (by decide)
  replace hR := hR.keep s1 (by decide)
  replace hV := hV.keep s1 (by decide)
  replace hM : MgrL o2 1 w3 pm bo bd [1] := hM0
  clear s1 hM0
  go_wp2_with fail
  refine (Now_L o2 1 3 _ pm bo bd _ hM).mono ?_
  rintro e w4 ⟨o4, av, cv, he, hv0, s1⟩
  obtain rfl : e = .returned (.agg #[.int .i64 2, .slice av 1 cv]) := he
  replace K := K.step s1 (by decide)
  replace hM := hM.keep s1 (by decide)
  replace hR := hR.keep s1 (by decide)
  replace hV := hV.keep s1 (by decide)
  have hv : ViewL o4 3 w4 ⟨2, [1], 1⟩ av cv := hv0 1
  clear s1 hv0
  go_wp2_with fail
  obtain ⟨o5, w5, vb, hw, hvb, hb, s1⟩ := VBox.new hv
  dsimp only [List.length] at hw
  rw [hw, hvb]
  clear hw hvb
  replace K := K.step s1 (by decide)
  replace hM := hM.keep s1 (by decide)
  replace hR := hR.keep s1 (by decide)
  replace hV := hV.keep s1 (by decide)
  clear s1
  have HI : Hid (ApA w pm bo bd pr aR cR phs vb av cv 0 w5) := ⟨o5, fun _ => [], fun j _ => by simp, ⟨K, hM, hR, hV, hb⟩⟩
  clear K hM hR hV hb hv hq
  go_loopw [11] (fun vi W => ∃ k : Nat, vi = .int .i64 k ∧ k ≤ 4 ∧ Hid (ApA w pm bo bd pr aR cR phs vb av cv k W)) (fun vi _ => 4 - (RowKit.intOf vi).toNat)
  case atStart => exact ⟨0, rfl, by omega, HI⟩
  case round =>
    clear HI
    obtain ⟨k, rfl, hk, hI⟩ := hrel
    by_cases hlt : k < 4
    · have hltz : (k : Int) < 4 := by omega
      obtain ⟨own, V, hVk, S⟩ := hI.out
      obtain ⟨p, hp⟩ : ∃ p, phs[k]? = some p := ⟨_, List.getElem?_eq_getElem (by rw [HL.out]; omega)⟩
      have hb0 := S.b.c0
      have hb1 := S.b.c1
      have hb2 := S.b.c2
      dsimp only at hb0 hb1 hb2
      have HVK := Lib.hid hVk
      have HS := Lib.hid S
      have HP := Lib.hid hp
      clear hI hVk S hp
      go_wp2_with fail
      refine (Run_L (q := 6) (i := 1) (k := 3) (kr := 8) 1 k p ((k : Int), xT) HS.out.R HS.out.V HS.out.M (by decide) HS.out.b.vw (by decide) HP.out (by decide) (by decide) (Or.inl (show xT.size ≤ 40 by decide)) (show xT.size ≤ 9223372036854775807 by decide) (by decide) (wfI_iff.2 (by show _ ≤ (k : Int) ∧ (k : Int) ≤ _; omega)) (by rw [HVK.out k hlt, if_neg (by omega)]; decide)).mono ?_
      rintro e w6 ⟨o6, ar, cr, rfl, _, hV6, s1⟩
      have HI2 : Hid (ApA w pm bo bd pr aR cR phs vb av cv (k + 1) w6) := ⟨o6, _, fun j hj => by
        by_cases e : j = k
        · subst e
          simp only [if_true]
          rw [if_pos (by omega), HVK.out j hj, if_neg (by omega)]
          exact insV_first _
        · simp only [e, if_false]
          rw [HVK.out j hj]
          by_cases h2 : j < k
          · rw [if_pos h2, if_pos (by omega)]
          · rw [if_neg h2, if_neg (by omega)], HS.out.ran hV6 s1⟩
      generalize (runR [1] vw1 (V k) 1 ((k : Int), xT)) = X
      clear hV6 s1 hb0 hb1 hb2
      go_wp2
      go_roundw
      case rel => exact ⟨k + 1, by go_num, by omega, HI2⟩
      case measure => simp [RowKit.intOf]; omega
    · have hltz : ¬ (k : Int) < 4 := by omega
      obtain rfl : k = 4 := by omega
      have HI : Hid (ApB w pm bo bd pr aR cR phs vb av cv q 0 wr) := by
        obtain ⟨own, V, hVk, S⟩ := hI.out
        exact ⟨own, V, fun j hj _ => by rw [hVk j hj, if_pos hj], by rw [hVk q q4, if_pos q4]; simp, S⟩
      clear hI
      go_wp2
      go_loopw [12] (fun vi W => ∃ k : Nat, vi = .int .i64 k ∧ k ≤ n0 ∧ Hid (ApB w pm bo bd pr aR cR phs vb av cv q k W)) (fun vi _ => n0 - (RowKit.intOf vi).toNat)
      case atStart => exact ⟨0, rfl, Nat.zero_le _, HI⟩
      case round =>
        clear HI
        obtain ⟨k, rfl, hk, hI⟩ := hrel
        by_cases hlt : k < n0
        · have hltz : (k : Int) < (n0 : Int) := by omega
          obtain ⟨own, V, hVk, hVl, S⟩ := hI.out
          obtain ⟨x, rfl, hx⟩ := H0.out.at hlt
          obtain ⟨d, qq, kd, tb, z, s, f0, f1, f2, f3, f4, f5, _, _, hkd, _, hwz, hs⟩ := hx.bel S.K.bel
          obtain ⟨p, hp⟩ : ∃ p, phs[q]? = some p := ⟨_, List.getElem?_eq_getElem (by rw [HL.out]; omega)⟩
          have hw2 := wfI_iff.1 hwz
          have hbd : -5 < z.tmod 5 ∧ z.tmod 5 < 5 := tmod_bd z 5 (by decide)
          obtain ⟨kd0, kd1⟩ := hkd
          have hb0 := S.b.c0
          have hb1 := S.b.c1
          have hb2 := S.b.c2
          dsimp only at hb0 hb1 hb2
          have HVK := Lib.hid (And.intro hVk hVl)
          have HS := Lib.hid S
          have HP := Lib.hid hp
          have HSZ : s.size ≤ 9223372036854775807 := by unfold maxLen at hs; omega
          clear hI hVk hVl S hp hx hwz f0 f1 f3 hs
          by_cases hbig : s.size ≤ 40 ∨ 3 ≤ 1 + kd % 6
          · go_wp2_with fail
            go_still_tail 23, (by kernel_rfl)
            change wpList _ _ _ _ _ wr.drew
            have hg : Gr wr wr.drew := Gr.drew wr
            generalize wr.drew = w5 at hg
            have S := HS.out.gr hg
            clear HS hg
            go_wp2_with fail
            refine (Run_L (q := 6) (i := 1) (k := 3) (kr := 8) (1 + kd % 6) q p (z.tmod 5, s) S.R S.V S.M (by decide) S.b.vw (by decide) HP.out (by omega) (by omega) hbig HSZ (by decide) (wfI_iff.2 (by show _ ≤ z.tmod 5 ∧ z.tmod 5 ≤ _; omega)) (by have := HVK.out.2; omega)).mono ?_
            rintro e w6 ⟨o6, ar, cr, rfl, _, hV6, s1⟩
            have HI2 : Hid (ApB w pm bo bd pr aR cR phs vb av cv q (k + 1) w6) := ⟨o6, _, fun j hj hne => by
              simp only [hne, if_false]; exact HVK.out.1 j hj hne, by
              simp only [if_true]
              have := runR_len (t := [1]) (v := vw1) (vs := V q) (kind := 1 + kd % 6) (r := (z.tmod 5, s))
              have := HVK.out.2
              omega, S.ran hV6 s1⟩
            generalize (runR [1] vw1 (V q) (1 + kd % 6) (z.tmod 5, s)) = X
            clear hV6 s1 hb0 hb1 hb2 S
            go_wp2
            go_roundw
            case rel => exact ⟨k + 1, by go_num, by omega, HI2⟩
            case measure => simp [RowKit.intOf]; omega
          · have HBG := Lib.hid hbig
            clear hbig
            go_wp2_with fail
            go_still_tail 23, (by kernel_rfl)
            change wpList _ _ _ _ _ wr.drew
            have hg : Gr wr wr.drew := Gr.drew wr
            generalize wr.drew = w5 at hg
            have S := HS.out.gr hg
            clear HS hg
            go_wp2_with fail
            refine (Run_bad own 8 w5 pr aR cR phs S.R ⟨2, [1], 1⟩ av cv (1 + kd % 6) q (z.tmod 5, s) (by omega) (by omega) (by unfold badS; have := HBG.out; simp only; omega) HSZ).mono ?_
            rintro e w6 ⟨rfl, hg⟩
            have HI2 : Hid (ApB w pm bo bd pr aR cR phs vb av cv q (k + 1) w6) := ⟨own, V, HVK.out.1, by have := HVK.out.2; omega, S.gr hg⟩
            clear hg hb0 hb1 hb2 S
            go_wp2
            go_roundw
            case rel => exact ⟨k + 1, by go_num, by omega, HI2⟩
            case measure => simp [RowKit.intOf]; omega
        · have hltz : ¬ (k : Int) < (n0 : Int) := by omega
          have HI : Hid (ApB w pm bo bd pr aR cR phs vb av cv q 100 wr) := by
            obtain ⟨own, V, h1, h2, S⟩ := hI.out
            exact ⟨own, V, h1, by omega, S⟩
          clear hI
          go_wp2
          go_loopw [13] (fun vi W => ∃ k : Nat, vi = .int .i64 k ∧ k ≤ 4 ∧ Hid (ApB w pm bo bd pr aR cR phs vb av cv q 100 W)) (fun vi _ => 4 - (RowKit.intOf vi).toNat)
          case atStart => exact ⟨0, rfl, by omega, HI⟩
          case round =>
            clear HI
            obtain ⟨k, rfl, hk, hI⟩ := hrel
            by_cases hlt : k < 4
            · have hltz : (k : Int) < 4 := by omega
              obtain ⟨own, V, hVk, hVl, S⟩ := hI.out
              obtain ⟨p, hp⟩ : ∃ p, phs[k]? = some p := ⟨_, List.getElem?_eq_getElem (by rw [HL.out]; omega)⟩
              have hb0 := S.b.c0
              have hb1 := S.b.c1
              have hb2 := S.b.c2
              dsimp only at hb0 hb1 hb2
              have HVK := Lib.hid (And.intro hVk hVl)
              have HS := Lib.hid S
              have HP := Lib.hid hp
              clear hI hVk hVl S hp
              have hlen : (V k).length < 100000000 := by
                by_cases e : k = q
                · rw [e]; have := HVK.out.2; omega
                · rw [HVK.out.1 k hlt e]; simp
              by_cases e : k = q
              · subst e
                go_wp2_with fail
                refine (Run_L (q := 6) (i := 1) (k := 3) (kr := 8) 6 k p ((0 : Int), ⟨#[]⟩) HS.out.R HS.out.V HS.out.M (by decide) HS.out.b.vw (by decide) HP.out (by decide) (by decide) (Or.inl (by decide)) (by decide) (by decide) (by decide) hlen).mono ?_
                rintro e w6 ⟨o6, ar, cr, rfl, _, hV6, s1⟩
                rw [runR_six] at hV6 ⊢
                simp only [put_same] at hV6
                dsimp only
                have HI2 : Hid (ApB w pm bo bd pr aR cR phs vb av cv k 100 w6) := ⟨o6, V, HVK.out.1, HVK.out.2, HS.out.ran hV6 s1⟩
                clear hV6 s1 hb0 hb1 hb2
                go_wp2
                go_roundw
                case rel => exact ⟨k + 1, by go_num, by omega, HI2⟩
                case measure => simp [RowKit.intOf]; omega
              · have hne : ((k : Int) == (q : Int)) = false := by simp; omega
                have hne2 : ((k : Int) != (q : Int)) = true := by simp; omega
                have hne3 : ¬ (k : Int) = (q : Int) := by omega
                have HNE := Lib.hid e
                clear e
                go_wp2_with fail
                refine (Run_L (q := 6) (i := 1) (k := 3) (kr := 8) 6 k p ((0 : Int), ⟨#[]⟩) HS.out.R HS.out.V HS.out.M (by decide) HS.out.b.vw (by decide) HP.out (by decide) (by decide) (Or.inl (by decide)) (by decide) (by decide) (by decide) hlen).mono ?_
                rintro e w6 ⟨o6, ar, cr, rfl, hr6, hV6, s1⟩
                rw [runR_six] at hV6 hr6 ⊢
                simp only [put_same] at hV6
                dsimp only at hr6 ⊢
                rw [HVK.out.1 k hlt HNE.out, scan_one ((k : Int), xT)] at hr6 ⊢
                obtain ⟨g, rfl, c0, _⟩ := RowRow.at hr6.ok (k := 0) (x := ((k : Int), xT)) rfl
                simp only [Nat.zero_mul] at c0
                have HI2 : Hid (ApB w pm bo bd pr aR cR phs vb av cv q 100 w6) := ⟨o6, V, HVK.out.1, HVK.out.2, HS.out.ran hV6 s1⟩
                clear hV6 s1 hb0 hb1 hb2 hr6
                go_wp2
                go_roundw
                case rel => exact ⟨k + 1, by go_num, by omega, HI2⟩
                case measure => simp [RowKit.intOf]; omega
            · have hltz : ¬ (k : Int) < 4 := by omega
              obtain ⟨own, V, _, _, S⟩ := hI.out
              have HB := Lib.hid S.K.bel
              clear S hI
              go_wp2
              go_ret
              exact ⟨rfl, HB.out⟩
end Go.Proofs.Ytannjecmfbhkeaa
