/- Package rel: Run, whatever it is asked. -/
import Derived.Test.YtannjecmfbhkeaaRel
import Derived.Test.YtannjecmfbhkeaaU8
namespace Go.Proofs.Ytannjecmfbhkeaa
open Go Go.RowKit Go.Lib Go.Maps
section
variable (own : Nat → Nat) (k : Nat) (w : World) (pr : Nat) (a : Option Addr) (c : Nat) (phs : List Nat)
def badS (n : Nat) (kind table : Int) (r : Rw) : Prop := kind < 1 ∨ 6 < kind ∨ table < 0 ∨ (n : Int) ≤ table ∨ (40 < r.2.size ∧ kind < 3)
set_option maxHeartbeats 3200000 in
theorem right_no (h : RelL own k w pr a c phs) (kind table : Int) (r : Rw) (k0 : 0 ≤ kind) (k256 : kind < 256) (hb : badS phs.length kind table r) (hm : r.2.size ≤ 9223372036854775807) :
    Calls Try.prog 60 #[.pointer (some ⟨pr, 0, none⟩), stmV kind table r] w fun e w' => e = .returned (.bool false) ∧ w.alloc (.cells #[.int .u8 kind, .int .i64 table, .int .i64 r.1, .string r.2] 66) = w' := by
  have hn : (table < 0 ∨ (phs.length : Int) ≤ table) → ∀ W, Gr w W → Calls Try.prog 32 #[.pointer (some ⟨pr, 0, none⟩), .int .i64 table] W fun e w' => e = .returned (.pointer none) ∧ W = w' :=
    fun ht W hg => RHeap_none own k W pr a c phs (h.gr hg) table ht
  have hy : ¬ (table < 0 ∨ (phs.length : Int) ≤ table) → ∃ p : Nat, ∀ W, Gr w W → Calls Try.prog 32 #[.pointer (some ⟨pr, 0, none⟩), .int .i64 table] W fun e w' => e = .returned (.pointer (some ⟨p, 0, none⟩)) ∧ W = w' := fun ht => by
    obtain ⟨i, rfl⟩ : ∃ i : Nat, table = i := ⟨table.toNat, by omega⟩
    obtain ⟨p, hp⟩ : ∃ p, phs[i]? = some p := ⟨_, List.getElem?_eq_getElem (by omega)⟩
    exact ⟨p, fun W hg => RHeap_calls own k W pr a c phs (h.gr hg) i p hp⟩
  have HN := Lib.hid hn
  have HY := Lib.hid hy
  obtain ⟨key, text⟩ := r
  unfold badS at hb
  simp only at hb hm
  clear h hn hy
  by_cases h40 : text.size ≤ 40
  · have h40z : (text.size : Int) ≤ 40 := by omega
    have h40b : decide (40 < text.size) = false := decide_eq_false (by omega)
    by_cases kl : kind < 1
    · clear hb HN HY
      go_enter Try.func60, Try.ntmps60
      go_wp2
      go_ret
      exact ⟨rfl, rfl⟩
    by_cases kh : 6 < kind
    · clear hb HN HY
      go_enter Try.func60, Try.ntmps60
      go_wp2
      go_ret
      exact ⟨rfl, rfl⟩
    by_cases ht : table < 0 ∨ (phs.length : Int) ≤ table
    · have HC := Lib.hid (HN.out ht)
      clear hb HN HY ht
      go_enter Try.func60, Try.ntmps60
      go_wp2_with (go_at_call 32; refine (HC.out _ (by exact Gr.alloc _ _)).mono ?_; rintro e w' ⟨rfl, rfl⟩)
      go_ret
      exact ⟨rfl, rfl⟩
    · obtain ⟨q, hc⟩ := HY.out ht
      have HC := Lib.hid hc
      exfalso; omega
  · have h40z : (40 : Int) < (text.size : Int) := by omega
    by_cases e1 : kind = 1
    · subst e1
      by_cases ht : table < 0 ∨ (phs.length : Int) ≤ table
      · have HC := Lib.hid (HN.out ht)
        clear hb HN HY ht
        go_enter Try.func60, Try.ntmps60
        go_wp2_with (go_at_call 32; refine (HC.out _ (by exact Gr.alloc _ _)).mono ?_; rintro e w' ⟨rfl, rfl⟩)
        go_ret
        exact ⟨rfl, rfl⟩
      · obtain ⟨q, hc⟩ := HY.out ht
        have HC := Lib.hid hc
        clear hb HN HY hc ht
        go_enter Try.func60, Try.ntmps60
        go_wp2_with (go_at_call 32; refine (HC.out _ (by exact Gr.alloc _ _)).mono ?_; rintro e w' ⟨rfl, rfl⟩)
        go_ret
        exact ⟨rfl, rfl⟩
    by_cases e2 : kind = 2
    · subst e2
      by_cases ht : table < 0 ∨ (phs.length : Int) ≤ table
      · have HC := Lib.hid (HN.out ht)
        clear hb HN HY ht
        go_enter Try.func60, Try.ntmps60
        go_wp2_with (go_at_call 32; refine (HC.out _ (by exact Gr.alloc _ _)).mono ?_; rintro e w' ⟨rfl, rfl⟩)
        go_ret
        exact ⟨rfl, rfl⟩
      · obtain ⟨q, hc⟩ := HY.out ht
        have HC := Lib.hid hc
        clear hb HN HY hc ht
        go_enter Try.func60, Try.ntmps60
        go_wp2_with (go_at_call 32; refine (HC.out _ (by exact Gr.alloc _ _)).mono ?_; rintro e w' ⟨rfl, rfl⟩)
        go_ret
        exact ⟨rfl, rfl⟩
    have f1 : (kind == 1) = false := by simpa using e1
    have f2 : (kind == 2) = false := by simpa using e2
    have e3 : 3 ≤ kind ∨ kind < 1 := by omega
    clear e1 e2
    by_cases kl : kind < 1
    · clear hb HN HY e3
      go_enter Try.func60, Try.ntmps60
      go_wp2
      go_ret
      exact ⟨rfl, rfl⟩
    have k3 : 3 ≤ kind := by omega
    clear e3
    by_cases kh : 6 < kind
    · clear hb HN HY
      go_enter Try.func60, Try.ntmps60
      go_wp2
      go_ret
      exact ⟨rfl, rfl⟩
    by_cases ht : table < 0 ∨ (phs.length : Int) ≤ table
    · have HC := Lib.hid (HN.out ht)
      clear hb HN HY ht
      go_enter Try.func60, Try.ntmps60
      go_wp2_with (go_at_call 32; refine (HC.out _ (by exact Gr.alloc _ _)).mono ?_; rintro e w' ⟨rfl, rfl⟩)
      go_ret
      exact ⟨rfl, rfl⟩
    · exfalso; omega
end
/-- How many versions. -/
theorem HLen_calls (w : World) (pm bo bd : Nat) (t : TS) (ph : Nat) (a : Option Addr) (c : Nat) (vs : List Vr) (hH : Hp w pm bo bd t ph a c vs) :
    Calls Try.prog 27 #[.pointer (some ⟨ph, 0, none⟩)] w fun e w' => e = .returned (.int .i64 vs.length) ∧ w = w' := by
  have hN := none_calls w pm bo bd t ph a c vs hH
  have h1 := hH.h1
  have HN := Lib.hid hN
  clear hN hH
  go_enter Try.func27, Try.ntmps27
  go_wp2_with (go_at_call 44; refine HN.out.mono ?_; rintro e w' ⟨rfl, rfl⟩)
  go_ret
  exact ⟨rfl, rfl⟩
/-- What a statement tells: rows, an error, what the table holds then. -/
def runR (t : TS) (v : Vw) (vs : List Vr) (kind : Int) (r : Rw) : List Rw × Int × List Vr :=
  if kind = 1 then ([], insE t v vs r.1, insV t v vs r) else if kind = 2 then ([], killE t v vs r.1, updV t v vs r) else if kind = 3 then ([], killE t v vs r.1, killV t v vs r.1)
  else if kind = 4 then (truncL t v vs, truncE t v vs, truncV t v vs) else if kind = 5 then (match getR t v vs r.1 with
    | some x => ([x], 0, vs)
    | none => ([], 4, vs)) else (scanL t v vs, 0, vs)
/-- What Run leaves. -/
def RunL (own : Nat → Nat) (q : Nat) (w : World) (pm : Nat) (phs : List Nat) (V : Nat → List Vr) (i : Nat) (x : List Rw × Int × List Vr) (e : Ending) (w' : World) : Prop :=
  ∃ own' ar cr, e = .returned (.tuple #[.slice ar x.1.length cr, .int .i64 x.2.1]) ∧ RowL own' q w' ar cr x.1 ∧ HeapsL own' w' pm phs (fun j => if j = i then x.2.2 else V j) ∧ Stp (20 + i) own own' w w'
theorem RowL.nil (own : Nat → Nat) (q : Nat) (w : World) : RowL own q w none 0 [] := ⟨World.ownsRow_nil _ _ _ _, fun _ h => by cases h⟩
theorem RowL.one {own : Nat → Nat} {q : Nat} {w : World} {r : Rw} : RowL (lab own w.heap.size q) q (w.alloc (.cells #[.int .i64 r.1, .string r.2] 38)) (some ⟨w.heap.size, 0, none⟩) 1 [r] :=
  ⟨⟨rfl, .inr ⟨w.heap.size, 1, #[.int .i64 r.1, .string r.2], rfl, Nat.zero_le _, heap_alloc_new w _, by simp, by unfold maxLen; simp, rfl, rfl⟩⟩, fun b hb => by cases hb; exact lab_new (Nat.le_refl _)⟩
section
variable {own : Nat → Nat} {i k kr q : Nat} {w : World} {pm bo bd pr : Nat} {t : TS} {a : Option Addr} {c : Nat} {phs : List Nat} {V : Nat → List Vr} {v : Vw} {va : Option Addr} {vc : Nat}
/-- A write, met behind blocks that were laid. -/
theorem WrL.run {x : List Rw × Int × List Vr} {ti p : Nat} {w1 w' : World} (hg : Gr w w1) (hV : HeapsL own w pm phs V) (hp : phs[ti]? = some p) (h : WrL own (20 + ti) w1 p pm x.2.2 w') (hx : x.1 = []) :
    RunL own q w pm phs V ti x (.returned (.tuple #[.slice none 0 0, .int .i64 x.2.1])) w' := by
  obtain ⟨own', a', c', h1, h2⟩ := h
  have s := (hg.stp (20 + ti) own).trans h2
  exact ⟨own', none, 0, by rw [hx]; rfl, by rw [hx]; exact RowL.nil _ _ _, hV.put hp s h1, s⟩
/-- A reader. -/
theorem Stp.run {x : List Rw × Int × List Vr} {ti p : Nat} {own' : Nat → Nat} {w' : World} {ar : Option Addr} {cr : Nat} (hV : HeapsL own w pm phs V) (hp : phs[ti]? = some p) (s0 : ∀ i, Stp i own own' w w') (hx : x.2.2 = V ti) (hR : RowL own' q w' ar cr x.1) :
    RunL own q w pm phs V ti x (.returned (.tuple #[.slice ar x.1.length cr, .int .i64 x.2.1])) w' := by
  refine ⟨own', ar, cr, rfl, hR, ?_, s0 _⟩
  obtain ⟨b, d, hH⟩ := hV ti p hp
  rw [hx]
  exact hV.put hp (s0 _) (hH.keep (s0 0) (by omega))
set_option maxHeartbeats 6400000 in
theorem Run_L (kind : Int) (ti p : Nat) (r : Rw) (hR : RelL own kr w pr a c phs) (hV : HeapsL own w pm phs V) (hM : MgrL own i w pm bo bd t) (hi : i < 20) (hv : ViewL own k w v va vc) (hk : k < 20)
    (hp : phs[ti]? = some p) (k1 : 1 ≤ kind) (k6 : kind ≤ 6) (hs : r.2.size ≤ 40 ∨ 3 ≤ kind) (hm : r.2.size ≤ 9223372036854775807) (ho : wfI v.own) (hr : wfI r.1) (hlim : (V ti).length < 100000000) :
    Calls Try.prog 31 #[.pointer (some ⟨pr, 0, none⟩), vwV v va vc, stmV kind ti r] w fun e w' => RunL own q w pm phs V ti (runR t v (V ti) kind r) e w' := by
  obtain ⟨aH, cH, hH⟩ := hV ti p hp
  have hij : i ≠ 20 + ti := by omega
  have hkj : k ≠ 20 + ti := by omega
  have hri : ∀ W, Gr w W → Calls Try.prog 60 #[.pointer (some ⟨pr, 0, none⟩), stmV kind ti r] W fun e w' => e = .returned (.bool true) ∧ W.alloc (.cells #[.int .u8 kind, .int .i64 ti, .int .i64 r.1, .string r.2] 66) = w' :=
    fun W hg => right_yes own kr W pr a c phs (hR.gr hg) kind ti p r hp k1 k6 hs hm
  have hhe : ∀ W, Gr w W → Calls Try.prog 32 #[.pointer (some ⟨pr, 0, none⟩), .int .i64 ti] W fun e w' => e = .returned (.pointer (some ⟨p, 0, none⟩)) ∧ W = w' :=
    fun W hg => RHeap_calls own kr W pr a c phs (hR.gr hg) ti p hp
  have HRI := Lib.hid hri
  have HHE := Lib.hid hhe
  have HA := Lib.hid (And.intro hV (And.intro hM (And.intro hv (And.intro hH hp))))
  have HO := Lib.hid (And.intro ho hr)
  obtain ⟨key, text⟩ := r
  simp only at hm
  clear hri hhe hR hV hM hv hH hp hs ho hr
  rcases (show kind = 1 ∨ kind = 2 ∨ kind = 3 ∨ kind = 4 ∨ kind = 5 ∨ kind = 6 by omega) with rfl | rfl | rfl | rfl | rfl | rfl
  all_goals clear k1 k6
  · rw [show runR t v (V ti) 1 (key, text) = ([], insE t v (V ti) key, insV t v (V ti) (key, text)) from rfl]
    go_enter Try.func31, Try.ntmps31
    go_wp2_with fail
    refine (HRI.out _ ((Gr.alloc _ _).trans (Gr.alloc _ _))).mono ?_
    rintro e w1 ⟨rfl, rfl⟩
    go_wp2_with fail
    refine (HHE.out _ (((Gr.alloc _ _).trans (Gr.alloc _ _)).trans (Gr.alloc _ _))).mono ?_
    rintro e w1 ⟨rfl, rfl⟩
    go_wp2_with fail
    have hg : Gr w (((w.alloc (.cells #[.int .i64 v.max, .slice va v.opn.length vc, .int .i64 v.own] 35)).alloc (.cells #[.int .u8 1, .int .i64 ti, .int .i64 key, .string text] 66)).alloc (.cells #[.int .u8 1, .int .i64 ti, .int .i64 key, .string text] 66)) := ((Gr.alloc _ _).trans (Gr.alloc _ _)).trans (Gr.alloc _ _)
    generalize ((w.alloc (.cells #[.int .i64 v.max, .slice va v.opn.length vc, .int .i64 v.own] 35)).alloc (.cells #[.int .u8 1, .int .i64 ti, .int .i64 key, .string text] 66)).alloc (.cells #[.int .u8 1, .int .i64 ti, .int .i64 key, .string text] 66) = w3 at hg ⊢
    obtain ⟨hV, hM, hv, hH, hp⟩ := HA.out
    refine (Insert_L (r := (key, text)) (hM := hM.keep (hg.stp 100 own) (by omega)) (hH := hH.keep (hg.stp 0 own) (by omega)) (hij := hij) (hv := hv.keep (hg.stp 100 own) (by omega)) (ho := HO.out.1) (hr := HO.out.2) (hlim := hlim)).mono ?_
    rintro e w4 ⟨rfl, hW⟩
    have F := Lib.hid (WrL.run (q := q) (x := ([], insE t v (V ti) key, insV t v (V ti) (key, text))) hg hV hp hW rfl)
    clear hg hV hM hv hH hp hW
    go_wp2
    go_ret2
    exact F.out
  · rw [show runR t v (V ti) 2 (key, text) = ([], killE t v (V ti) key, updV t v (V ti) (key, text)) from rfl]
    go_enter Try.func31, Try.ntmps31
    go_wp2_with fail
    refine (HRI.out _ ((Gr.alloc _ _).trans (Gr.alloc _ _))).mono ?_
    rintro e w1 ⟨rfl, rfl⟩
    go_wp2_with fail
    refine (HHE.out _ (((Gr.alloc _ _).trans (Gr.alloc _ _)).trans (Gr.alloc _ _))).mono ?_
    rintro e w1 ⟨rfl, rfl⟩
    go_wp2_with fail
    have hg : Gr w (((w.alloc (.cells #[.int .i64 v.max, .slice va v.opn.length vc, .int .i64 v.own] 35)).alloc (.cells #[.int .u8 2, .int .i64 ti, .int .i64 key, .string text] 66)).alloc (.cells #[.int .u8 2, .int .i64 ti, .int .i64 key, .string text] 66)) := ((Gr.alloc _ _).trans (Gr.alloc _ _)).trans (Gr.alloc _ _)
    generalize ((w.alloc (.cells #[.int .i64 v.max, .slice va v.opn.length vc, .int .i64 v.own] 35)).alloc (.cells #[.int .u8 2, .int .i64 ti, .int .i64 key, .string text] 66)).alloc (.cells #[.int .u8 2, .int .i64 ti, .int .i64 key, .string text] 66) = w3 at hg ⊢
    obtain ⟨hV, hM, hv, hH, hp⟩ := HA.out
    refine (Update_L (r := (key, text)) (hM := hM.keep (hg.stp 100 own) (by omega)) (hH := hH.keep (hg.stp 0 own) (by omega)) (hij := hij) (hv := hv.keep (hg.stp 100 own) (by omega)) (ho := HO.out.1) (hr := HO.out.2) (hlim := hlim)).mono ?_
    rintro e w4 ⟨rfl, hW⟩
    have F := Lib.hid (WrL.run (q := q) (x := ([], killE t v (V ti) key, updV t v (V ti) (key, text))) hg hV hp hW rfl)
    clear hg hV hM hv hH hp hW
    go_wp2
    go_ret2
    exact F.out
  · rw [show runR t v (V ti) 3 (key, text) = ([], killE t v (V ti) key, killV t v (V ti) key) from rfl]
    go_enter Try.func31, Try.ntmps31
    go_wp2_with fail
    refine (HRI.out _ ((Gr.alloc _ _).trans (Gr.alloc _ _))).mono ?_
    rintro e w1 ⟨rfl, rfl⟩
    go_wp2_with fail
    refine (HHE.out _ (((Gr.alloc _ _).trans (Gr.alloc _ _)).trans (Gr.alloc _ _))).mono ?_
    rintro e w1 ⟨rfl, rfl⟩
    go_wp2_with fail
    have hg : Gr w (((w.alloc (.cells #[.int .i64 v.max, .slice va v.opn.length vc, .int .i64 v.own] 35)).alloc (.cells #[.int .u8 3, .int .i64 ti, .int .i64 key, .string text] 66)).alloc (.cells #[.int .u8 3, .int .i64 ti, .int .i64 key, .string text] 66)) := ((Gr.alloc _ _).trans (Gr.alloc _ _)).trans (Gr.alloc _ _)
    generalize ((w.alloc (.cells #[.int .i64 v.max, .slice va v.opn.length vc, .int .i64 v.own] 35)).alloc (.cells #[.int .u8 3, .int .i64 ti, .int .i64 key, .string text] 66)).alloc (.cells #[.int .u8 3, .int .i64 ti, .int .i64 key, .string text] 66) = w3 at hg ⊢
    obtain ⟨hV, hM, hv, hH, hp⟩ := HA.out
    refine (Delete_L (key := key) (hM := hM.keep (hg.stp 100 own) (by omega)) (hH := hH.keep (hg.stp 0 own) (by omega)) (hij := hij) (hv := hv.keep (hg.stp 100 own) (by omega)) (ho := HO.out.1)).mono ?_
    rintro e w4 ⟨rfl, hW⟩
    have F := Lib.hid (WrL.run (q := q) (x := ([], killE t v (V ti) key, killV t v (V ti) key)) hg hV hp hW rfl)
    clear hg hV hM hv hH hp hW
    go_wp2
    go_ret2
    exact F.out
  · rw [show runR t v (V ti) 4 (key, text) = (truncL t v (V ti), truncE t v (V ti), truncV t v (V ti)) from rfl]
    go_enter Try.func31, Try.ntmps31
    go_wp2_with fail
    refine (HRI.out _ ((Gr.alloc _ _).trans (Gr.alloc _ _))).mono ?_
    rintro e w1 ⟨rfl, rfl⟩
    go_wp2_with fail
    refine (HHE.out _ (((Gr.alloc _ _).trans (Gr.alloc _ _)).trans (Gr.alloc _ _))).mono ?_
    rintro e w1 ⟨rfl, rfl⟩
    go_wp2_with fail
    have hg : Gr w (((w.alloc (.cells #[.int .i64 v.max, .slice va v.opn.length vc, .int .i64 v.own] 35)).alloc (.cells #[.int .u8 4, .int .i64 ti, .int .i64 key, .string text] 66)).alloc (.cells #[.int .u8 4, .int .i64 ti, .int .i64 key, .string text] 66)) := ((Gr.alloc _ _).trans (Gr.alloc _ _)).trans (Gr.alloc _ _)
    generalize ((w.alloc (.cells #[.int .i64 v.max, .slice va v.opn.length vc, .int .i64 v.own] 35)).alloc (.cells #[.int .u8 4, .int .i64 ti, .int .i64 key, .string text] 66)).alloc (.cells #[.int .u8 4, .int .i64 ti, .int .i64 key, .string text] 66) = w3 at hg ⊢
    obtain ⟨hV, hM, hv, hH, hp⟩ := HA.out
    refine (Truncate_L (q := q) (hM := hM.keep (hg.stp 100 own) (by omega)) (hH := hH.keep (hg.stp 0 own) (by omega)) (hij := hij) (hv := hv.keep (hg.stp 100 own) (by omega)) (hkj := hkj) (ho := HO.out.1)).mono ?_
    rintro e w4 ⟨own2, ar, cr, a2, c2, rfl, hr, hH2, s1⟩
    have s := (hg.stp (20 + ti) own).trans s1
    have F : Hid (RunL own q w pm phs V ti (truncL t v (V ti), truncE t v (V ti), truncV t v (V ti)) (.returned (.tuple #[.slice ar (truncL t v (V ti)).length cr, .int .i64 (truncE t v (V ti))])) w4) := ⟨own2, ar, cr, rfl, hr, hV.put hp s hH2, s⟩
    clear hg hV hM hv hH hp hr hH2 s1 s
    go_wp2
    go_ret2
    exact F.out
  · have HG : Hid _ := fun (w3 : World) (hg : Gr w w3) (hM : MgrL own i w pm bo bd t) (hH : HeapL own (20 + ti) w p pm aH cH (V ti)) (hv : ViewL own k w v va vc) => HGet_calls w3 pm bo bd t p aH cH (V ti) v va vc key ((hH.keep (hg.stp 0 own) (by omega)).hp (hM.keep (hg.stp 100 own) (by omega)) hij) (hv.keep (hg.stp 100 own) (by omega)).ok
    cases hq : getR t v (V ti) key with
    | none =>
      rw [show runR t v (V ti) 5 (key, text) = ([], 4, V ti) from by unfold runR; simp [hq]]
      rw [hq] at HG
      clear hq
      go_enter Try.func31, Try.ntmps31
      go_wp2_with fail
      refine (HRI.out _ ((Gr.alloc _ _).trans (Gr.alloc _ _))).mono ?_
      rintro e w1 ⟨rfl, rfl⟩
      go_wp2_with fail
      refine (HHE.out _ (((Gr.alloc _ _).trans (Gr.alloc _ _)).trans (Gr.alloc _ _))).mono ?_
      rintro e w1 ⟨rfl, rfl⟩
      go_wp2_with fail
      have hg : Gr w (((w.alloc (.cells #[.int .i64 v.max, .slice va v.opn.length vc, .int .i64 v.own] 35)).alloc (.cells #[.int .u8 5, .int .i64 ti, .int .i64 key, .string text] 66)).alloc (.cells #[.int .u8 5, .int .i64 ti, .int .i64 key, .string text] 66)) := ((Gr.alloc _ _).trans (Gr.alloc _ _)).trans (Gr.alloc _ _)
      generalize ((w.alloc (.cells #[.int .i64 v.max, .slice va v.opn.length vc, .int .i64 v.own] 35)).alloc (.cells #[.int .u8 5, .int .i64 ti, .int .i64 key, .string text] 66)).alloc (.cells #[.int .u8 5, .int .i64 ti, .int .i64 key, .string text] 66) = w3 at hg ⊢
      obtain ⟨hV, hM, hv, hH, hp⟩ := HA.out
      refine (HG.out w3 hg hM hH hv).mono ?_
      rintro e w4 ⟨rfl, hg2⟩
      have F : Hid _ := fun w5 (h : Gr w4 w5) => Stp.run (own := own) (own' := own) (q := q) (x := ([], 4, V ti)) (ar := none) (cr := 0) hV hp (fun i => ((hg.trans hg2).trans h).stp i own) rfl (RowL.nil _ _ _)
      clear hg hV hM hv hH hp hg2
      dsimp only [getV, encR]
      go_wp2
      go_ret2
      exact F.out _ (Gr.alloc _ _)
    | some x =>
      rw [show runR t v (V ti) 5 (key, text) = ([x], 0, V ti) from by unfold runR; simp [hq]]
      rw [hq] at HG
      obtain ⟨xk, xt⟩ := x
      clear hq
      go_enter Try.func31, Try.ntmps31
      go_wp2_with fail
      refine (HRI.out _ ((Gr.alloc _ _).trans (Gr.alloc _ _))).mono ?_
      rintro e w1 ⟨rfl, rfl⟩
      go_wp2_with fail
      refine (HHE.out _ (((Gr.alloc _ _).trans (Gr.alloc _ _)).trans (Gr.alloc _ _))).mono ?_
      rintro e w1 ⟨rfl, rfl⟩
      go_wp2_with fail
      have hg : Gr w (((w.alloc (.cells #[.int .i64 v.max, .slice va v.opn.length vc, .int .i64 v.own] 35)).alloc (.cells #[.int .u8 5, .int .i64 ti, .int .i64 key, .string text] 66)).alloc (.cells #[.int .u8 5, .int .i64 ti, .int .i64 key, .string text] 66)) := ((Gr.alloc _ _).trans (Gr.alloc _ _)).trans (Gr.alloc _ _)
      generalize ((w.alloc (.cells #[.int .i64 v.max, .slice va v.opn.length vc, .int .i64 v.own] 35)).alloc (.cells #[.int .u8 5, .int .i64 ti, .int .i64 key, .string text] 66)).alloc (.cells #[.int .u8 5, .int .i64 ti, .int .i64 key, .string text] 66) = w3 at hg ⊢
      obtain ⟨hV, hM, hv, hH, hp⟩ := HA.out
      refine (HG.out w3 hg hM hH hv).mono ?_
      rintro e w4 ⟨rfl, hg2⟩
      have F : Hid _ := fun w5 (h : Gr w4 w5) => Stp.run (own := own) (q := q) (x := ([(xk, xt)], 0, V ti)) hV hp (fun i => (((hg.trans hg2).trans h).stp i own).trans ((Gr.alloc w5 (.cells #[.int .i64 xk, .string xt] 38)).stpL i own q)) rfl (RowL.one (r := (xk, xt)))
      clear hg hV hM hv hH hp hg2
      dsimp only [getV, encR]
      go_wp2
      go_ret2
      have F2 := F.out _ (Gr.alloc w4 (.cells #[.int .i64 xk, .string xt] 38))
      simp at F2
      exact F2
  · rw [show runR t v (V ti) 6 (key, text) = (scanL t v (V ti), 0, V ti) from rfl]
    go_enter Try.func31, Try.ntmps31
    go_wp2_with fail
    refine (HRI.out _ ((Gr.alloc _ _).trans (Gr.alloc _ _))).mono ?_
    rintro e w1 ⟨rfl, rfl⟩
    go_wp2_with fail
    refine (HHE.out _ (((Gr.alloc _ _).trans (Gr.alloc _ _)).trans (Gr.alloc _ _))).mono ?_
    rintro e w1 ⟨rfl, rfl⟩
    go_wp2_with fail
    have hg : Gr w (((w.alloc (.cells #[.int .i64 v.max, .slice va v.opn.length vc, .int .i64 v.own] 35)).alloc (.cells #[.int .u8 6, .int .i64 ti, .int .i64 key, .string text] 66)).alloc (.cells #[.int .u8 6, .int .i64 ti, .int .i64 key, .string text] 66)) := ((Gr.alloc _ _).trans (Gr.alloc _ _)).trans (Gr.alloc _ _)
    generalize ((w.alloc (.cells #[.int .i64 v.max, .slice va v.opn.length vc, .int .i64 v.own] 35)).alloc (.cells #[.int .u8 6, .int .i64 ti, .int .i64 key, .string text] 66)).alloc (.cells #[.int .u8 6, .int .i64 ti, .int .i64 key, .string text] 66) = w3 at hg ⊢
    obtain ⟨hV, hM, hv, hH, hp⟩ := HA.out
    refine (Scan_calls w3 pm bo bd t p aH cH (V ti) v va vc ((hH.keep (hg.stp 0 own) (by omega)).hp (hM.keep (hg.stp 100 own) (by omega)) hij) (hv.keep (hg.stp 100 own) (by omega)).ok).mono ?_
    rintro e w4 ⟨ar, cr, rfl, h1, h2, h3⟩
    have F := Lib.hid (Stp.run (own := own) (q := q) (x := (scanL t v (V ti), 0, V ti)) (ar := ar) (cr := cr) hV hp (fun i => (hg.stp i own).trans (Below.stp h2 i own q)) rfl ⟨h1, fun b hb => lab_new (h3 b hb)⟩)
    clear hg hV hM hv hH hp h1 h2 h3
    go_wp2
    go_ret2
    exact F.out
end
end Go.Proofs.Ytannjecmfbhkeaa
