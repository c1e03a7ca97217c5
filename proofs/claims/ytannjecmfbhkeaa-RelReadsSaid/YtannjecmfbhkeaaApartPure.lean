/- What becomes of tables in RelApart and RelReads: plain lists. -/
import Derived.Test.YtannjecmfbhkeaaRel2
import Derived.Test.YtannjecmfbhkeaaSnapPure
namespace Go.Proofs.Ytannjecmfbhkeaa
open Go Go.RowKit Go.Lib Go.Maps
theorem killAll_len {t : TS} {v : Vw} : ∀ {l : List Rw} {vs : List Vr}, (killAll t v vs l).length = vs.length
  | [], _ => rfl
  | r :: l, vs => by
    have e : killAll t v vs (r :: l) = killAll t v (killV t v vs r.1) l := rfl
    rw [e, killAll_len, length_killV]
theorem runR_len {t : TS} {v : Vw} {vs : List Vr} {kind : Int} {r : Rw} : (runR t v vs kind r).2.2.length ≤ vs.length + 1 := by
  unfold runR
  split
  · rcases insV_cases t v vs r with e | ⟨e, _⟩ <;> simp only <;> rw [e] <;> simp
  split
  · simp only; unfold updV; split
    · rw [List.length_append, length_killV]; simp
    · omega
  split
  · simp only; rw [length_killV]; omega
  split
  · simp only; unfold truncV; rw [killAll_len]; omega
  split
  · split <;> simp
  · simp
abbrev vw1 : Vw := ⟨2, [1], 1⟩
theorem insV_first (r : Rw) : insV [1] vw1 [] r = [⟨r.1, r.2, 1, 0⟩] := rfl
theorem scan_one (r : Rw) : scanL [1] vw1 [⟨r.1, r.2, 1, 0⟩] = [r] := by
  unfold scanL visL
  rw [show ([⟨r.1, r.2, 1, 0⟩] : List Vr).filter (visB [1] vw1) = [⟨r.1, r.2, 1, 0⟩] from rfl]
  exact sortS_of_srt (by simp [Srt])
theorem runR_six {t : TS} {v : Vw} {vs : List Vr} {r : Rw} : runR t v vs 6 r = (scanL t v vs, 0, vs) := rfl
/-- What the acts of RelReads' transaction leave. -/
def liveB (x : Vr) : Bool := decide (x.died = 0)
def keysL (vs : List Vr) : List Int := (vs.filter liveB).map Vr.key
structure Un (vs : List Vr) : Prop where
  b : ∀ x ∈ vs, x.born = 1 ∧ (x.died = 0 ∨ x.died = 1)
  nd : (keysL vs).Nodup
theorem Un.nil : Un [] := ⟨fun x hx => by simp at hx, by simp [keysL]⟩
theorem Un.vis {vs : List Vr} (h : Un vs) {x : Vr} (hx : x ∈ vs) : visB [1] vw1 x = liveB x := by
  obtain ⟨hb, hd⟩ := h.b x hx
  unfold visB liveB
  rw [hb]
  rcases hd with e | e <;> rw [e] <;> rfl
theorem keys_cons {x : Vr} {r : List Vr} : keysL (x :: r) = if x.died = 0 then x.key :: keysL r else keysL r := by
  unfold keysL liveB; rw [List.filter_cons]; by_cases h : x.died = 0 <;> simp [h]
theorem keys_set {o : Int} (ho : o ≠ 0) : ∀ {vs : List Vr} {i : Nat}, (keysL (setD vs i o)).Sublist (keysL vs)
  | [], i => by simp [setD]
  | x :: r, 0 => by
    unfold setD; rw [List.modify_zero_cons, keys_cons, keys_cons, if_neg ho]
    split
    · exact List.sublist_cons_self _ _
    · exact List.Sublist.refl _
  | x :: r, i + 1 => by
    have ih := keys_set ho (vs := r) (i := i)
    unfold setD at ih ⊢
    rw [List.modify_succ_cons, keys_cons, keys_cons]
    split
    · exact ih.cons_cons _
    · exact ih
theorem keys_hit {o : Int} (ho : o ≠ 0) (key : Int) : ∀ {vs : List Vr}, 0 ≤ idxI (fun x => decide (x.key = key) && liveB x) vs → keysL (setD vs (idxI (fun x => decide (x.key = key) && liveB x) vs).toNat o) = (keysL vs).erase key
  | [], h => absurd (show (0 : Int) ≤ -1 from h) (by decide)
  | x :: r, h => by
    unfold idxI at h ⊢
    by_cases hp : (decide (x.key = key) && liveB x) = true
    · rw [if_pos hp]
      simp only [Bool.and_eq_true, decide_eq_true_eq, liveB] at hp
      show keysL (setD (x :: r) 0 o) = _
      unfold setD; rw [List.modify_zero_cons, keys_cons, keys_cons, if_neg ho, if_pos hp.2, ← hp.1, List.erase_cons_head]
    · rw [if_neg hp] at h ⊢
      by_cases hn : idxI (fun x => decide (x.key = key) && liveB x) r < 0
      · rw [if_pos hn] at h; exact absurd h (by decide)
      · rw [if_neg hn]
        have ih := keys_hit ho key (vs := r) (by omega)
        rw [show (idxI (fun x => decide (x.key = key) && liveB x) r + 1).toNat = (idxI (fun x => decide (x.key = key) && liveB x) r).toNat + 1 from by omega]
        unfold setD at ih ⊢
        rw [List.modify_succ_cons, keys_cons, keys_cons, ih]
        by_cases hd : x.died = 0
        · rw [if_pos hd, if_pos hd, List.erase_cons_tail]
          intro e
          apply hp
          have e2 : x.key = key := by simpa using e
          simp [liveB, hd, e2]
        · rw [if_neg hd, if_neg hd]
theorem Un.set {vs : List Vr} (h : Un vs) (i : Nat) : Un (setD vs i 1) :=
  ⟨fun x hx => by
    rcases setD_mem hx with hx | ⟨y, hy, rfl⟩
    · exact h.b x hx
    · exact ⟨(h.b y hy).1, Or.inr rfl⟩, h.nd.sublist (keys_set (by decide))⟩
theorem Un.find {vs : List Vr} (h : Un vs) (key : Int) : findI [1] vw1 vs key = idxI (fun x => decide (x.key = key) && liveB x) vs := by
  unfold findI
  have : ∀ {l : List Vr}, (∀ x ∈ l, visB [1] vw1 x = liveB x) → idxI (fun x => decide (x.key = key) && visB [1] vw1 x) l = idxI (fun x => decide (x.key = key) && liveB x) l := by
    intro l
    induction l with
    | nil => intro _; rfl
    | cons y r ih => intro hh; unfold idxI; rw [hh y (by simp), ih (fun z hz => hh z (by simp [hz]))]
  exact this (fun x hx => h.vis hx)
theorem Un.kill {vs : List Vr} (h : Un vs) (key : Int) : Un (killV [1] vw1 vs key) := by
  rcases killV_cases [1] vw1 vs key with e | ⟨i, e⟩ <;> rw [e]
  · exact h
  · exact h.set i
theorem Un.snoc {vs : List Vr} (h : Un vs) {key : Int} {s : ByteArray} (hk : key ∉ keysL vs) : Un (vs ++ [⟨key, s, 1, 0⟩]) := by
  refine ⟨fun x hx => ?_, ?_⟩
  · rcases List.mem_append.1 hx with hx | hx
    · exact h.b x hx
    · rw [List.mem_singleton.1 hx]; exact ⟨rfl, Or.inl rfl⟩
  · have : keysL (vs ++ [⟨key, s, 1, 0⟩]) = keysL vs ++ [key] := by unfold keysL; rw [List.filter_append, List.map_append]; rfl
    rw [this, List.nodup_append]
    refine ⟨h.nd, by simp, fun a ha b hb e => ?_⟩
    rw [List.mem_singleton.1 hb] at e
    exact hk (e ▸ ha)
theorem not_key {vs : List Vr} {key : Int} (h : ∀ x ∈ vs, x.key = key → liveB x = false) : key ∉ keysL vs := by
  intro hm
  obtain ⟨x, hx, e⟩ := List.mem_map.1 hm
  have := List.mem_filter.1 hx
  rw [h x this.1 e] at this
  exact absurd this.2 (by decide)
theorem Un.ins {vs : List Vr} (h : Un vs) (r : Rw) : Un (insV [1] vw1 vs r) := by
  rcases insV_cases [1] vw1 vs r with e | ⟨e, hf⟩ <;> rw [e]
  · exact h
  · exact h.snoc (not_key (fun x hx hk => by rw [← h.vis hx]; exact findI_neg hf x hx hk))
theorem Un.upd {vs : List Vr} (h : Un vs) (r : Rw) : Un (updV [1] vw1 vs r) := by
  unfold updV
  split
  · rename_i he
    refine (h.kill r.1).snoc ?_
    unfold killV
    rw [if_pos he]
    have hf : 0 ≤ findI [1] vw1 vs r.1 := by
      unfold killE at he
      split at he
      · split at he
        · split at he
          · exact absurd he (by decide)
          · omega
        · exact absurd he (by decide)
      · exact absurd he (by decide)
    rw [h.find] at hf ⊢
    rw [show vw1.own = 1 from rfl, keys_hit (by decide) r.1 hf]
    exact h.nd.not_mem_erase
  · exact h
theorem Un.trunc {vs : List Vr} (h : Un vs) : Un (truncV [1] vw1 vs) := by
  unfold truncV
  generalize truncL [1] vw1 vs = l
  induction l generalizing vs with
  | nil => exact h
  | cons r l ih => exact ih (h.kill r.1)
theorem Un.run {vs : List Vr} (h : Un vs) {kind : Int} (r : Rw) (h4 : kind ≤ 4) (h1 : 1 ≤ kind) : Un (runR [1] vw1 vs kind r).2.2 := by
  rcases (show kind = 1 ∨ kind = 2 ∨ kind = 3 ∨ kind = 4 by omega) with rfl | rfl | rfl | rfl
  · exact h.ins r
  · exact h.upd r
  · exact h.kill r.1
  · exact h.trunc
theorem Un.visL {vs : List Vr} (h : Un vs) : visL [1] vw1 vs = (vs.filter liveB).map Vr.row := by
  unfold Ytannjecmfbhkeaa.visL; rw [List.filter_congr (fun x hx => h.vis hx)]
theorem Un.keys {vs : List Vr} (h : Un vs) : ((Ytannjecmfbhkeaa.visL [1] vw1 vs).map Prod.fst) = keysL vs := by rw [h.visL, List.map_map]; rfl
/-- A row that is seen is what Get tells of its key. -/
theorem find_uniq {key : Int} : ∀ {vs : List Vr} {x : Vr}, (keysL vs).Nodup → x ∈ vs → liveB x = true → x.key = key → vs.find? (fun y => decide (y.key = key) && liveB y) = some x
  | [], x, _, hx, _, _ => by simp at hx
  | y :: r, x, hn, hx, hl, hk => by
    rw [keys_cons] at hn
    rcases List.mem_cons.1 hx with rfl | hx
    · rw [List.find?_cons_of_pos (by simp [hk, hl])]
    · have hin : key ∈ keysL r := List.mem_map.2 ⟨x, List.mem_filter.2 ⟨hx, hl⟩, hk⟩
      by_cases hd : y.died = 0
      · rw [if_pos hd] at hn
        have hne : y.key ≠ key := fun e => (List.nodup_cons.1 hn).1 (e ▸ hin)
        rw [List.find?_cons_of_neg (by simp [hne])]
        exact find_uniq (List.nodup_cons.1 hn).2 hx hl hk
      · rw [if_neg hd] at hn
        rw [List.find?_cons_of_neg (by simp [liveB, hd])]
        exact find_uniq hn hx hl hk
theorem Un.get {vs : List Vr} (h : Un vs) (key : Int) : getR [1] vw1 vs key = (vs.find? (fun y => decide (y.key = key) && liveB y)).map Vr.row := by
  unfold getR
  congr 1
  have : ∀ {l : List Vr}, (∀ x ∈ l, visB [1] vw1 x = liveB x) → l.find? (fun x => decide (x.key = key) && visB [1] vw1 x) = l.find? (fun y => decide (y.key = key) && liveB y) := by
    intro l
    induction l with
    | nil => intro _; rfl
    | cons y r ih => intro hh; rw [List.find?_cons, List.find?_cons, hh y (by simp), ih (fun z hz => hh z (by simp [hz]))]
  exact this (fun x hx => h.vis hx)
theorem Un.got {vs : List Vr} (h : Un vs) {r : Rw} (hr : r ∈ scanL [1] vw1 vs) : getR [1] vw1 vs r.1 = some r := by
  have hm : r ∈ Ytannjecmfbhkeaa.visL [1] vw1 vs := mem_sortS.1 hr
  rw [h.visL] at hm
  obtain ⟨x, hx, rfl⟩ := List.mem_map.1 hm
  have hx2 := List.mem_filter.1 hx
  rw [h.get, show x.row.1 = x.key from rfl, find_uniq h.nd hx2.1 hx2.2 rfl]; rfl
theorem Un.gone {vs : List Vr} (h : Un vs) {key : Int} (hg : getR [1] vw1 vs key = none) : ∀ r ∈ scanL [1] vw1 vs, r.1 ≠ key := by
  intro r hr e
  have := h.got hr
  rw [e, hg] at this
  cases this
theorem Un.has {vs : List Vr} (h : Un vs) {key : Int} {r : Rw} (hg : getR [1] vw1 vs key = some r) : r ∈ scanL [1] vw1 vs ∧ r.1 = key := by
  rw [h.get] at hg
  cases hf : vs.find? (fun y => decide (y.key = key) && liveB y) with
  | none => rw [hf] at hg; cases hg
  | some x =>
    rw [hf] at hg
    cases hg
    have hx := List.mem_of_find?_eq_some hf
    have hp := List.find?_some hf
    simp only [Bool.and_eq_true, decide_eq_true_eq] at hp
    exact ⟨mem_sortS.2 (by rw [h.visL]; exact List.mem_map.2 ⟨x, List.mem_filter.2 ⟨hx, hp.2⟩, rfl⟩), hp.1⟩
theorem Un.scan_nd {vs : List Vr} (h : Un vs) : ((scanL [1] vw1 vs).map Prod.fst).Nodup := by
  have hp : (scanL [1] vw1 vs).Perm (Ytannjecmfbhkeaa.visL [1] vw1 vs) := List.mergeSort_perm _ _
  exact (hp.map Prod.fst).nodup_iff.2 (by rw [h.keys]; exact h.nd)
/-- How many rows of a key stand ahead of a place. -/
def cntK (key : Int) (S : List Rw) (i : Nat) : Nat := ((S.take i).filter (fun r => decide (r.1 = key))).length
theorem cnt_le (key : Int) {S : List Rw} (hn : (S.map Prod.fst).Nodup) (i : Nat) : cntK key S i ≤ 1 := by
  have h1 : ((S.take i).map Prod.fst).Nodup := by rw [List.map_take]; exact hn.sublist (List.take_sublist _ _)
  unfold cntK
  have h2 : (((S.take i).map Prod.fst).filter (fun k => decide (k = key))).Nodup := h1.sublist List.filter_sublist
  have h3 : ((S.take i).filter (fun r => decide (r.1 = key))).length = (((S.take i).map Prod.fst).filter (fun k => decide (k = key))).length := by
    rw [List.filter_map, List.length_map]; rfl
  rw [h3]
  generalize hL : ((S.take i).map Prod.fst).filter (fun k => decide (k = key)) = L at h2
  match L, h2 with
  | [], _ => simp
  | [_], _ => simp
  | a :: b :: r, h2 =>
    exfalso
    have ha : a = key := by have := List.mem_filter.1 (show a ∈ ((S.take i).map Prod.fst).filter (fun k => decide (k = key)) by rw [hL]; simp); simpa using this.2
    have hb : b = key := by have := List.mem_filter.1 (show b ∈ ((S.take i).map Prod.fst).filter (fun k => decide (k = key)) by rw [hL]; simp); simpa using this.2
    simp [ha, hb] at h2
theorem cnt_succ {key : Int} {S : List Rw} {i : Nat} {r : Rw} (h : S[i]? = some r) : cntK key S (i + 1) = cntK key S i + if r.1 = key then 1 else 0 := by
  obtain ⟨hi, rfl⟩ := List.getElem?_eq_some_iff.1 h
  unfold cntK
  rw [List.take_succ_eq_append_getElem hi, List.filter_append, List.length_append]
  congr 1
  by_cases e : (S[i]).1 = key <;> simp [e]
theorem cnt_all {key : Int} {S : List Rw} {i : Nat} (h : S.length ≤ i) : cntK key S i = (S.filter (fun r => decide (r.1 = key))).length := by unfold cntK; rw [List.take_of_length_le h]
theorem cnt_some {key : Int} {S : List Rw} (hn : (S.map Prod.fst).Nodup) {r : Rw} (hr : r ∈ S) (hk : r.1 = key) {i : Nat} (h : S.length ≤ i) : cntK key S i = 1 := by
  have h1 := cnt_le key hn i
  have h2 : 0 < cntK key S i := by
    rw [cnt_all h]
    exact List.length_pos_of_mem (List.mem_filter.2 ⟨hr, by simp [hk]⟩)
  omega
theorem cnt_none {key : Int} {S : List Rw} (hn : ∀ r ∈ S, r.1 ≠ key) {i : Nat} (h : S.length ≤ i) : cntK key S i = 0 := by
  rw [cnt_all h, List.length_eq_zero_iff, List.filter_eq_nil_iff]
  intro r hr; simp [hn r hr]
end Go.Proofs.Ytannjecmfbhkeaa
