/- What becomes of versions in HeapTruncates: plain lists. -/
import Derived.Test.YtannjecmfbhkeaaClash
namespace Go.Proofs.Ytannjecmfbhkeaa
open Go Go.RowKit Go.Lib Go.Maps
theorem stOf_zero (t : TS) : stOf t 0 = 0 := stOf_out (Or.inl (by decide))
theorem didB_zero (t : TS) (v : Vw) : didB t v 0 = false := by simp [didB]
theorem othersB_zero (t : TS) (o : Int) : othersB t o 0 = false := by simp [othersB, stOf_zero]
/-- A key that is nowhere may be inserted. -/
theorem insE_new {t : TS} {v : Vw} {vs : List Vr} {k : Int} (ho : stOf t v.own = 1) (hk : ∀ x ∈ vs, x.key ≠ k) : insE t v vs k = 0 := by
  have h1 : findI t v vs k = -1 := idxI_miss (fun x hx => by simp [hk x hx])
  have h2 : vs.any (fun x => decide (x.key = k) && blocksB t v.own x) = false := by
    rw [List.any_eq_false]; intro x hx; simp [hk x hx]
  unfold insE; rw [if_pos ho, h1, h2]; decide
theorem insV_new {t : TS} {v : Vw} {vs : List Vr} {r : Rw} (ho : stOf t v.own = 1) (hk : ∀ x ∈ vs, x.key ≠ r.1) : insV t v vs r = vs ++ [⟨r.1, r.2, v.own, 0⟩] := by
  unfold insV; rw [if_pos (insE_new ho hk)]
theorem insV_cases (t : TS) (v : Vw) (vs : List Vr) (r : Rw) : insV t v vs r = vs ∨ (insV t v vs r = vs ++ [⟨r.1, r.2, v.own, 0⟩] ∧ findI t v vs r.1 < 0) := by
  unfold insV
  by_cases h : insE t v vs r.1 = 0
  · rw [if_pos h]
    refine Or.inr ⟨rfl, ?_⟩
    unfold insE at h
    split at h
    · split at h
      · exact absurd h (by decide)
      · omega
    · exact absurd h (by decide)
  · rw [if_neg h]; exact Or.inl rfl
theorem findI_neg {t : TS} {v : Vw} {vs : List Vr} {k : Int} (h : findI t v vs k < 0) : ∀ x ∈ vs, x.key = k → visB t v x = false := by
  intro x hx hk
  rcases idxI_cases (fun x => decide (x.key = k) && visB t v x) vs with ⟨_, h2⟩ | ⟨i, y, h1, _, _, _⟩
  · have := h2 x hx; simpa [hk] using this
  · unfold findI at h; rw [h1] at h; omega

theorem nodup_inj {l : List Int} (h : l.Nodup) {i j : Nat} (hi : i < l.length) (hj : j < l.length) (he : l[i] = l[j]) : i = j := by
  rcases Nat.lt_trichotomy i j with hlt | e | hlt
  · exact absurd he (List.pairwise_iff_getElem.1 h i j hi hj hlt)
  · exact e
  · exact absurd he.symm (List.pairwise_iff_getElem.1 h j i hj hi hlt)
/-- The versions of HeapTruncates' first transaction. -/
structure TrI (vs : List Vr) : Prop where
  key : ∀ x ∈ vs, -50 < x.key ∧ x.key < 50 ∧ x.born = 1 ∧ x.died = 0
  nd : (vs.map Vr.key).Nodup
theorem TrI.nil : TrI [] := ⟨by simp, by simp⟩
theorem TrI.ins {vs : List Vr} (h : TrI vs) {r : Rw} (h1 : -50 < r.1) (h2 : r.1 < 50) : TrI (insV [1] ⟨2, [1], 1⟩ vs r) := by
  rcases insV_cases [1] ⟨2, [1], 1⟩ vs r with e | ⟨e, hf⟩
  · rw [e]; exact h
  · rw [e]
    refine ⟨fun x hx => ?_, ?_⟩
    · rcases List.mem_append.1 hx with hx | hx
      · exact h.key x hx
      · rw [List.mem_singleton.1 hx]; exact ⟨h1, h2, rfl, rfl⟩
    · rw [List.map_append, List.nodup_append]
      refine ⟨h.nd, by simp, fun a ha b hb => ?_⟩
      obtain ⟨x, hx, rfl⟩ := List.mem_map.1 ha
      simp at hb; subst hb
      intro he
      have := findI_neg hf x hx he
      obtain ⟨_, _, hb, hd⟩ := h.key x hx
      revert this; unfold visB; rw [hb, hd, didB_zero]; decide
theorem TrI.len {vs : List Vr} {r : Rw} : (insV [1] ⟨2, [1], 1⟩ vs r).length ≤ vs.length + 1 := by
  rcases insV_cases [1] ⟨2, [1], 1⟩ vs r with e | ⟨e, _⟩ <;> rw [e] <;> simp

/-- What is left behind killing the keys of a list. -/
def killed (o : Int) (D : List Int) (vs : List Vr) : List Vr := vs.map fun x => if x.key ∈ D then { x with died := o } else x
theorem killed_nil (o : Int) (vs : List Vr) : killed o [] vs = vs := by
  unfold killed
  have : (fun x : Vr => if x.key ∈ ([] : List Int) then { x with died := o } else x) = id := by funext x; simp
  rw [this, List.map_id]
theorem modify_map {l : List Vr} {f : Vr → Vr} {i : Nat} {x : Vr} (hx : l[i]? = some x) (hd : (l.map Vr.key).Nodup) (g : Vr → Vr) (o : Int)
    (hf : ∀ y, f y = if y.key = x.key then { g y with died := o } else g y) : (l.map g).modify i (fun y => { y with died := o }) = l.map f := by
  apply List.ext_getElem?
  intro j
  rw [List.getElem?_modify, List.getElem?_map, List.getElem?_map]
  cases hj : l[j]? with
  | none => simp
  | some y =>
    simp only [Option.map_some, Option.map_eq_map]
    by_cases hij : i = j
    · subst hij
      rw [hx] at hj; cases hj
      rw [if_pos rfl, hf, if_pos rfl]
    · rw [if_neg hij]
      have : y.key ≠ x.key := by
        intro he
        apply hij
        have h1 : (l.map Vr.key)[i]? = some x.key := by rw [List.getElem?_map, hx]; rfl
        have h2 : (l.map Vr.key)[j]? = some x.key := by rw [List.getElem?_map, hj, ← he]; rfl
        obtain ⟨hi, h3⟩ := List.getElem?_eq_some_iff.1 h1
        obtain ⟨hj', h4⟩ := List.getElem?_eq_some_iff.1 h2
        exact nodup_inj hd hi hj' (h3.trans h4.symm)
      rw [hf, if_neg this]
theorem killed_step {t : TS} {v : Vw} {vs : List Vr} {D : List Int} {k : Int} (ho : stOf t v.own = 1) (hd : ∀ x ∈ vs, x.died = 0) (hnd : (vs.map Vr.key).Nodup)
    (hk : ∃ x ∈ vs, x.key = k ∧ visB t v x = true) (hD : k ∉ D) : killV t v (killed v.own D vs) k = killed v.own (k :: D) vs := by
  obtain ⟨x, hx, rfl, hv⟩ := hk
  obtain ⟨i, hi, hxi⟩ := List.getElem_of_mem hx
  have hx? : vs[i]? = some x := by rw [List.getElem?_eq_getElem hi, hxi]
  have hq : (killed v.own D vs)[i]? = some x := by
    unfold killed; rw [List.getElem?_map, hx?]; simp [hD]
  have hfind : findI t v (killed v.own D vs) x.key = i := by
    refine idxI_hit hq (by simp [hv]) (fun j y hj hy => ?_)
    unfold killed at hy
    rw [List.getElem?_map] at hy
    cases hz : vs[j]? with
    | none => rw [hz] at hy; simp at hy
    | some z =>
      rw [hz] at hy
      simp only [Option.map_some, Option.some.injEq] at hy
      have hzk : z.key ≠ x.key := by
        intro he
        have h1 : (vs.map Vr.key)[i]? = some x.key := by rw [List.getElem?_map, hx?]; rfl
        have h2 : (vs.map Vr.key)[j]? = some x.key := by rw [List.getElem?_map, hz, ← he]; rfl
        obtain ⟨hi', h3⟩ := List.getElem?_eq_some_iff.1 h1
        obtain ⟨hj', h4⟩ := List.getElem?_eq_some_iff.1 h2
        have := nodup_inj hnd hi' hj' (h3.trans h4.symm)
        omega
      have hyk : y.key = z.key := by rw [← hy]; split <;> rfl
      simp [hyk, hzk]
  have hE : killE t v (killed v.own D vs) x.key = 0 := by
    unfold killE
    rw [if_pos ho, hfind]
    simp only [Int.toNat_natCast, hq]
    rw [if_neg (by omega), hd x hx, othersB_zero]; rfl
  unfold killV
  rw [if_pos hE, hfind, Int.toNat_natCast]
  unfold setD
  unfold killed
  refine modify_map hx? hnd _ v.own (fun y => ?_)
  by_cases h1 : y.key = x.key
  · rw [if_pos (by simp [h1]), if_pos h1]; split <;> rfl
  · rw [if_neg h1]
    by_cases h2 : y.key ∈ D
    · rw [if_pos (by simp [h2]), if_pos h2]
    · rw [if_neg (by simp [h1, h2]), if_neg h2]
theorem killAll_killed {t : TS} {v : Vw} {vs : List Vr} (ho : stOf t v.own = 1) (hd : ∀ x ∈ vs, x.died = 0) (hnd : (vs.map Vr.key).Nodup) :
    ∀ (l : List Rw) (D : List Int), (∀ r ∈ l, ∃ x ∈ vs, x.key = r.1 ∧ visB t v x = true) → (∀ r ∈ l, r.1 ∉ D) → (l.map Prod.fst).Nodup → ∃ D', (∀ k, k ∈ D' ↔ k ∈ D ∨ k ∈ l.map Prod.fst) ∧ killAll t v (killed v.own D vs) l = killed v.own D' vs
  | [], D, _, _, _ => ⟨D, by simp, rfl⟩
  | r :: l, D, h, h2, h3 => by
    rw [List.map_cons, List.nodup_cons] at h3
    obtain ⟨D', hD, he⟩ := killAll_killed ho hd hnd l (r.1 :: D) (fun s hs => h s (List.mem_cons_of_mem _ hs)) (fun s hs => by
      rw [List.mem_cons, not_or]
      refine ⟨fun hh => h3.1 ?_, h2 s (List.mem_cons_of_mem _ hs)⟩
      rw [← hh]; exact List.mem_map.2 ⟨s, hs, rfl⟩) h3.2
    refine ⟨D', fun k => ?_, ?_⟩
    · rw [hD k, List.mem_cons, List.map_cons, List.mem_cons]
      constructor
      · rintro ((h | h) | h)
        · exact Or.inr (Or.inl h)
        · exact Or.inl h
        · exact Or.inr (Or.inr h)
      · rintro (h | h | h)
        · exact Or.inl (Or.inr h)
        · exact Or.inl (Or.inl h)
        · exact Or.inr h
    · rw [← he, ← killed_step ho hd hnd (h r (List.mem_cons_self ..)) (h2 r (List.mem_cons_self ..))]; rfl
theorem visL_keys {t : TS} {v : Vw} {vs : List Vr} : ((visL t v vs).map Prod.fst) = (vs.filter (visB t v)).map Vr.key := by
  unfold visL; rw [List.map_map]; rfl
theorem visL_nodup {t : TS} {v : Vw} {vs : List Vr} (h : (vs.map Vr.key).Nodup) : ((visL t v vs).map Prod.fst).Nodup := by
  rw [visL_keys]; exact h.sublist (List.filter_sublist.map _)
theorem scanL_nodup {t : TS} {v : Vw} {vs : List Vr} (h : (vs.map Vr.key).Nodup) : ((scanL t v vs).map Prod.fst).Nodup := by
  have : ((scanL t v vs).map Prod.fst).Perm ((visL t v vs).map Prod.fst) := (List.mergeSort_perm _ _).map _
  exact this.nodup_iff.2 (visL_nodup h)
/-- The keys that Scan tells rise. -/
theorem scanL_rises {t : TS} {v : Vw} {vs : List Vr} (h : (vs.map Vr.key).Nodup) {i : Nat} {x y : Rw} (hx : (scanL t v vs)[i]? = some x) (hy : (scanL t v vs)[i + 1]? = some y) : x.1 < y.1 := by
  obtain ⟨hi, rfl⟩ := List.getElem?_eq_some_iff.1 hx
  obtain ⟨hj, rfl⟩ := List.getElem?_eq_some_iff.1 hy
  have hs : kyR (scanL t v vs)[i] ≤ kyR (scanL t v vs)[i + 1] := List.pairwise_iff_getElem.1 (srt_sortS (ky := kyR) (visL t v vs)) i (i + 1) hi hj (by omega)
  have hn := scanL_nodup (t := t) (v := v) h
  have : (scanL t v vs)[i].1 ≠ (scanL t v vs)[i + 1].1 := by
    intro he
    have h1 : ((scanL t v vs).map Prod.fst)[i]'(by simpa using hi) = ((scanL t v vs).map Prod.fst)[i + 1]'(by simpa using hj) := by simpa using he
    have := nodup_inj hn _ _ h1
    omega
  have : kyR (scanL t v vs)[i] = (scanL t v vs)[i].1 := rfl
  have : kyR (scanL t v vs)[i + 1] = (scanL t v vs)[i + 1].1 := rfl
  omega
theorem scanL_mem {t : TS} {v : Vw} {vs : List Vr} {r : Rw} (h : r ∈ scanL t v vs) : ∃ x ∈ vs, x.key = r.1 ∧ visB t v x = true := by
  have := (mem_sortS (ky := kyR)).1 h
  unfold visL at this
  obtain ⟨x, hx, rfl⟩ := List.mem_map.1 this
  rw [List.mem_filter] at hx
  exact ⟨x, hx.1, rfl, hx.2⟩
theorem mem_scanL {t : TS} {v : Vw} {vs : List Vr} {x : Vr} (h : x ∈ vs) (hv : visB t v x = true) : x.row ∈ scanL t v vs :=
  (mem_sortS (ky := kyR)).2 (List.mem_map.2 ⟨x, List.mem_filter.2 ⟨h, hv⟩, rfl⟩)

/-- Behind both inserts. -/
def trV (vs : List Vr) (a b : Int) : List Vr := vs ++ [⟨a, ⟨#[]⟩, 3, 0⟩] ++ [⟨b, ⟨#[]⟩, 2, 0⟩]
section
variable {vs : List Vr} {a b : Int} (h : TrI vs) (ha1 : 90 < a) (ha2 : a < 200) (hb : 200 ≤ b)
include h ha1 ha2 hb
theorem trV_nd : ((trV vs a b).map Vr.key).Nodup := by
  unfold trV
  rw [List.map_append, List.map_append, List.nodup_append, List.nodup_append]
  refine ⟨⟨h.nd, by simp, fun x hx y hy => ?_⟩, by simp, fun x hx y hy => ?_⟩
  · obtain ⟨z, hz, rfl⟩ := List.mem_map.1 hx
    have := h.key z hz
    simp at hy; omega
  · simp at hy
    rcases List.mem_append.1 hx with hx | hx
    · obtain ⟨z, hz, rfl⟩ := List.mem_map.1 hx
      have := h.key z hz
      omega
    · simp at hx; omega
omit ha1 ha2 hb in
theorem trV_died : ∀ x ∈ trV vs a b, x.died = 0 := by
  intro x hx
  unfold trV at hx
  rcases List.mem_append.1 hx with hx | hx
  · rcases List.mem_append.1 hx with hx | hx
    · exact (h.key x hx).2.2.2
    · rw [List.mem_singleton.1 hx]
  · rw [List.mem_singleton.1 hx]
theorem trV_ins : insV [2, 1, 1] ⟨3, [2], 2⟩ (insV [2, 1, 1] ⟨4, [2, 3], 3⟩ vs (a, ⟨#[]⟩)) (b, ⟨#[]⟩) = trV vs a b := by
  rw [insV_new (t := [2, 1, 1]) (v := ⟨4, [2, 3], 3⟩) (vs := vs) (r := (a, ⟨#[]⟩)) (by decide) (fun x hx => by have := h.key x hx; show x.key ≠ a; omega)]
  rw [insV_new (by decide) (fun x hx => by
    rcases List.mem_append.1 hx with hx | hx
    · have := h.key x hx; show x.key ≠ b; omega
    · rw [List.mem_singleton.1 hx]; show a ≠ b; omega)]
  rfl
omit ha1 ha2 hb in
theorem trV_E : truncE [2, 1, 1] ⟨3, [2], 2⟩ (trV vs a b) = 0 := by
  unfold truncE
  rw [if_pos (by decide), if_neg]
  rw [Bool.not_eq_true, List.any_eq_false]
  intro x hx
  rw [trV_died h x hx, othersB_zero]; simp
/-- What is there for who comes behind all. -/
theorem trV_now : scanL [2, 2, 2] ⟨4, [], 0⟩ (truncV [2, 1, 1] ⟨3, [2], 2⟩ (trV vs a b)) = [(a, ⟨#[]⟩)] := by
  have hnd := trV_nd h ha1 ha2 hb
  have hdd := trV_died (a := a) (b := b) h
  unfold truncV truncL
  rw [if_pos (trV_E h)]
  obtain ⟨D, hD, he⟩ := killAll_killed (t := [2, 1, 1]) (v := ⟨3, [2], 2⟩) (vs := trV vs a b) (by decide) hdd hnd (scanL [2, 1, 1] ⟨3, [2], 2⟩ (trV vs a b)) []
    (fun r hr => scanL_mem hr) (fun r _ => by simp) (scanL_nodup hnd)
  rw [killed_nil] at he
  rw [he]
  have hDa : a ∉ D := by
    rw [hD]
    rintro (hh | hh)
    · simp at hh
    · obtain ⟨r, hr, hra⟩ := List.mem_map.1 hh
      obtain ⟨x, hx, hk, hv⟩ := scanL_mem hr
      unfold trV at hx
      rcases List.mem_append.1 hx with hx | hx
      · rcases List.mem_append.1 hx with hx | hx
        · have := h.key x hx; omega
        · rw [List.mem_singleton.1 hx] at hv; revert hv; simp [visB, didB, stOf]
      · rw [List.mem_singleton.1 hx] at hk; simp at hk; omega
  have hDm : ∀ x ∈ vs, x.key ∈ D := fun x hx => by
    rw [hD]; right
    refine List.mem_map.2 ⟨x.row, mem_scanL (by unfold trV; simp [hx]) ?_, rfl⟩
    obtain ⟨_, _, e1, e2⟩ := h.key x hx
    unfold visB; rw [e1, e2, didB_zero]; decide
  have hDb : b ∈ D := by
    rw [hD]; right
    exact List.mem_map.2 ⟨(b, ⟨#[]⟩), mem_scanL (x := ⟨b, ⟨#[]⟩, 2, 0⟩) (by unfold trV; simp) (by simp [visB, didB]), rfl⟩
  have hk : killed 2 D (trV vs a b) = (vs.map fun x => { x with died := 2 }) ++ [⟨a, ⟨#[]⟩, 3, 0⟩] ++ [⟨b, ⟨#[]⟩, 2, 2⟩] := by
    unfold killed trV
    rw [List.map_append, List.map_append]
    congr 1
    · congr 1
      · exact List.map_congr_left (fun x hx => by rw [if_pos (hDm x hx)])
      · simp [hDa]
    · simp [hDb]
  show scanL [2, 2, 2] ⟨4, [], 0⟩ (killed 2 D (trV vs a b)) = _
  rw [hk]
  have hf : visL [2, 2, 2] ⟨4, [], 0⟩ ((vs.map fun x => { x with died := 2 }) ++ [⟨a, ⟨#[]⟩, 3, 0⟩] ++ [⟨b, ⟨#[]⟩, 2, 2⟩]) = [(a, ⟨#[]⟩)] := by
    unfold visL
    rw [List.filter_append, List.filter_append]
    have : (vs.map fun x => { x with died := 2 }).filter (visB [2, 2, 2] ⟨4, [], 0⟩) = [] := by
      rw [List.filter_eq_nil_iff]
      intro x hx
      obtain ⟨y, _, rfl⟩ := List.mem_map.1 hx
      simp [visB, didB, stOf, seesB]
    rw [this]
    simp [visB, didB, stOf, seesB, Vr.row]
  unfold scanL; rw [hf]
  exact sortS_of_srt (by simp [Srt])
end
end Go.Proofs.Ytannjecmfbhkeaa
