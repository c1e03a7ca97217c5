/- Worlds behind calls: what only reads and lays blocks; what writes to one owner's blocks. No program in sight. -/
import Derived.WalkKit
import Derived.WalkLawsBesides
import Derived.WalkSpells
import Derived.Deep.QuietTactic
import Derived.BigQuiet
import Derived.Sort.Grow
import Derived.Shelf.SlSortCmp.QuietGrown
import Derived.Maps.OwnOps
import Derived.Maps.OwnSet
import Derived.Lib.Hide
import Derived.Deep.RegionLaw
import Derived.Test.YtkpfoaeldkkciaaGreatPure
namespace Go.Proofs.YtkpfoaeldkkciaaGreat
open Go Go.RowKit

/-- w' is w with blocks laid behind its heap (and draws made). -/
def Gr (w w' : World) : Prop := ∃ p : GrownBy, w' = Sort.grow (w.drewN p.n) p.os
theorem Gr.refl (w : World) : Gr w w := ⟨⟨0, #[]⟩, by simp [World.drewN_zero]⟩
theorem Gr.trans {a b c : World} (h : Gr a b) (k : Gr b c) : Gr a c := by
  obtain ⟨p, rfl⟩ := h
  obtain ⟨q, rfl⟩ := k
  exact ⟨⟨p.n + q.n, p.os ++ q.os⟩, by
    show Sort.grow (Sort.grow ((a.drewN p.n).drewN q.n) p.os) q.os = _
    rw [Sort.grow_grow, World.drewN_drewN]⟩
theorem Gr.alloc (w : World) (o : Obj) : Gr w (w.alloc o) := ⟨⟨0, #[o]⟩, by rw [Sort.alloc_eq_grow]; rfl⟩
theorem Gr.drew (w : World) : Gr w w.drew := ⟨⟨1, #[]⟩, by rw [Sort.grow_empty]; rfl⟩
theorem Gr.drewN (w : World) (n : Nat) : Gr w (w.drewN n) := ⟨⟨n, #[]⟩, by rw [Sort.grow_empty]⟩
theorem Gr.grow (w : World) (n : Nat) (os : Array Obj) : Gr w (Sort.grow (w.drewN n) os) := ⟨⟨n, os⟩, rfl⟩
/-- A store into a block laid since. -/
theorem Gr.setCell {w w' : World} (h : Gr w w') {p : Addr} (hp : w.heap.size ≤ p.block) (u : Value) : Gr w (w'.setCell p u) := by
  obtain ⟨q, rfl⟩ := h
  refine ⟨⟨q.n, q.os.modify (p.block - w.heap.size) fun
      | .cells c elem frozen => .cells (if p.spot.isSome then c else c.setIfInBounds p.off u) elem frozen
      | o => o⟩, ?_⟩
  unfold World.setCell Sort.grow
  simp only
  rw [Sort.modify_append_right _ _ _ _ (by exact hp)]
  rfl
theorem Gr.size {w w' : World} (h : Gr w w') : w.heap.size ≤ w'.heap.size := by
  obtain ⟨p, rfl⟩ := h; simp
theorem Gr.heap {w w' : World} (h : Gr w w') {k : Nat} (hk : k < w.heap.size) : w'.heap[k]? = w.heap[k]? := by
  obtain ⟨p, rfl⟩ := h
  exact Sort.heap_grow_old (w.drewN p.n) p.os hk
theorem Gr.cell {w w' : World} (h : Gr w w') {a : Addr} {v : Value} (hc : w.cell? a = some v) : w'.cell? a = some v :=
  (World.cell?_of_block (h.heap (World.block_lt_of_cell? w a hc))).trans hc
theorem Gr.below {w w' : World} (h : Gr w w') : Below w.heap.size w w' := by
  refine ⟨?_, ?_, ?_, h.size, fun k hk => h.heap hk⟩ <;> (obtain ⟨p, rfl⟩ := h; rfl)
theorem Gr.below' {w w' : World} (h : Gr w w') {B : Nat} (hB : B ≤ w.heap.size) : Below B w w' := h.below.mono hB
theorem Gr.frozen {w w' : World} (h : Gr w w') {a : Addr} {v : Value} (hc : w.cell? a = some v) (hf : w.frozen? a = false) : w'.frozen? a = false :=
  (World.frozen?_of_block (h.heap (World.block_lt_of_cell? w a hc))).trans hf
theorem Gr.grown {w w' : World} (h : Gr w w') : w.grownBy w' none :=
  ⟨h.below.os, h.below.tape, h.below.output, h.size, fun _ hk _ => h.heap hk⟩

/-- A contract that reads, met in a region that draws. -/
theorem Calls.grown_of_gr {P : Program} {f : FuncId} {args : Array Value} {w : World} {n : Nat} {os : Array Obj} {v : Value}
    (h : Calls P f args (Sort.grow (w.drewN n) os) fun e w' => e = .returned v ∧ Gr (Sort.grow (w.drewN n) os) w') :
    Calls P f args (Sort.grow (w.drewN n) os) fun e w'' => e = .returned v ∧ ∃ p : GrownBy, w'' = Sort.grow (w.drewN p.n) p.os :=
  h.mono fun _ _ ⟨he, hg⟩ => ⟨he, (Gr.grow w n os).trans hg⟩
theorem Calls.grown_of_same {P : Program} {f : FuncId} {args : Array Value} {w : World} {n : Nat} {os : Array Obj} {v : Value}
    (h : Calls P f args (Sort.grow (w.drewN n) os) fun e w' => e = .returned v ∧ Sort.grow (w.drewN n) os = w') :
    Calls P f args (Sort.grow (w.drewN n) os) fun e w'' => e = .returned v ∧ ∃ p : GrownBy, w'' = Sort.grow (w.drewN p.n) p.os :=
  h.mono fun _ _ ⟨he, hg⟩ => ⟨he, ⟨n, os⟩, hg.symm⟩

/-- OWNERS. 'own b' is whose block b is. A step of i: blocks of others that were there read as before; no block has another owner than before. -/
structure Stp (i : Nat) (own own' : Nat → Nat) (w w' : World) : Prop where
  os : w'.os = w.os
  tape : w'.tape = w.tape
  output : w'.output = w.output
  size : w.heap.size ≤ w'.heap.size
  lbl : ∀ b, b < w.heap.size → own' b = own b
  heap : ∀ b, b < w.heap.size → own b ≠ i → w'.heap[b]? = w.heap[b]?
theorem Stp.refl (i : Nat) (own : Nat → Nat) (w : World) : Stp i own own w w := ⟨rfl, rfl, rfl, Nat.le_refl _, fun _ _ => rfl, fun _ _ _ => rfl⟩
theorem Stp.trans {i : Nat} {o1 o2 o3 : Nat → Nat} {a b c : World} (h : Stp i o1 o2 a b) (k : Stp i o2 o3 b c) : Stp i o1 o3 a c :=
  ⟨k.os.trans h.os, k.tape.trans h.tape, k.output.trans h.output, Nat.le_trans h.size k.size,
   fun x hx => (k.lbl x (Nat.lt_of_lt_of_le hx h.size)).trans (h.lbl x hx),
   fun x hx hne => (k.heap x (Nat.lt_of_lt_of_le hx h.size) (by rw [h.lbl x hx]; exact hne)).trans (h.heap x hx hne)⟩
theorem Gr.stp {w w' : World} (h : Gr w w') (i : Nat) (own : Nat → Nat) : Stp i own own w w' :=
  ⟨h.below.os, h.below.tape, h.below.output, h.size, fun _ _ => rfl, fun _ hb _ => h.heap hb⟩
/-- New blocks are given to whom one likes. -/
def lab (own : Nat → Nat) (n i : Nat) (b : Nat) : Nat := if b < n then own b else i
theorem lab_old {own : Nat → Nat} {n i b : Nat} (h : b < n) : lab own n i b = own b := if_pos h
theorem lab_new {own : Nat → Nat} {n i b : Nat} (h : n ≤ b) : lab own n i b = i := if_neg (by omega)
/-- Blocks outside S that were there read as before. -/
structure Tc (S : Nat → Prop) (w w' : World) : Prop where
  os : w'.os = w.os
  tape : w'.tape = w.tape
  output : w'.output = w.output
  size : w.heap.size ≤ w'.heap.size
  heap : ∀ b, b < w.heap.size → ¬ S b → w'.heap[b]? = w.heap[b]?
theorem Tc.refl (S : Nat → Prop) (w : World) : Tc S w w := ⟨rfl, rfl, rfl, Nat.le_refl _, fun _ _ _ => rfl⟩
theorem Tc.trans {S : Nat → Prop} {a b c : World} (h : Tc S a b) (k : Tc S b c) : Tc S a c :=
  ⟨k.os.trans h.os, k.tape.trans h.tape, k.output.trans h.output, Nat.le_trans h.size k.size,
   fun x hx hne => (k.heap x (Nat.lt_of_lt_of_le hx h.size) hne).trans (h.heap x hx hne)⟩
theorem Tc.mono {S S' : Nat → Prop} {a b : World} (h : Tc S a b) (hs : ∀ x, S x → S' x) : Tc S' a b :=
  ⟨h.os, h.tape, h.output, h.size, fun x hx hne => h.heap x hx (fun s => hne (hs x s))⟩
/-- Blocks laid since may be written. -/
theorem Tc.since {S S' : Nat → Prop} {a b : World} (h : Tc S a b) (hs : ∀ x, x < a.heap.size → S x → S' x) : Tc S' a b :=
  ⟨h.os, h.tape, h.output, h.size, fun x hx hne => h.heap x hx (fun s => hne (hs x hx s))⟩
theorem Tc.of_grown {S : Nat → Prop} {w w' : World} {r : Option Nat} (h : w.grownBy w' r) (hr : ∀ b, r = some b → S b) : Tc S w w' :=
  ⟨h.os, h.tape, h.output, h.size, fun b hb hS => h.block b hb (fun e => hS (hr b e.symm))⟩
theorem Gr.tc {w w' : World} (h : Gr w w') (S : Nat → Prop) : Tc S w w' :=
  ⟨h.below.os, h.below.tape, h.below.output, h.size, fun _ hb _ => h.heap hb⟩
theorem Tc.stp {S : Nat → Prop} {w w' : World} (h : Tc S w w') (i : Nat) (own : Nat → Nat) (hS : ∀ b, b < w.heap.size → S b → own b = i) (j : Nat) : Stp i own (lab own w.heap.size j) w w' :=
  ⟨h.os, h.tape, h.output, h.size, fun _ hb => if_pos hb, fun b hb hne => h.heap b hb (fun s => hne (hS b hb s))⟩
theorem Tc.setCell {S : Nat → Prop} {a w : World} (h : Tc S a w) {p : Addr} (hp : S p.block) (u : Value) : Tc S a (w.setCell p u) :=
  h.trans ⟨rfl, rfl, rfl, by simp [World.setCell], fun k _ hk => Below.heap_setCell _ _ _ _ (fun e => hk (e ▸ hp))⟩
theorem Gr.stpL {w w' : World} (h : Gr w w') (i : Nat) (own : Nat → Nat) (j : Nat) : Stp i own (lab own w.heap.size j) w w' :=
  ⟨h.below.os, h.below.tape, h.below.output, h.size, fun _ hb => lab_old hb, fun _ hb _ => h.heap hb⟩
/-- A row of cells in a block of its own. -/
theorem ownsRow_heap {w w' : World} {base : Nat} {e : TypeId} {size : Nat} {v : Value} {n : Nat} {xs : List Value} (h : w.ownsRow base e size v n xs)
    (hk : ∀ b, v.ownBlock = some b → w'.heap[b]? = w.heap[b]?) : w'.ownsRow base e size v n xs := by
  refine ⟨h.1, ?_⟩
  rcases h.2 with hn | ⟨g, cap, cur, rfl, hb, hgg, rest⟩
  · exact .inl hn
  · exact .inr ⟨g, cap, cur, rfl, hb, by rw [hk g (by simp [Value.ownBlock])]; exact hgg, rest⟩
theorem ownsMap_heap {H : Type} {P : Program} {k : TypeId} {R : Value → Option (DataW H × List MemPlace)} {w w' : World} {b n : Nat} {D : DataW H} (h : w.ownsMap P k R b n D)
    (hk : w'.heap[b]? = w.heap[b]?) : w'.ownsMap P k R b n D := by
  obtain ⟨es, clock, hb, F, hs, hD⟩ := h
  exact ⟨es, clock, hk.trans hb, F, hs, hD⟩
theorem ownsMap_at {H : Type} {P : Program} {k : TypeId} {R : Value → Option (DataW H × List MemPlace)} {w : World} {b n m : Nat} {D : DataW H} (h : w.ownsMap P k R b n D) (hm : Maps.size D ≤ m) : w.ownsMap P k R b m D := by
  obtain ⟨es, clock, hb, F, hs, hD⟩ := h
  refine ⟨es, clock, hb, F, ?_, hD⟩
  subst hD
  rw [Maps.size_eq, length_sorted] at hm
  simpa using hm

theorem ownsRow_slice {w : World} {base : Nat} {e : TypeId} {size : Nat} {v : Value} {n : Nat} {xs : List Value} (h : w.ownsRow base e size v n xs) : ∃ (a : Option Addr) (c : Nat), v = .slice a n c := by
  rcases h.2 with ⟨rfl, rfl⟩ | ⟨g, cap, cur, rfl, _⟩
  · exact ⟨none, 0, rfl⟩
  · exact ⟨_, cap, rfl⟩
theorem ownsRow_base0 {W : World} {base : Nat} {e : TypeId} {size : Nat} {v : Value} {k : Nat} {xs : List Value} (h : W.ownsRow base e size v k xs) : W.ownsRow 0 e size v k xs := by
  refine ⟨h.1, ?_⟩
  rcases h.2 with h2 | ⟨g, cap, cur, h1, _, h3⟩
  · exact .inl h2
  · exact .inr ⟨g, cap, cur, h1, Nat.zero_le _, h3⟩
theorem ownsRow_set {w : World} {base : Nat} {e : TypeId} {size g n c : Nat} {xs : List Value} (h : w.ownsRow base e size (.slice (some ⟨g, 0, none⟩) n c) n xs) (j : Nat) (u : Value) :
    (w.setCell ⟨g, j, none⟩ u).ownsRow base e size (.slice (some ⟨g, 0, none⟩) n c) n (xs.set j u) := by
  refine ⟨by simpa using h.1, ?_⟩
  rcases h.2 with ⟨h0, _⟩ | ⟨g', cap, cur, hv, hb, hg, h1, h2, h3, h4⟩
  · cases h0
  · cases hv
    refine .inr ⟨g, _, cur.setIfInBounds j u, rfl, hb, ?_, h1, h2, by simpa using h3, ?_⟩
    · simp only [World.setCell, Array.getElem?_modify, hg]
      simp
    · rw [Array.toList_setIfInBounds, List.take_set, h4]
theorem ownsRow_frozen {w : World} {base : Nat} {e : TypeId} {size g n c : Nat} {xs : List Value} (h : w.ownsRow base e size (.slice (some ⟨g, 0, none⟩) n c) n xs) (j : Nat) : w.frozen? ⟨g, j, none⟩ = false := by
  rcases h.2 with ⟨h0, _⟩ | ⟨g', cap, cur, hv, hb, hg, _⟩
  · cases h0
  · cases hv
    simp only [World.frozen?, hg]
    simp
/-- 'append' onto a row of one's own: the row stays, or lies in a new block. -/
theorem run_append_own2 {P : Program} (w : World) (t ty e : TypeId) (i : TypeInfo) (z : Value) (size bytes : Nat) (ht : P.underlying t = some (.slice e)) (hi : P.info? e = some i) (hz : i.zero = some z)
    (hsize : i.size = size) (hby : i.bytes = bytes) (hzs : z.cells.size = size) (hsz : 0 < size)
    (v : Value) (n : Nat) (xs : List Value) (hown : w.ownsRow 0 e size v n xs)
    (a : Addr) (m c : Nat) (news : List Value) (hl : news.length = m * size) (hnews : ∀ j u, news[j]? = some u → w.cell? (a.add j) = some u) (h1 : ∀ u ∈ news, u.oneCell' = true)
    (h63 : n + m ≤ maxLen) (hbytes : (n + m) * bytes ≤ 140737488355328) :
    ∃ v' w', (Builtin.append_ #[t, t] ty #[v, .slice (some a) m c]).run P w = .ok v' w' ∧ w'.ownsRow 0 e size v' (n + m) (xs ++ news) ∧ w.grownBy w' v.ownBlock ∧ (v'.ownBlock = v.ownBlock ∨ ∀ b, v'.ownBlock = some b → w.heap.size ≤ b) := by
  rcases hown.2 with ⟨rfl, rfl⟩ | ⟨g, cap, cur, rfl, hbg, hg, hnc, hcm, hcs, htake⟩
  · have hx : xs = [] := List.eq_nil_of_length_eq_zero (by simpa using hown.1)
    subst hx
    obtain ⟨v', w', r1, r2, r3, _⟩ := run_append_own (P := P) w w.heap.size t ty e i z size bytes ht hi hz hsize hby hzs hsz (.slice none 0 0) 0 [] (World.ownsRow_nil w _ e size) a m c news hl hnews h1 h63 hbytes (Nat.le_refl _)
    exact ⟨v', w', r1, ownsRow_base0 r2, r3, .inr fun b hb => (r2.lt b hb).1⟩
  · by_cases hroom : n + m ≤ cap
    · subst hsize
      have hlen : (xs ++ news).length = (n + m) * i.size := by rw [List.length_append, hown.1, hl, Nat.add_mul]
      have hfit : n * i.size + news.length ≤ cur.size := by rw [hl, hcs, ← Nat.add_mul]; exact Nat.mul_le_mul_right _ hroom
      have hr := run_append_room (P := P) w t ty e i ht hi g n cap cur hg a m c news hl hnews h1 hroom hfit
      refine ⟨_, _, hr, ⟨hlen, .inr ⟨g, cap, _, rfl, hbg, setRow_heap w g cur _ e _ hg, hroom, hcm, ?_, ?_⟩⟩, ⟨rfl, rfl, rfl, by simp, fun k _ hk => setRow_other w g k _ (fun e => hk (by simp [Value.ownBlock, e]))⟩, .inl rfl⟩
      · simp only [List.size_toArray, List.length_append, List.length_take, List.length_drop, Array.length_toList]
        omega
      · rw [htake, ← hlen]
        exact List.take_left
    · have holds : ∀ j u, xs[j]? = some u → w.cell? ((⟨g, 0, none⟩ : Addr).add j) = some u := hown.cells (g := g) rfl
      obtain ⟨v', w', r1, r2, r3⟩ := run_append_arg_grows (P := P) w t ty e i z size bytes ht hi hz hsize hby hzs hsz ⟨g, 0, none⟩ n cap xs hown.1 holds a m c news hl hnews (by omega) h63 hbytes
      exact ⟨v', w', r1, ownsRow_base0 r2, ⟨r3.os, r3.tape, r3.output, r3.size, fun k hk _ => r3.block k hk (by simp)⟩, .inr fun b hb => (r2.lt b hb).1⟩
/-- .. as one step of a region that draws. -/
theorem step_append_own {P : Program} {ops : Array Oper} {o : Oper} {a : Act} {w : World} {K : Act → World → Prop} {Q : Exit → Act → World → Prop} {E : Prop}
    (hg : o.guard = none) (s x : Operand) (t : TypeId) (hop : o.op = Op.call { callee := Callee.builtin Builtin.append, args := #[s, x], argTypes := #[t, t] })
    (e : TypeId) (i : TypeInfo) (z : Value) (size bytes : Nat) (ht : P.underlying t = some (.slice e)) (hi : P.info? e = some i) (hz : i.zero = some z)
    (hsize : i.size = size) (hby : i.bytes = bytes) (hzs : z.cells.size = size) (hsz : 0 < size)
    (v : Value) (n : Nat) (xs : List Value) (hs : a.eval s = v) (hown : w.ownsRow 0 e size v n xs)
    (ad : Addr) (m c : Nat) (news : List Value) (hx : a.eval x = .slice (some ad) m c) (hl : news.length = m * size) (hnews : ∀ j u, news[j]? = some u → w.cell? (ad.add j) = some u) (h1 : ∀ u ∈ news, u.oneCell' = true)
    (h63 : n + m ≤ maxLen) (hbytes : (n + m) * bytes ≤ 140737488355328)
    (hK : ∀ v' w', w'.ownsRow 0 e size v' (n + m) (xs ++ news) → w.grownBy w' v.ownBlock → (v'.ownBlock = v.ownBlock ∨ ∀ b, v'.ownBlock = some b → w.heap.size ≤ b) → K (a.put o.dst v') w') :
    if Region.wanted o (yielded ops a.tmps) = true then Oper.wp P o a w K Q else E := by
  have hw : Region.wanted o (yielded ops a.tmps) = true := by simp [Region.wanted, hg]
  rw [if_pos hw]
  obtain ⟨v', w', hr, h2, h3, h4⟩ := run_append_own2 (P := P) w t o.type e i z size bytes ht hi hz hsize hby hzs hsz v n xs hown ad m c news hl hnews h1 h63 hbytes
  unfold Oper.wp execOp
  simp only [hop, resolve, invoke, builtin, Sem.run_bind, Sem.run_pure, Result.andThen_ok, List.map_toArray, List.map_cons, List.map_nil, hs, hx, hr]
  exact hK v' w' h2 h3 h4
/-- .. and at an operation that stands in its order. -/
theorem wpList_append_own2 {P : Program} {ops : Array Oper} {rest : List Oper} {o : Oper} {a : Act} {w : World} {Q : Exit → Act → World → Prop}
    (hg : o.guard = none) (s x : Operand) (t : TypeId) (hop : o.op = Op.call { callee := Callee.builtin Builtin.append, args := #[s, x], argTypes := #[t, t] })
    (e : TypeId) (i : TypeInfo) (z : Value) (size bytes : Nat) (ht : P.underlying t = some (.slice e)) (hi : P.info? e = some i) (hz : i.zero = some z)
    (hsize : i.size = size) (hby : i.bytes = bytes) (hzs : z.cells.size = size) (hsz : 0 < size)
    (v : Value) (n : Nat) (xs : List Value) (hs : a.eval s = v) (hown : w.ownsRow 0 e size v n xs)
    (ad : Addr) (m c : Nat) (news : List Value) (hx : a.eval x = .slice (some ad) m c) (hl : news.length = m * size) (hnews : ∀ j u, news[j]? = some u → w.cell? (ad.add j) = some u) (h1 : ∀ u ∈ news, u.oneCell' = true)
    (h63 : n + m ≤ maxLen) (hbytes : (n + m) * bytes ≤ 140737488355328)
    (hK : ∀ v' w', w'.ownsRow 0 e size v' (n + m) (xs ++ news) → w.grownBy w' v.ownBlock → (v'.ownBlock = v.ownBlock ∨ ∀ b, v'.ownBlock = some b → w.heap.size ≤ b) → wpList P ops Q rest (a.put o.dst v') w') :
    wpList P ops Q (o :: rest) a w := by
  refine wpList_plain hg fun K' hK' => ?_
  obtain ⟨v', w', hr, h2, h3, h4⟩ := run_append_own2 (P := P) w t o.type e i z size bytes ht hi hz hsize hby hzs hsz v n xs hown ad m c news hl hnews h1 h63 hbytes
  unfold Oper.wp execOp
  simp only [hop, resolve, invoke, builtin, Sem.run_bind, Sem.run_pure, Result.andThen_ok, List.map_toArray, List.map_cons, List.map_nil, hs, hx, hr]
  exact hK' _ _ (hK v' w' h2 h3 h4)
theorem newCells {w : World} {c : Array Value} {e : TypeId} {f : Nat × Nat} (j : Nat) (u : Value) (h : c.toList[j]? = some u) : (w.alloc (.cells c e f)).cell? ((⟨w.heap.size, 0, none⟩ : Addr).add j) = some u := by
  rw [show (⟨w.heap.size, 0, none⟩ : Addr).add j = ⟨w.heap.size, j, none⟩ from by unfold Addr.add; split <;> simp_all]
  simp only [World.cell?]
  rw [show (w.alloc (.cells c e f)).heap[w.heap.size]? = some (.cells c e f) from heap_alloc_new w _]
  simpa using h
theorem newCells2 {w : World} {A : Obj} {c : List Value} {e : TypeId} {f : Nat × Nat} (j : Nat) (u : Value) (h : c[j]? = some u) : ((w.alloc A).alloc (.cells c.toArray e f)).drew.cell? ((⟨w.heap.size + 1, 0, none⟩ : Addr).add j) = some u := by
  have := newCells (w := w.alloc A) (c := c.toArray) (e := e) (f := f) j u h
  rw [show (w.alloc A).heap.size = w.heap.size + 1 from by simp] at this
  exact this
end Go.Proofs.YtkpfoaeldkkciaaGreat
