/- Now: whom one sees who begins now. -/
import Derived.Test.YtannjecmfbhkeaaTxn
import Derived.Test.YtannjecmfbhkeaaShelfP
namespace Go.Proofs.Ytannjecmfbhkeaa
open Go Go.RowKit Go.Lib Go.Maps Go.Sort Go.Shelf Go.Proofs

theorem sortsA (m : Nat) : AnyZI.SortsIn Try.prog Try.sortedA_ren Fence.wide m :=
  ⟨fun blk off cap ss W hH hblk hsz => callsIn_wide.2 (AnyM.slices_Sort_int Try.sortA blk off cap ss W hH hblk hsz),
   fun p cap W => callsIn_wide.2 (AnyM.slices_Sort_int_none Try.sortA p cap W)⟩
theorem Keys_calls (mb : Option Nat) (W : World) : Calls Try.prog 36 #[.map mb] W fun e w' => e = .returned (.func (.func 63) #[] #[.pointer (some ⟨W.heap.size, 0, none⟩)]) ∧ W.alloc (.cells #[.map mb] 76) = w' :=
  (callsIn_wide (n := 5)).1 ((AnyZI.keys_in Try.keysA Fence.wide 5 trivial rfl mb W).mono fun _ _ ⟨h1, h2⟩ => ⟨h1, h2.symm⟩)
def SortedRes (S : List Int) (W : World) (e : Ending) (w' : World) : Prop :=
  ∃ (a : Option Addr) (c : Nat), e = .returned (.slice a S.length c) ∧ w'.ownsRow W.heap.size 2 1 (.slice a S.length c) S.length (S.map (Value.int .i64)) ∧ Below W.heap.size W w'
theorem Sorted_calls (W : World) (B b : Nat) (S : List Int) (hB : W.cell? ⟨B, 0, none⟩ = some (.map (some b))) (hS : SetOk W b S) (hs : S.Pairwise (· < ·)) (hl : S.length ≤ 1000000) :
    Calls Try.prog 35 #[.func (.func 63) #[] #[.pointer (some ⟨B, 0, none⟩)]] W fun e w' => SortedRes S W e w' := by
  have hseq : SeqGives Fence.wide 2 Try.prog 63 #[.pointer (some ⟨B, 0, none⟩)] encZ (fun ss => ss.Perm (intKeys (mapD S))) (Maps.size (mapD S)) W :=
    AnyZI.keys_gives (ρ := Try.keysA_ren) { Try.keysA with } Fence.wide _ trivial rfl (by omega) B b S.length (mapD S) _ (World.block_lt_of_cell? W ⟨B, 0, none⟩ hB) hB hS
  have cS := AnyZI.sorted_in Try.sortedA Fence.wide 5 trivial trivial trivial trivial rfl (by omega) (sortsA _) (enters_of Try.func62 (by kernel_rfl) rfl) 63 #[.pointer (some ⟨B, 0, none⟩)] trivial (enters_of Try.func63 (by kernel_rfl) rfl) _ _ (by rw [size_mapD]; unfold maxLen; omega) (by rw [size_mapD]; omega) _ hseq
  refine (callsIn_wide (n := 5)).1 (cS.mono ?_)
  rintro e w' ⟨v, ss, he, hp, ho, _, hb⟩
  rw [intKeys_mapD] at hp
  have e1 : ss.mergeSort (fun x y => decide (x ≤ y)) = S := (mergeSort_of_perm_i hp).trans (mergeSort_of_sorted hs)
  rw [e1, hp.length_eq] at ho
  obtain ⟨a, c, rfl⟩ := ownsRow_slice ho
  exact ⟨a, c, he, ho, hb⟩

theorem now_own {w w1 : World} {A B : Obj} {v : Value} {n : Nat} {xs : List Value} (h : w1.ownsRow ((w.alloc A).alloc B).drew.heap.size 2 1 v n xs) : w1.ownsRow (w.heap.size + 1) 2 1 v n xs :=
  ownsRow_base_a h (by simp <;> omega)
theorem now_below {w w1 : World} {A B : Obj} (h : Below ((w.alloc A).alloc B).drew.heap.size ((w.alloc A).alloc B).drew w1) : Below w.heap.size w w1 :=
  (((Below.refl _ w).alloc (Nat.le_refl _) A).alloc (by simp) B).drew.trans (h.mono (B' := w.heap.size) (by simp <;> omega))
/-- What Now answers. -/
def NowRes (t : TS) (w : World) (e : Ending) (w' : World) : Prop :=
  ∃ (a : Option Addr) (c : Nat), e = .returned (.agg #[.int .i64 ((t.length : Int) + 1), .slice a (openL t).length c]) ∧ w'.ownsRow w.heap.size 2 1 (.slice a (openL t).length c) (openL t).length ((openL t).map (Value.int .i64)) ∧ Below w.heap.size w w'
set_option maxHeartbeats 1600000 in
theorem Now_calls (w : World) (pm bo bd : Nat) (t : TS) (hM : MgrOk w pm bo bd t) :
    Calls Try.prog 15 #[.pointer (some ⟨pm, 0, none⟩)] w fun e w' => NowRes t w e w' := by
  have c0 := hM.c0
  have c1 := hM.c1
  have hlt := hM.lt
  go_enter Try.func15, Try.ntmps15
  go_wp2_with fail
  have hO := hM.hO
  have hpm := hlt.1
  have hne : w.heap.size ≠ pm := by omega
  have hlen : (openL t).length ≤ 1000000 := by have := hM.six; omega
  clear hlt hM
  go_region_with (first
    | (go_at_call 36; refine (Keys_calls _ _).mono ?_; rintro e w' ⟨rfl, rfl⟩)
    | (go_at_call 35; refine (Sorted_calls _ _ bo (openL t) (by simp) (by exact (hO.alloc _).alloc _) sel_sorted hlen).mono ?_; rintro e w1 ⟨a, c, rfl, ho, hb⟩; have k0 : w1.cell? ⟨pm, 0, none⟩ = some (.int .i64 ((t.length : Int) + 1)) := (hb.cell (p := ⟨pm, 0, none⟩) (by simp <;> omega)).trans (by simp [go_sem, c0, hpm]); have k1 : w1.cell? ⟨w.heap.size, 0, none⟩ = some (.int .i64 0) := (hb.cell (p := ⟨w.heap.size, 0, none⟩) (by simp <;> omega)).trans (by simp [go_sem]); have k2 : w1.cell? ⟨w.heap.size, 1, none⟩ = some (.slice none 0 0) := (hb.cell (p := ⟨w.heap.size, 1, none⟩) (by simp <;> omega)).trans (by simp [go_sem]); have k3 : w1.frozen? ⟨w.heap.size, 0, none⟩ = false := (hb.frozen (p := ⟨w.heap.size, 0, none⟩) (by simp <;> omega)).trans (by simp [go_sem]); have k4 : w1.frozen? ⟨w.heap.size, 1, none⟩ = false := (hb.frozen (p := ⟨w.heap.size, 1, none⟩) (by simp <;> omega)).trans (by simp [go_sem]); have HO := Lib.hid (now_own ho); have HB := Lib.hid (now_below hb); clear ho hb))
  all_goals go_wp2
  all_goals refine bodyPost_ret (v := .agg #[.int .i64 ((t.length : Int) + 1), .slice a (openL t).length c]) ?_ rfl ⟨a, c, rfl, ?_, ?_⟩
  all_goals first
    | (simp [results, Try.results15, go_sem, k1, k2]; done)
    | exact ownsRow_base_a (ownsRow_setCell_below (ownsRow_setCell_below HO.out (by simp) _) (by simp) _) (by omega)
    | exact (HB.out.setCell (Nat.le_refl _) _).setCell (Nat.le_refl _) _
end Go.Proofs.Ytannjecmfbhkeaa
