/- The inbox's Turn, at a map of at most one frame. -/
import Derived.Test.YtnkojlbceieinaaRows
import Derived.Test.YtnkojlbceieinaaMaps
import Derived.LoopN
namespace Go.Proofs.Ytnkojlbceieinaa
open Go.RowKit
open Go.ChangeMaps (setBlock)
theorem heap_setBlock_other (w : World) (r : Nat) (o : Obj) (k : Nat) (h : k ≠ r) : (setBlock w r o).heap[k]? = w.heap[k]? := by
  simp [setBlock, Ne.symm h]
theorem heap_setBlock_same (w : World) (r : Nat) (o : Obj) (h : r < w.heap.size) : (setBlock w r o).heap[r]? = some o := by
  simp [setBlock, h]
theorem setBlock_below {w0 w : World} {B r : Nat} {o : Obj} (h : Below B w0 w) (hr : B ≤ r) : Below B w0 (setBlock w r o) :=
  h.trans ⟨rfl, rfl, rfl, by simp [setBlock], fun k hk => heap_setBlock_other w r o k (by omega)⟩
/-- 'Turn' at the frame whose turn it is: it is told, and goes. -/
theorem Turn_hit (w : World) (bx bm : Nat) (i : Int) (v : Value)
    (hx0 : w.cell? ⟨bx, 0, none⟩ = some (.map (some bm))) (hm : w.heap[bm]? = some (.map #[⟨.int .u32 i, v, 0⟩] 1)) :
    Calls Try.prog 18 #[.pointer (some ⟨bx, 0, none⟩), .int .u32 i] w fun e w' => e = .returned (.tuple #[v, .bool true]) ∧ ∃ w1, Below w.heap.size w w1 ∧ w' = setBlock w1 bm (.map #[] 1) := by
  have hlt : bm < w.heap.size := by
    rcases Nat.lt_or_ge bm w.heap.size with h | h
    · exact h
    · rw [Array.getElem?_eq_none h] at hm; cases hm
  have hbx : bx < w.heap.size := World.block_lt_of_cell? w ⟨bx, 0, none⟩ hx0
  have R := run_range_map (P := Try.prog) w 25 29 30 bm _ _ Try.underlying25 hm
  obtain ⟨w2, hw2⟩ : ∃ w2, w2 = w.alloc (.mapIter (some bm) 1 #[] 1) := ⟨_, rfl⟩
  obtain ⟨w3, hw3⟩ : ∃ w3, w3 = setBlock w2 w.heap.size (.mapIter (some bm) 1 #[0] 1) := ⟨_, rfl⟩
  have hr2 : w2.heap[w.heap.size]? = some (.mapIter (some bm) 1 #[] 1) := by rw [hw2]; exact heap_alloc_new w _
  have hm2 : w2.heap[bm]? = some (.map #[⟨.int .u32 i, v, 0⟩] 1) := by rw [hw2, heap_alloc_old w _ hlt]; exact hm
  have hr3 : w3.heap[w.heap.size]? = some (.mapIter (some bm) 1 #[0] 1) := by rw [hw3]; exact heap_setBlock_same _ _ _ (by rw [hw2]; simp)
  have hm3 : w3.heap[bm]? = some (.map #[⟨.int .u32 i, v, 0⟩] 1) := by rw [hw3, heap_setBlock_other _ _ _ _ (by omega)]; exact hm2
  have hx2 : w3.cell? ⟨bx, 0, none⟩ = some (.map (some bm)) := by
    rw [hw3, World.cell?_of_block (w := w2) (heap_setBlock_other _ _ _ _ (by show bx ≠ _; omega)), hw2, World.cell?_alloc_lt w _ _ (World.block_lt_of_cell? w _ hx0)]; exact hx0
  have N1 := fun ty => run_next_one (P := Try.prog) ty hr2 hm2
  have N2 := fun ty => run_next_over (P := Try.prog) ty hr3 hm3
  have E1 := run_entry_one (P := Try.prog) hr3 hm3
  have hz : (zeroValue 30).run Try.prog w3 = .ok (.slice none 0 0) w3 := by kernel_rfl
  have L1 := run_lookup_one (P := Try.prog) (i := i) Try.underlying25 Try.underlying29 hz hm3
  have D1 := fun ty => run_delete_one (P := Try.prog) (D := 29) (ty := ty) (i := i) Try.underlying25 Try.underlying29 hm3
  rw [if_pos (beq_self_eq_true i)] at L1
  simp only [if_pos (beq_self_eq_true i)] at D1
  have hB : Below w.heap.size w w3 := by
    refine ⟨by rw [hw3, hw2]; rfl, by rw [hw3, hw2]; rfl, by rw [hw3, hw2]; rfl, by rw [hw3, hw2]; simp [setBlock], fun k hk => ?_⟩
    rw [hw3, heap_setBlock_other _ _ _ _ (by omega), hw2, heap_alloc_old w _ hk]
  rw [← hw2] at R
  simp only [← hw3] at N1
  clear hr2 hm2 hr3 hm3 hw2 hw3 hm hz
  have hnlt : ¬ i < i := by omega
  have HB := Lib.hid hB
  clear hB
  go_enter Try.func18, Try.ntmps18
  go_wp2
  refine wp_loop_rounds 2 ?_
  rw [rounds_succ]
  go_wp2
  rw [rounds_succ]
  go_wp2
  go_ret2
  exact ⟨rfl, w3, HB.out, rfl⟩

/-- 'Turn' ahead of the frame that waits: nothing is told, and it stays. -/
theorem Turn_miss (w : World) (bx bm : Nat) (i nx : Int) (v : Value) (hi : nx < i)
    (hx0 : w.cell? ⟨bx, 0, none⟩ = some (.map (some bm))) (hm : w.heap[bm]? = some (.map #[⟨.int .u32 i, v, 0⟩] 1)) :
    Calls Try.prog 18 #[.pointer (some ⟨bx, 0, none⟩), .int .u32 nx] w fun e w' => e = .returned (.tuple #[.slice none 0 0, .bool false]) ∧ ∃ w1, Below w.heap.size w w1 ∧ w' = setBlock w1 bm (.map #[⟨.int .u32 i, v, 0⟩] 1) := by
  have hlt : bm < w.heap.size := by
    rcases Nat.lt_or_ge bm w.heap.size with h | h
    · exact h
    · rw [Array.getElem?_eq_none h] at hm; cases hm
  have hbx : bx < w.heap.size := World.block_lt_of_cell? w ⟨bx, 0, none⟩ hx0
  have R := run_range_map (P := Try.prog) w 25 29 30 bm _ _ Try.underlying25 hm
  obtain ⟨w2, hw2⟩ : ∃ w2, w2 = w.alloc (.mapIter (some bm) 1 #[] 1) := ⟨_, rfl⟩
  obtain ⟨w3, hw3⟩ : ∃ w3, w3 = setBlock w2 w.heap.size (.mapIter (some bm) 1 #[0] 1) := ⟨_, rfl⟩
  have hr2 : w2.heap[w.heap.size]? = some (.mapIter (some bm) 1 #[] 1) := by rw [hw2]; exact heap_alloc_new w _
  have hm2 : w2.heap[bm]? = some (.map #[⟨.int .u32 i, v, 0⟩] 1) := by rw [hw2, heap_alloc_old w _ hlt]; exact hm
  have hr3 : w3.heap[w.heap.size]? = some (.mapIter (some bm) 1 #[0] 1) := by rw [hw3]; exact heap_setBlock_same _ _ _ (by rw [hw2]; simp)
  have hm3 : w3.heap[bm]? = some (.map #[⟨.int .u32 i, v, 0⟩] 1) := by rw [hw3, heap_setBlock_other _ _ _ _ (by omega)]; exact hm2
  have hx2 : w3.cell? ⟨bx, 0, none⟩ = some (.map (some bm)) := by
    rw [hw3, World.cell?_of_block (w := w2) (heap_setBlock_other _ _ _ _ (by show bx ≠ _; omega)), hw2, World.cell?_alloc_lt w _ _ (World.block_lt_of_cell? w _ hx0)]; exact hx0
  have N1 := fun ty => run_next_one (P := Try.prog) ty hr2 hm2
  have N2 := fun ty => run_next_over (P := Try.prog) ty hr3 hm3
  have E1 := run_entry_one (P := Try.prog) hr3 hm3
  have hz : (zeroValue 30).run Try.prog w3 = .ok (.slice none 0 0) w3 := by kernel_rfl
  have L1 := run_lookup_one (P := Try.prog) (i := nx) Try.underlying25 Try.underlying29 hz hm3
  have D1 := fun ty => run_delete_one (P := Try.prog) (D := 29) (ty := ty) (i := nx) Try.underlying25 Try.underlying29 hm3
  have hne : ¬ (nx == i) = true := by simp; omega
  rw [if_neg hne] at L1
  simp only [if_neg hne] at D1
  clear hne
  have hB : Below w.heap.size w w3 := by
    refine ⟨by rw [hw3, hw2]; rfl, by rw [hw3, hw2]; rfl, by rw [hw3, hw2]; rfl, by rw [hw3, hw2]; simp [setBlock], fun k hk => ?_⟩
    rw [hw3, heap_setBlock_other _ _ _ _ (by omega), hw2, heap_alloc_old w _ hk]
  rw [← hw2] at R
  simp only [← hw3] at N1
  clear hr2 hm2 hr3 hm3 hw2 hw3 hm hz
  have hnlt : ¬ i < nx := by omega
  have HB := Lib.hid hB
  clear hB
  go_enter Try.func18, Try.ntmps18
  go_wp2
  refine wp_loop_rounds 2 ?_
  rw [rounds_succ]
  go_wp2
  rw [rounds_succ]
  go_wp2
  go_ret2
  exact ⟨rfl, w3, HB.out, rfl⟩

/-- 'Turn' where none waits. -/
theorem Turn_empty (w : World) (bx bm : Nat) (nx : Int)
    (hx0 : w.cell? ⟨bx, 0, none⟩ = some (.map (some bm))) (hm : w.heap[bm]? = some (.map #[] 1)) :
    Calls Try.prog 18 #[.pointer (some ⟨bx, 0, none⟩), .int .u32 nx] w fun e w' => e = .returned (.tuple #[.slice none 0 0, .bool false]) ∧ ∃ w1, Below w.heap.size w w1 ∧ w' = setBlock w1 bm (.map #[] 1) := by
  have hlt : bm < w.heap.size := by
    rcases Nat.lt_or_ge bm w.heap.size with h | h
    · exact h
    · rw [Array.getElem?_eq_none h] at hm; cases hm
  have R := run_range_map (P := Try.prog) w 25 29 30 bm _ _ Try.underlying25 hm
  obtain ⟨w2, hw2⟩ : ∃ w2, w2 = w.alloc (.mapIter (some bm) 1 #[] 1) := ⟨_, rfl⟩
  have hr2 : w2.heap[w.heap.size]? = some (.mapIter (some bm) 1 #[] 1) := by rw [hw2]; exact heap_alloc_new w _
  have hm2 : w2.heap[bm]? = some (.map #[] 1) := by rw [hw2, heap_alloc_old w _ hlt]; exact hm
  have hx2 : w2.cell? ⟨bx, 0, none⟩ = some (.map (some bm)) := by
    rw [hw2, World.cell?_alloc_lt w _ _ (World.block_lt_of_cell? w _ hx0)]; exact hx0
  have N1 := fun ty => run_next_none (P := Try.prog) ty hr2 hm2
  have hz : (zeroValue 30).run Try.prog w2 = .ok (.slice none 0 0) w2 := by kernel_rfl
  have L1 := run_lookup_empty (P := Try.prog) (i := nx) Try.underlying25 Try.underlying29 hz hm2
  have D1 := fun ty => run_delete_empty (P := Try.prog) (D := 29) (ty := ty) (i := nx) Try.underlying25 Try.underlying29 hm2
  have hB : Below w.heap.size w w2 := by rw [hw2]; exact (Below.refl _ w).alloc (Nat.le_refl _) _
  rw [← hw2] at R
  clear hr2 hm2 hw2 hm hz
  have HB := Lib.hid hB
  clear hB
  go_enter Try.func18, Try.ntmps18
  go_wp2
  refine wp_loop_rounds 1 ?_
  rw [rounds_succ]
  go_wp2
  go_ret2
  exact ⟨rfl, w2, HB.out, rfl⟩
end Go.Proofs.Ytnkojlbceieinaa
