/- The inbox's Hold, at the calls of the chapter's examples. -/
import Derived.Test.YtnkojlbceieinaaUnread
import Derived.Deep.RegionHeld3
namespace Go.Proofs.Ytnkojlbceieinaa
open Go.RowKit
open Go.ChangeMaps (setBlock)
theorem Hold_stale (w : World) (p v : Value) (nx i : Int) (h : i ≤ nx) : Calls Try.prog 17 #[p, .int .u32 nx, .int .u32 i, v] w fun e w' => e = .returned (.int .i64 84) ∧ w = w' := by
  go_enter Try.func17, Try.ntmps17
  go_wp2
  go_ret
  exact ⟨rfl, rfl⟩
theorem Hold_ahead (w : World) (p v : Value) (nx i : Int) (h0 : 0 ≤ nx) (h : nx + 4 ≤ i) (h1 : i ≤ 4294967295) : Calls Try.prog 17 #[p, .int .u32 nx, .int .u32 i, v] w fun e w' => e = .returned (.int .i64 85) ∧ w = w' := by
  go_enter Try.func17, Try.ntmps17
  go_wp2
  go_ret
  exact ⟨rfl, rfl⟩
/-- what the first 'Hold' leaves: a map of one frame, a copy of the bytes -/
def HoldLeft (w : World) (bx m : Nat) (uv : Value) (i : Int) (xs : List Value) (e : Ending) (w' : World) : Prop :=
  ∃ bm A' c', e = .returned (.int .i64 0) ∧ w.heap.size ≤ bm ∧ w'.heap[bx]? = some (.cells #[.map (some bm), uv] 28 (0, 0)) ∧ w'.heap[bm]? = some (.map #[⟨.int .u32 i, .slice A' m c', 0⟩] 1) ∧
    Rd w' w'.heap.size A' m xs ∧ (∀ a, A' = some a → Cells w' 5 a.block) ∧ w.heap.size ≤ w'.heap.size ∧ w'.os = w.os ∧ w'.tape = w.tape ∧ w'.output = w.output ∧ ∀ k, k < w.heap.size → k ≠ bx → w'.heap[k]? = w.heap[k]?
set_option maxHeartbeats 400000 in
theorem Hold_first (w : World) (bx m c0 B : Nat) (A0 : Option Addr) (uv : Value) (nx i : Int) (xs : List Value) (h : nx < i) (hi4 : i < nx + 4)
    (hx : w.heap[bx]? = some (.cells #[.map none, uv] 28 (0, 0))) (hx1 : ∀ u ∈ xs, u.oneCell' = true) (hm : m ≤ 140737488355328) (hr : Rd w B A0 m xs) (hne : 0 < m → ∀ a, A0 = some a → a.block ≠ bx) :
    Calls Try.prog 17 #[.pointer (some ⟨bx, 0, none⟩), .int .u32 nx, .int .u32 i, .slice A0 m c0] w (HoldLeft w bx m uv i xs) := by
  have hc : w.cell? ⟨bx, 0, none⟩ = some (.map none) := by rw [cell_of_row w bx 0 _ _ _ hx]; rfl
  have hf : w.frozen? ⟨bx, 0, none⟩ = false := by simp [World.frozen?, hx]
  have hlt : bx < w.heap.size := World.block_lt_of_cell? w ⟨bx, 0, none⟩ hc
  have hz : (zeroValue 30).run Try.prog w = .ok (.slice none 0 0) w := by kernel_rfl
  have L1 := run_lookup_nil (P := Try.prog) (i := i) Try.underlying25 Try.underlying29 hz
  have M1 := @run_makeMap Try.prog
  have EQ : ∀ w, Sem.run Try.prog (binOp .eql 25 (.map none) (.map none)) w = .ok (.bool true) w := fun w => by kernel_rfl
  have HX := Lib.hid hx
  clear hx hz
  go_enter Try.func17, Try.ntmps17
  go_wp2
  obtain ⟨W, hW⟩ : ∃ W, W = (w.setCell ⟨bx, 0, none⟩ (.map (some w.heap.size))).alloc (.map #[] 0) := ⟨_, rfl⟩
  rw [← hW]
  have hsz : (w.setCell ⟨bx, 0, none⟩ (.map (some w.heap.size))).heap.size = w.heap.size := by simp [World.setCell]
  have hbW : W.heap[bx]? = some (.cells #[.map (some w.heap.size), uv] 28 (0, 0)) := by
    rw [hW, heap_alloc_old _ _ (by rw [hsz]; exact hlt), heap_setCell_same w bx 0 _ _ _ _ HX.out]; rfl
  have hmW : W.heap[w.heap.size]? = some (.map #[] 0) := by
    have := heap_alloc_new (w.setCell ⟨bx, 0, none⟩ (.map (some w.heap.size))) (.map #[] 0)
    rw [hsz] at this; rw [hW]; exact this
  have hcW : W.cell? ⟨bx, 0, none⟩ = some (.map (some w.heap.size)) := by rw [cell_of_row W bx 0 _ _ _ hbW]; rfl
  have hsW : W.heap.size = w.heap.size + 1 := by rw [hW, World.size_alloc, hsz]
  have hold : ∀ k, k < w.heap.size → k ≠ bx → W.heap[k]? = w.heap[k]? := fun k hk hne => by
    rw [hW, heap_alloc_old _ _ (by rw [hsz]; exact hk), Below.heap_setCell _ _ _ _ hne]
  have hrW : Rd W W.heap.size A0 m xs := ⟨hr.len, fun hn => by
    obtain ⟨a, ea, _, hcs⟩ := hr.at_ hn
    have hla : a.block < w.heap.size := by
      obtain ⟨u, hu⟩ : ∃ u, xs[0]? = some u := ⟨xs[0]'(by rw [hr.len]; exact hn), List.getElem?_eq_getElem _⟩
      have := World.block_lt_of_cell? w _ (hcs 0 u hu)
      rw [add_block] at this; exact this
    exact ⟨a, ea, by omega, fun j u hu => (World.cell?_of_block (w := w) (by rw [add_block]; exact hold _ hla (hne hn a ea))).trans (hcs j u hu)⟩⟩
  have hos : W.os = w.os ∧ W.tape = w.tape ∧ W.output = w.output := by rw [hW]; exact ⟨rfl, rfl, rfl⟩
  have HW := Lib.hid (And.intro hbW (And.intro hmW (And.intro hsW (And.intro hold hos))))
  have hltW : bx < W.heap.size := by omega
  obtain ⟨bm, hbm⟩ : ∃ bm, bm = w.heap.size := ⟨_, rfl⟩
  rw [← hbm] at hcW hmW
  rw [← hbm]
  have HBM := Lib.hid hbm
  clear hW hsz hbW hsW hold hos L1 M1 EQ hc hf hr hbm
  go_region_held3 (fun w' => w'.cell? ⟨bx, 0, none⟩ = some (.map (some bm))) (first | exact hcW | exact hc1 | exact hc2 _ | go_keep)
    (first | (go_at_call 19; refine (clone_any _ _ A0 m c0 xs hx1 hm hrW.drew).mono ?_; rintro e w1 ⟨A1, c1, rfl, hr1, hf1, hb0⟩; have hb1 : Below W.heap.size W w1 := below_of_drew hb0; clear hb0; have HF1 := Lib.hid hf1; clear hf1; have hc1 : w1.cell? ⟨bx, 0, none⟩ = some (.map (some bm)) := (hb1.cell (p := ⟨bx, 0, none⟩) hltW).trans hcW; have hm1 : w1.heap[bm]? = some (.map #[] 0) := (hb1.block bm (by have := HW.out.2.2.1; have := HBM.out; omega)).trans hmW; have M2 := run_mapUpdate_new (P := Try.prog) (i := i) (v := .slice A1 m c1) Try.underlying25 Try.underlying29 hm1; have hc2 : ∀ o, (setBlock w1 bm o).cell? ⟨bx, 0, none⟩ = some (.map (some bm)) := fun o => (World.cell?_of_block (w := w1) (a := ⟨bx, 0, none⟩) (heap_setBlock_other w1 bm o bx (by have := HBM.out; omega))).trans hc1; have HM := Lib.hid (And.intro hm1 (And.intro hr1 hb1)); clear hm1 hr1 hb1))
  go_wp2
  go_ret
  obtain ⟨hm1, hr1, hb1⟩ := HM.out
  obtain ⟨hbW, _, hsW, hold, ho1, ho2, ho3⟩ := HW.out
  have hbm := HBM.out
  have hs1 := hb1.size
  refine ⟨bm, A1, c1, rfl, by omega, ?_, heap_setBlock_same _ _ _ (by omega), ?_, ?_, by simp [setBlock]; omega, hb1.os.trans ho1, hb1.tape.trans ho2, hb1.output.trans ho3, ?_⟩
  · rw [heap_setBlock_other _ _ _ _ (by omega), hb1.block bx hltW, hbW, hbm]
  · refine ⟨hr1.len, fun hn => ?_⟩
    obtain ⟨a, ea, hla, hcs⟩ := hr1.at_ hn
    refine ⟨a, ea, by simpa [setBlock] using hla, fun j u hu => (World.cell?_of_block (w := w1) ?_).trans (hcs j u hu)⟩
    have hca := hcs j u hu
    rw [add_block]
    refine heap_setBlock_other _ _ _ _ (fun e => ?_)
    rw [World.cell?, add_block, e, hm1] at hca
    cases hca
  · intro a ea
    obtain ⟨_, cs, hcs⟩ := HF1.out a ea
    refine ⟨cs, (heap_setBlock_other _ _ _ _ (fun e => ?_)).trans hcs⟩
    rw [e, hm1] at hcs
    cases hcs
  · intro k hk hne
    rw [heap_setBlock_other _ _ _ _ (by omega), hb1.block k (by omega), hold k hk hne]
end Go.Proofs.Ytnkojlbceieinaa
