/- The inbox's Room, Put and Fetch. -/
import Derived.Test.YtnkojlbceieinaaShared
import Derived.Test.YtnkojlbceieinaaTurns
import Derived.Deep.RegionLaw
import Derived.Deep.AppendLies
namespace Go.Proofs.Ytnkojlbceieinaa
open Go.RowKit
open Go.ChangeMaps (setBlock)
theorem Room_any (w : World) (bx n c : Nat) (A : Option Addr) (hn : n ≤ 8) (hx : w.cell? ⟨bx, 1, none⟩ = some (.slice A n c)) :
    Calls Try.prog 6 #[.pointer (some ⟨bx, 0, none⟩)] w fun e w' => e = .returned (.int .i64 (8 - n)) ∧ w = w' := by
  go_enter Try.func6, Try.ntmps6
  go_wp2
  go_ret
  exact ⟨rfl, rfl⟩
theorem Put_full (w : World) (bx c : Nat) (A : Option Addr) (v : Value) (hx : w.cell? ⟨bx, 1, none⟩ = some (.slice A 8 c)) :
    Calls Try.prog 7 #[.pointer (some ⟨bx, 0, none⟩), v] w fun e w' => e = .returned (.int .i64 63) ∧ w = w' := by
  go_enter Try.func7, Try.ntmps7
  go_wp2
  go_ret
  exact ⟨rfl, rfl⟩
theorem Fetch_empty (w : World) (bx c : Nat) (A : Option Addr) (hx : w.cell? ⟨bx, 1, none⟩ = some (.slice A 0 c)) :
    Calls Try.prog 8 #[.pointer (some ⟨bx, 0, none⟩)] w fun e w' => e = .returned (.tuple #[.slice none 0 0, .int .i64 90]) ∧ w = w' := by
  go_enter Try.func8, Try.ntmps8
  go_wp2
  go_ret2
  exact ⟨rfl, rfl⟩
theorem Fetch_first (w : World) (bx g off n c : Nat) (v : Value) (hx : w.cell? ⟨bx, 1, none⟩ = some (.slice (some ⟨g, off, none⟩) (n + 1) c)) (hf : w.frozen? ⟨bx, 1, none⟩ = false) (hn : n ≤ 8)
    (hv : w.cell? ⟨g, off, none⟩ = some v) :
    Calls Try.prog 8 #[.pointer (some ⟨bx, 0, none⟩)] w fun e w' => e = .returned (.tuple #[v, .int .i64 0]) ∧ w' = w.setCell ⟨bx, 1, none⟩ (.slice (if c = 1 then some ⟨g, off, none⟩ else some ⟨g, off + 1, none⟩) n (c - 1)) := by
  go_enter Try.func8, Try.ntmps8
  go_wp2
  all_goals (go_ret2; exact ⟨rfl, by simp [*]⟩)
theorem Try.info30 : (Try.prog.info? 30).map (fun i => (i.zero, i.size, i.bytes)) = some (some (.slice none 0 0), 1, 24) := by kernel_rfl

/-- what 'Put' leaves: one more at the end of the row, a copy of the bytes -/
def PutLeft (w : World) (base bx n : Nat) (mo : Value) (us : List Value) (A : Option Addr) (m : Nat) (xs : List Value) (e : Ending) (w' : World) : Prop :=
  ∃ g off cap A' c', e = .returned (.int .i64 0) ∧ w'.heap[bx]? = some (.cells #[mo, .slice (some ⟨g, off, none⟩) (n + 1) cap] 28 (0, 0)) ∧
    QRow w' base 30 1 (.slice (some ⟨g, off, none⟩) (n + 1) cap) (n + 1) (us ++ [.slice A' m c']) ∧ Rd w' w'.heap.size A' m xs ∧ (∀ a, A' = some a → w.heap.size ≤ a.block ∧ Cells w' 5 a.block) ∧ w.heap.size ≤ w'.heap.size ∧ w'.os = w.os ∧ w'.tape = w.tape ∧ w'.output = w.output ∧
    (A.map (·.block) = some g ∨ w.heap.size ≤ g) ∧
    ∀ k, k < w.heap.size → k ≠ bx → A.map (·.block) ≠ some k → w'.heap[k]? = w.heap[k]?

theorem put_left {w w1 w2 : World} {base bx n m c : Nat} {mo : Value} {us xs : List Value} {A A1 : Option Addr} {c1 g off cap : Nat} (hx : w.heap[bx]? = some (.cells #[mo, .slice A n c] 28 (0, 0)))
    (hlt : bx < w.heap.size) (hb : Below w.heap.size w w1) (hr : Rd w1 w1.heap.size A1 m xs) (hA : ∀ k, A.map (·.block) = some k → k < w.heap.size)
    (hq : QRow w2 base 30 1 (.slice (some ⟨g, off, none⟩) (n + 1) cap) (n + 1) (us ++ [.slice A1 m c1])) (hgr : (w1.alloc (.cells #[.slice A1 m c1] 30)).grownBy w2 (Value.slice A n c).ownBlock)
    (hfr : (Value.slice A n c).ownBlock = some g ∨ (w1.alloc (.cells #[.slice A1 m c1] 30)).heap.size ≤ g) (hne : A.map (·.block) ≠ some bx) (hk : w2.heap[bx]? = w.heap[bx]?)
    (hdis : ∀ a, A1 = some a → w.heap.size ≤ a.block ∧ Cells w1 5 a.block) :
    PutLeft w base bx n mo us A m xs (.returned (.int .i64 0)) (w2.setCell ⟨bx, 1, none⟩ (.slice (some ⟨g, off, none⟩) (n + 1) cap)) := by
  have hob : (Value.slice A n c).ownBlock = A.map (·.block) := by cases A <;> rfl
  rw [hob] at hgr hfr
  have hsz : w1.heap.size + 1 ≤ w2.heap.size := by have := hgr.size; rw [World.size_alloc] at this; exact this
  have hs1 := hb.size
  have hgx : g ≠ bx := by
    rcases hfr with h | h
    · intro e; exact hne (by rw [h, e])
    · rw [World.size_alloc] at h; omega
  refine ⟨g, off, cap, A1, c1, rfl, ?_, ?_, ?_, ?_, ?_, ?_, ?_, ?_, ?_, ?_⟩
  · rw [heap_setCell_same w2 bx 1 _ _ _ _ (hk.trans hx)]; rfl
  · exact hq.setCell (p := ⟨bx, 1, none⟩) (fun e => hgx (by simpa [Value.ownBlock] using e)) _
  · have hset : (w2.setCell ⟨bx, 1, none⟩ (.slice (some ⟨g, off, none⟩) (n + 1) cap)).heap.size = w2.heap.size := by simp [World.setCell]
    rw [hset]
    refine ⟨hr.len, fun h0 => ?_⟩
    obtain ⟨a, ha, hlt', hc⟩ := hr.at_ h0
    refine ⟨a, ha, by omega, fun j u hu => ?_⟩
    have h1 := hc j u hu
    have hfa := (hdis a ha).1
    rw [World.cell?_of_block (w := w2) (by rw [add_block]; exact Below.heap_setCell _ _ _ _ (by show a.block ≠ bx; omega)),
      World.cell?_of_block (w := w1) (by rw [add_block, hgr.block a.block (by rw [World.size_alloc]; omega) (fun e => by have := hA _ e.symm; omega), heap_alloc_old w1 _ hlt'])]
    exact h1
  · intro a ha
    obtain ⟨h1, h2⟩ := hdis a ha
    refine ⟨h1, ?_⟩
    have h3 := h2.lt
    obtain ⟨cs, h2⟩ := h2
    refine ⟨cs, ?_⟩
    rw [Below.heap_setCell _ _ _ _ (by show a.block ≠ bx; omega), hgr.block a.block (by rw [World.size_alloc]; omega) (fun e => by have := hA _ e.symm; omega), heap_alloc_old w1 _ h3]
    exact h2
  · simp [World.setCell]; omega
  · exact hgr.os.trans hb.os
  · exact hgr.tape.trans hb.tape
  · exact hgr.output.trans hb.output
  · rcases hfr with h | h
    · exact .inl h
    · rw [World.size_alloc] at h; exact .inr (by omega)
  · intro k hk1 hk2 hk3
    rw [Below.heap_setCell _ _ _ _ hk2, hgr.block k (by rw [World.size_alloc]; omega) (fun e => hk3 e.symm), heap_alloc_old w1 _ (by omega), hb.block k hk1]
set_option maxHeartbeats 400000 in
theorem Put_room (w : World) (base bx n m c c0 B : Nat) (A A0 : Option Addr) (mo : Value) (us xs : List Value) (hx : w.heap[bx]? = some (.cells #[mo, .slice A n c] 28 (0, 0))) (hn : n < 8) (hbase : base ≤ w.heap.size)
    (hq : QRow w base 30 1 (.slice A n c) n us) (hne : A.map (·.block) ≠ some bx) (hx1 : ∀ u ∈ xs, u.oneCell' = true) (hm : m ≤ 140737488355328) (hr : Rd w B A0 m xs) :
    Calls Try.prog 7 #[.pointer (some ⟨bx, 0, none⟩), .slice A0 m c0] w (PutLeft w base bx n mo us A m xs) := by
  have h1 : w.cell? ⟨bx, 1, none⟩ = some (.slice A n c) := by rw [cell_of_row w bx 1 _ _ _ hx]; rfl
  have h2 : w.frozen? ⟨bx, 1, none⟩ = false := by simp [World.frozen?, hx]
  have hlt : bx < w.heap.size := World.block_lt_of_cell? w ⟨bx, 1, none⟩ h1
  obtain ⟨i0, hi, hz0, hz1, hz2⟩ := info_parts Try.info30
  have h8 : (8 - (n : Int) == 0) = false := by simp; omega
  have hkeep : ∀ w1 A1 c1 w2, Below w.heap.size w w1 → (w1.alloc (.cells #[.slice A1 m c1] 30)).grownBy w2 (Value.slice A n c).ownBlock → w2.heap[bx]? = w.heap[bx]? := by
    intro w1 A1 c1 w2 hb hg
    have := hb.size
    rw [hg.block bx (by simp; omega) (fun e => hne (by cases A <;> simp_all [Value.ownBlock])), heap_alloc_old w1 _ (by omega), hb.block bx hlt]
  have HQ := Lib.hid hq
  have HK := Lib.hid hkeep
  have HX := Lib.hid hx
  have HN := Lib.hid hne
  clear hq hkeep hx hne
  go_enter Try.func7, Try.ntmps7
  go_wp2_with (go_at_call 6; refine (Room_any _ bx n c A (by omega) h1).mono ?_; rintro e w' ⟨rfl, rfl⟩)
  go_region_law
    (first
      | (go_simp; go_at_call 19; refine (clone_any _ B A0 m c0 xs hx1 hm hr.drew).mono ?_; rintro e w1 ⟨A1, c1, rfl, hr1, hf1, hb0⟩; have hb1 : Below w.heap.size w w1 := below_of_drew hb0; clear hb0; have HF := Lib.hid hf1; clear hf1; have hc1 : w1.cell? ⟨bx, 1, none⟩ = some (.slice A n c) := (hb1.cell (p := ⟨bx, 1, none⟩) hlt).trans h1; have hal : ∀ o, (w1.alloc o).cell? ⟨bx, 1, none⟩ = some (.slice A n c) := fun o => by rw [World.cell?_alloc_lt w1 o _ (Nat.lt_of_lt_of_le hlt hb1.size)]; exact hc1)
      | (refine step_append_q _ rfl (.tmp 12) (.tmp 15) _ rfl 30 i0 (.slice none 0 0) 1 24 Try.underlying26 hi hz0 hz1 hz2 rfl (by decide) base n _ us rfl ((HQ.out.below hb1 (fun g e => (HQ.out.lt g e).2)).alloc _) (by have := hb1.size; rw [World.size_alloc]; omega) ⟨_, 0, none⟩ 1 1 [.slice A1 m c1] rfl rfl (World.news_of_block (heap_alloc_new _ _)) (by simp [Value.oneCell']) (by decide) (by unfold maxLen; omega) (by omega) ?_; intro g off cap w2 hq' hgr hfr; have hk := HK.out _ _ _ _ hb1 hgr; have h1' : w2.cell? ⟨bx, 1, none⟩ = some (.slice A n c) := (World.cell?_of_block (w := w) (a := ⟨bx, 1, none⟩) hk).trans h1; have h2' : w2.frozen? ⟨bx, 1, none⟩ = false := (World.frozen?_of_block (w := w) (a := ⟨bx, 1, none⟩) hk).trans h2; have HK2 := Lib.hid hk; clear hk))
  all_goals
    go_wp2
    go_ret
    exact put_left HX.out hlt hb1 hr1 (fun k e => (HQ.out.lt k (by cases A <;> simp_all [Value.ownBlock])).2) hq' hgr hfr HN.out HK2.out HF.out
end Go.Proofs.Ytnkojlbceieinaa
