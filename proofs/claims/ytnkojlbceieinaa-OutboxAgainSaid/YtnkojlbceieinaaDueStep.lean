/- The outbox's Due as a whole. -/
import Derived.Test.YtnkojlbceieinaaDue
namespace Go.Proofs.Ytnkojlbceieinaa
open Go.RowKit Go.Shelf
/-- a round: a copy at the list's end, and the entry's moment set anew -/
theorem dstep {w0 w W w1 w2 : World} {base bx pb nb n2 ob g cap m c1 g2 off2 cap2 : Nat} {A A1 : Option Addr} {now : Int} {L : List Ent} {j : Nat} (hA : 0 < L.length → A = some ⟨g, 0, none⟩)
    (h : DState w0 w W base bx pb nb n2 ob (.slice A L.length cap) now L j) (hj : j < L.length) (hd : L[j].d ≤ now) (hn0 : 0 ≤ now) (hn1 : now ≤ 18446744073709551615) {vo : Value} {us : List Value}
    (ho : W.heap[ob]? = some (.cells #[vo] 26 (0, 0))) (hq : QRow W w.heap.size 30 1 vo us.length us) (hs : SRows W (Cells W 5) us (dueOf now (L.take j))) (hb1 : Below W.heap.size W w1) (hm : m ≤ 140737488355328) (hr : Rd w1 w1.heap.size A1 m (L[j].xs.map byt))
    (hf : ∀ a, A1 = some a → W.heap.size ≤ a.block ∧ Cells w1 5 a.block) (hq' : QRow w2 w.heap.size 30 1 (.slice (some ⟨g2, off2, none⟩) (us.length + 1) cap2) (us.length + 1) (us ++ [.slice A1 m c1]))
    (hgr : (w1.alloc (.cells #[.slice A1 m c1] 30)).grownBy w2 vo.ownBlock) :
    KeepsOthers W ((w2.setCell ⟨ob, 0, none⟩ (.slice (some ⟨g2, off2, none⟩) (us.length + 1) cap2)).setCell ⟨g, j * 3 + 1, none⟩ (.int .u64 (later now))) ∧
    DState w0 w ((w2.setCell ⟨ob, 0, none⟩ (.slice (some ⟨g2, off2, none⟩) (us.length + 1) cap2)).setCell ⟨g, j * 3 + 1, none⟩ (.int .u64 (later now))) base bx pb nb n2 ob (.slice A L.length cap) now L (j + 1) := by
  obtain ⟨hS, hB⟩ := rows_step hq hs hb1 hm hr hf hgr
  have hb2 := hB w.heap.size (Nat.le_refl _) h.size
  obtain rfl := hA (by omega)
  have hsz := hb2.size
  have hrow := h.box.row
  rcases hrow with ⟨e, _⟩ | ⟨g', cap', cur, e, hgb, hg, hle, hcm, hcs, hcc⟩
  · cases e
  rw [updTo_len] at e hle
  injection e with e1 _ e3
  injection e1 with e1
  injection e1 with e1
  subst e1 e3
  have hCg : Cells W 60 g := ⟨_, hg⟩
  have hCo : Cells W 26 ob := ⟨_, ho⟩
  have hgo : g ≠ ob := hCg.ne hCo (by decide)
  -- what w2 keeps
  have k2 : ∀ k E, Cells W E k → E ≠ 30 → w2.heap[k]? = W.heap[k]? := fun k E hk hE => by
    have hl := hk.lt
    have := hb1.size
    rw [hgr.block k (by rw [World.size_alloc]; omega) (fun e => ?_), heap_alloc_old w1 _ (by omega), hb1.block k hl]
    exact hk.ne (hq.cells e.symm) hE rfl
  have hg2 := (k2 g 60 hCg (by decide)).trans hg
  have ho2 := (k2 ob 26 hCo (by decide)).trans ho
  obtain ⟨W3, hW3⟩ : ∃ W3, (w2.setCell ⟨ob, 0, none⟩ (.slice (some ⟨g2, off2, none⟩) (us.length + 1) cap2)).setCell ⟨g, j * 3 + 1, none⟩ (.int .u64 (later now)) = W3 := ⟨_, rfl⟩
  rw [hW3]
  have s3 : W3.heap.size = w2.heap.size := by rw [← hW3]; simp [World.setCell]
  have k3 : ∀ k, k ≠ ob → k ≠ g → W3.heap[k]? = w2.heap[k]? := fun k h1 h2 => by rw [← hW3, Below.heap_setCell _ _ _ _ h2, Below.heap_setCell _ _ _ _ h1]
  have ho3 : W3.heap[ob]? = some (.cells #[.slice (some ⟨g2, off2, none⟩) (us.length + 1) cap2] 26 (0, 0)) := by
    rw [← hW3, Below.heap_setCell _ _ _ _ (Ne.symm hgo), heap_setCell_same w2 ob 0 _ _ _ _ ho2]; rfl
  have hg3 : W3.heap[g]? = some (.cells (cur.setIfInBounds (j * 3 + 1) (.int .u64 (later now))) 60 (0, 0)) := by
    rw [← hW3, heap_setCell_same _ g _ _ cur _ _ (by rw [Below.heap_setCell _ _ _ _ hgo]; exact hg2)]
  have kk : ∀ k E, Cells W E k → E ≠ 30 → E ≠ 60 → E ≠ 26 → W3.heap[k]? = W.heap[k]? := fun k E hk h1 h2 h3 => (k3 k (hk.ne hCo h3) (hk.ne hCg h2)).trans (k2 k E hk h1)
  have hbel : Below base W W3 := by
    rw [← hW3]
    exact ((hb2.mono h.H0).setCell (p := ⟨ob, 0, none⟩) (Nat.le_trans h.H0 h.obb) _).setCell (p := ⟨g, _, none⟩) hgb _
  have hown : ∀ k, Cells w2 5 k → W3.heap[k]? = w2.heap[k]? := fun k hk => k3 k (hk.ne ⟨_, ho2⟩ (by decide)) (hk.ne ⟨_, hg2⟩ (by decide))
  refine ⟨?_, ⟨?_, h.H0, ?_, ?_, ?_, ⟨_, us ++ [.slice A1 m c1], ho3, ?_, ?_⟩, h.obb, by have := h.size; omega, ?_⟩⟩
  · rw [← hW3]
    have ko : KeepsOthers W w2 := ⟨by have := h.size; have := hgr.size; rw [World.size_alloc] at this; have := hb1.size; omega, fun k o hk hc => by
      have hl : k < W.heap.size := (Array.getElem?_eq_some_iff.1 hk).1
      have := hb1.size
      rw [hgr.block k (by rw [World.size_alloc]; omega) (fun e => ?_), heap_alloc_old w1 _ (by omega), hb1.block k hl]
      · exact hk
      · obtain ⟨cs, hx⟩ := hq.cells e.symm
        rw [hk] at hx; cases hx; simp [Obj.isCells] at hc⟩
    exact (ko.trans (KeepsOthers.setCell _ _ _)).trans (KeepsOthers.setCell _ _ _)
  · refine ⟨h.box.below.trans hbel, by have := h.box.base0; omega, h.box.bxb, (kk bx 47 h.box.cellsx (by decide) (by decide) (by decide)).trans h.box.box, .inr ⟨g, cap, _, by rw [updTo_len], hgb, hg3, by rw [updTo_len]; exact hle, hcm, by simp [hcs], ?_⟩, ?_, by rw [updTo_len]; have := h.box.small; rwa [updTo_len] at this⟩
    · intro k e he
      rw [updTo_succ now hj] at he
      by_cases hk : k = j
      · subst hk
        rw [if_pos rfl, Option.some.injEq] at he
        subst he
        obtain ⟨c0, c1', c2⟩ := hcc k _ (updTo_at now hj)
        rw [Ent.upd, if_pos hd]
        refine ⟨?_, ?_, ?_⟩
        · rw [Array.getElem?_setIfInBounds, if_neg (by omega)]; exact c0
        · rw [Array.getElem?_setIfInBounds, if_pos rfl, if_pos (by omega)]
        · rw [Array.getElem?_setIfInBounds, if_neg (by omega)]; exact c2
      · rw [if_neg hk] at he
        obtain ⟨c0, c1', c2⟩ := hcc k _ he
        rw [Array.getElem?_setIfInBounds, if_neg (by omega), Array.getElem?_setIfInBounds, if_neg (by omega), Array.getElem?_setIfInBounds, if_neg (by omega)]
        exact ⟨c0, c1', c2⟩
    · intro e he
      have hmem : e ∈ updTo now j L ∨ e = Ent.upd now L[j] := by
        obtain ⟨k, hk, hke⟩ := List.mem_iff_getElem.1 he
        have hk' : (updTo now (j + 1) L)[k]? = some e := by rw [List.getElem?_eq_getElem hk, hke]
        rw [updTo_succ now hj] at hk'
        split at hk'
        · exact .inr (Option.some.inj hk').symm
        · exact .inl (List.mem_of_getElem? hk')
      have h5 : ∀ k, Cells W 5 k → W3.heap[k]? = W.heap[k]? := fun k hk => kk k 5 hk (by decide) (by decide) (by decide)
      rcases hmem with he | rfl
      · exact (h.box.good e he).turn (by omega) h5
      · have hk := (h.box.good L[j] (List.mem_of_getElem? (updTo_at now hj))).turn (w' := W3) (by omega) h5
        rw [Ent.upd, if_pos hd]
        exact ⟨hk.own, hk.n, hk.i0, hk.i1, by show 0 ≤ later now; unfold later; omega, by show later now ≤ _; unfold later; omega⟩
  · exact (kk pb 44 ⟨_, h.ptr⟩ (by decide) (by decide) (by decide)).trans h.ptr
  · exact (kk nb 48 ⟨_, h.now1⟩ (by decide) (by decide) (by decide)).trans h.now1
  · exact (kk n2 48 ⟨_, h.now2⟩ (by decide) (by decide) (by decide)).trans h.now2
  · have hq3 := hq'.keep (w' := W3) fun k e => k3 k ((hq'.cells e).ne ⟨_, ho2⟩ (by decide)) ((hq'.cells e).ne ⟨_, hg2⟩ (by decide))
    simpa using hq3
  · rw [dueOf_succ now hj, if_pos hd]
    refine hS.keep hown (fun k hk => ?_) (by omega)
    have := hown k hk
    obtain ⟨cs, hk⟩ := hk
    exact ⟨cs, this.trans hk⟩
  · intro k hk hv
    have := h.obb
    rw [k3 k (by omega) (fun e => hv (by rw [e]; rfl)), hb2.block k hk]
    exact h.old k hk hv
end Go.Proofs.Ytnkojlbceieinaa
