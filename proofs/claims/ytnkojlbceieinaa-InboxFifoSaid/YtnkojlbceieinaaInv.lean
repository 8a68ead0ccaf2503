/- The law of the inbox: what is put is fetched, in order, each once. The walk. -/
import Derived.Test.YtnkojlbceieinaaAwakeIn
namespace Go.Proofs.Ytnkojlbceieinaa
open Go.RowKit

theorem BoxAt.grown {w0 w w' : World} {base bx c : Nat} {mo : Value} {A : Option Addr} {us : List Value} {L : List (List Nat)} {row : Option Nat} (h : BoxAt w0 w base bx mo A c us L) (hg : w.grownBy w' row)
    (hr : ∀ g, row = some g → base ≤ g ∧ g ≠ bx ∧ A.map (·.block) ≠ some g ∧ ¬ Cells w 5 g) : BoxAt w0 w' base bx mo A c us L := by
  have h5 : ∀ k, Cells w 5 k → w'.heap[k]? = w.heap[k]? := fun k hc => hg.block k hc.lt (fun e => (hr k e.symm).2.2.2 hc)
  refine ⟨h.below.grown hg h.base0 (fun k e => (hr k e).1), Nat.le_trans h.base0 hg.size, h.bxb, (hg.block bx h.lt (fun e => (hr bx e.symm).2.1 rfl)).trans h.box,
    h.row.grown hg (fun g e e' => (hr g e'.symm).2.2.1 (by rw [← ownBlock_slice A L.length c]; exact e)), h.lists.keep h5 (fun k hc => by have := h5 k hc; obtain ⟨cs, hc⟩ := hc; exact ⟨cs, this.trans hc⟩) hg.size⟩

/-- between two rounds: the box has what the law's own list has -/
structure Inv (w wr : World) (bx : Nat) (v : Value) (A : Option Addr) (c : Nat) (us ws : List Value) (L : List (List Nat)) : Prop where
  box : BoxAt w wr w.heap.size bx (.map none) A c us L
  want : QRow wr w.heap.size 30 1 v L.length ws
  lists : SRows wr (· < w.heap.size) ws L
  neb : v.ownBlock ≠ some bx
  neA : ∀ g, v.ownBlock = some g → A.map (·.block) ≠ some g
  small : L.length ≤ 8

section
variable {w wr w1 w2 : World} {bx c : Nat} {v : Value} {A : Option Addr} {us ws : List Value} {L : List (List Nat)}
theorem Inv.not5 (h : Inv w wr bx v A c us ws L) {g : Nat} (hg : v.ownBlock = some g) : ¬ Cells wr 5 g := fun hc => hc.ne (h.want.cells hg) (by decide) rfl
theorem Inv.old {k : Nat} (h : Inv w wr bx v A c us ws L) (hk : k < w.heap.size) : k ≠ bx ∧ A.map (·.block) ≠ some k :=
  ⟨by have := h.box.bxb; omega, fun e => by have := (h.box.row.lt k (by rw [ownBlock_slice]; exact e)).1; omega⟩
/-- behind 'Put', the law's list as it was -/
theorem Inv.put {A' : Option Addr} (h : Inv w wr bx v A c us ws L) (hs : wr.heap.size ≤ w1.heap.size)
    (hk : ∀ k, k < wr.heap.size → k ≠ bx → A.map (·.block) ≠ some k → w1.heap[k]? = wr.heap[k]?) (hA : ∀ k, k < wr.heap.size → A'.map (·.block) = some k → A.map (·.block) = some k) :
    QRow w1 w.heap.size 30 1 v L.length ws ∧ SRows w1 (· < w.heap.size) ws L ∧ (∀ g, v.ownBlock = some g → w.heap.size ≤ g ∧ g ≠ bx ∧ A'.map (·.block) ≠ some g ∧ ¬ Cells w1 5 g) := by
  have hq : QRow w1 w.heap.size 30 1 v L.length ws := h.want.keep fun g e => hk g (h.want.lt g e).2 (fun e' => h.neb (by rw [e, e'])) (h.neA g e)
  refine ⟨hq, h.lists.keep (fun k hk' => hk k (by have := h.box.base0; omega) (h.old hk').1 (h.old hk').2) (fun _ h => h) hs, fun g e => ⟨(h.want.lt g e).1, fun e' => h.neb (by rw [e, e']), fun e' => h.neA g e (hA g (h.want.lt g e).2 e'), fun hc => hc.ne (hq.cells e) (by decide) rfl⟩⟩
/-- behind the law's own 'append' -/
theorem Inv.put2 {xs : List Nat} {A' A0 : Option Addr} {c' g off cap m c0 : Nat} {us' : List Value} (hL : L.length < 8) (hb : BoxAt w w1 w.heap.size bx (.map none) A' c' us' (L ++ [xs]))
    (hp : QRow w1 w.heap.size 30 1 v L.length ws ∧ SRows w1 (· < w.heap.size) ws L ∧ (∀ g, v.ownBlock = some g → w.heap.size ≤ g ∧ g ≠ bx ∧ A'.map (·.block) ≠ some g ∧ ¬ Cells w1 5 g))
    (hm : m ≤ 140737488355328) (hr : Rd w w.heap.size A0 m (xs.map byt)) (hlo : 0 < m → ∀ a, A0 = some a → a.block < w.heap.size)
    (hq : QRow w2 w.heap.size 30 1 (.slice (some ⟨g, off, none⟩) (L.length + 1) cap) (L.length + 1) (ws ++ [.slice A0 m c0])) (hgr : (w1.alloc (.cells #[.slice A0 m c0] 30)).grownBy w2 v.ownBlock)
    (hfr : v.ownBlock = some g ∨ (w1.alloc (.cells #[.slice A0 m c0] 30)).heap.size ≤ g) :
    Inv w w2 bx (.slice (some ⟨g, off, none⟩) (L.length + 1) cap) A' c' us' (ws ++ [.slice A0 m c0]) (L ++ [xs]) := by
  have hb2 : BoxAt w w2 w.heap.size bx (.map none) A' c' us' (L ++ [xs]) := (hb.alloc _).grown hgr fun g' e => by
    obtain ⟨h1, h2, h3, h4⟩ := hp.2.2 g' e
    refine ⟨h1, h2, h3, fun hc => h4 ?_⟩
    obtain ⟨cs, hc⟩ := hc
    exact ⟨cs, by rw [heap_alloc_old w1 _ (hp.1.lt g' e).2] at hc; exact hc⟩
  have hA'lt : ∀ k, A'.map (·.block) = some k → k < w1.heap.size := fun k e => (hb.row.lt k (by rw [ownBlock_slice]; exact e)).2
  refine ⟨hb2, by simpa using hq, ?_, ?_, ?_, by simp; omega⟩
  · have hk : ∀ k, k < w.heap.size → w2.heap[k]? = w1.heap[k]? := fun k hk => by
      rw [hgr.block k (by have := hb.base0; rw [World.size_alloc]; omega) (fun e => by have := (hp.2.2 k e.symm).1; omega), heap_alloc_old w1 _ (by have := hb.base0; omega)]
    have hs2 : w1.heap.size ≤ w2.heap.size := by have := hgr.size; rw [World.size_alloc] at this; omega
    refine (hp.2.1.keep hk (fun _ h => h) hs2).snoc hm ?_ hlo
    exact rd_keep (S := (· < w.heap.size)) hr hlo (fun k hk' => hb2.below.block k hk') hb2.base0
  · intro e
    simp [Value.ownBlock] at e
    rcases hfr with h' | h'
    · exact (hp.2.2 g h').2.1 e
    · rw [World.size_alloc] at h'; have := hb.lt; omega
  · intro g' e e'
    simp [Value.ownBlock] at e
    subst e
    rcases hfr with h' | h'
    · exact (hp.2.2 g h').2.2.1 e'
    · rw [World.size_alloc] at h'; have := hA'lt g e'; omega
/-- behind 'Fetch', the law's list cut -/
theorem Inv.fetch {x : List Nat} {A' : Option Addr} {c' g off cap : Nat} {us' ws1 : List Value} {u : Value} {q : Nat} (h : Inv w wr bx (.slice (some ⟨g, off, none⟩) (L.length + 1) cap) A c us (u :: ws1) (x :: L)) (hs : wr.heap.size ≤ w1.heap.size)
    (hb : BoxAt w w1 w.heap.size bx (.map none) A' c' us' L) (hk : ∀ k, k ≠ bx → w1.heap[k]? = wr.heap[k]?) (hA : ∀ k, A'.map (·.block) = some k → A.map (·.block) = some k) :
    Inv w (w1.drewN q) bx (.slice (if cap = 1 then some ⟨g, off, none⟩ else some ⟨g, off + 1, none⟩) L.length (cap - 1)) A' c' us' ws1 L := by
  have hw := h.want
  simp only [List.length_cons] at hw
  have ho : (Value.slice (if cap = 1 then some ⟨g, off, none⟩ else some ⟨g, off + 1, none⟩) L.length (cap - 1)).ownBlock = some g := by split <;> rfl
  have hgx : g ≠ bx := fun e => h.neb (by rw [e]; rfl)
  refine ⟨hb.drewN q, ((QRow.tail hw).keep fun k e => ?_), ?_, ?_, ?_, by have := h.small; simp only [List.length_cons] at this; omega⟩
  · rw [ho] at e; injection e with e; subst e
    exact hk g hgx
  · exact h.lists.tail.keep (fun k hk' => hk k (h.old hk').1) (fun _ h => h) hs
  · rw [ho]; intro e; injection e with e; exact hgx e
  · intro k e e'
    rw [ho] at e; injection e with e; subst e
    exact h.neA g rfl (hA g e')
end
end Go.Proofs.Ytnkojlbceieinaa
