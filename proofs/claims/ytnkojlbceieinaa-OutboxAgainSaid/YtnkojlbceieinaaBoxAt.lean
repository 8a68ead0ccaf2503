/- The inbox as a whole: what it has, said of memory; what Put and Fetch do to that. -/
import Derived.Test.YtnkojlbceieinaaHold
namespace Go.Proofs.Ytnkojlbceieinaa
open Go.RowKit
open Go.ChangeMaps (setBlock)

theorem QRow.rd {w : World} {base n : Nat} {E : TypeId} {A : Option Addr} {c : Nat} {us : List Value} (hq : QRow w base E 1 (.slice A n c) n us) : Rd w w.heap.size A n us := by
  refine ⟨by simpa using hq.len, fun hn => ?_⟩
  rcases hq.form with ⟨e, h0⟩ | ⟨g, off, cap, cur, hv, hg, hh, h1, h2, h3, hc⟩
  · omega
  · injection hv with e1 e2 e3
    subst e1
    refine ⟨_, rfl, (hq.lt g rfl).2, fun j u hu => ?_⟩
    rw [Addr.add_lit, cell_of_row _ g _ cur _ (0, 0) hh]
    exact hc j u hu

/-- the box at block bx: its map is mo, its row (address A, capacity c) reads as the lists L; w is w0 but for blocks from base on -/
structure BoxAt (w0 w : World) (base bx : Nat) (mo : Value) (A : Option Addr) (c : Nat) (us : List Value) (L : List (List Nat)) : Prop where
  below : Below base w0 w
  base0 : base ≤ w.heap.size
  bxb : base ≤ bx
  box : w.heap[bx]? = some (.cells #[mo, .slice A L.length c] 28 (0, 0))
  row : QRow w base 30 1 (.slice A L.length c) L.length us
  lists : SRows w (Cells w 5) us L

section
variable {w0 w w' : World} {base bx c : Nat} {mo : Value} {A : Option Addr} {us : List Value} {L : List (List Nat)}
theorem BoxAt.lt (h : BoxAt w0 w base bx mo A c us L) : bx < w.heap.size := by
  rcases Nat.lt_or_ge bx w.heap.size with hlt | hge
  · exact hlt
  · have := h.box; rw [Array.getElem?_eq_none hge] at this; cases this
theorem BoxAt.cell (h : BoxAt w0 w base bx mo A c us L) : w.cell? ⟨bx, 1, none⟩ = some (.slice A L.length c) := by rw [cell_of_row w bx 1 _ _ _ h.box]; rfl
theorem BoxAt.frozen (h : BoxAt w0 w base bx mo A c us L) : w.frozen? ⟨bx, 1, none⟩ = false := by simp [World.frozen?, h.box]
theorem ownBlock_slice (A : Option Addr) (n c : Nat) : (Value.slice A n c).ownBlock = A.map (·.block) := by cases A <;> rfl
theorem BoxAt.ne (h : BoxAt w0 w base bx mo A c us L) : A.map (·.block) ≠ some bx := by
  intro e
  have := h.row.cells (g := bx) (by rw [ownBlock_slice]; exact e)
  exact this.ne (E' := 28) (k' := bx) ⟨_, h.box⟩ (by decide) rfl
theorem BoxAt.keep (h : BoxAt w0 w base bx mo A c us L) (hb : Below w.heap.size w w') : BoxAt w0 w' base bx mo A c us L :=
  ⟨h.below.trans (hb.mono h.base0), Nat.le_trans h.base0 hb.size, h.bxb, (hb.block bx h.lt).trans h.box, h.row.below hb (fun g e => (h.row.lt g e).2),
    h.lists.keep (fun k hk => hb.block k hk.lt) (fun k hk => by have hl := hk.lt; obtain ⟨cs, hk⟩ := hk; exact ⟨cs, (hb.block k hl).trans hk⟩) hb.size⟩
theorem BoxAt.drew (h : BoxAt w0 w base bx mo A c us L) : BoxAt w0 w.drew base bx mo A c us L := h.keep ((Below.refl _ w).drew)
theorem BoxAt.drewN (h : BoxAt w0 w base bx mo A c us L) (k : Nat) : BoxAt w0 (w.drewN k) base bx mo A c us L := h.keep (below_drewN_ (Below.refl _ w) k)
theorem BoxAt.alloc (h : BoxAt w0 w base bx mo A c us L) (o : Obj) : BoxAt w0 (w.alloc o) base bx mo A c us L := h.keep ((Below.refl _ w).alloc (Nat.le_refl _) o)
/-- a block that is neither the box's nor its row's nor a row of bytes turns (a map, say) -/
theorem BoxAt.setBlock {k : Nat} {o : Obj} (h : BoxAt w0 w base bx mo A c us L) (hk : base ≤ k) (h1 : k ≠ bx) (h2 : A.map (·.block) ≠ some k) (h3 : ¬ Cells w 5 k) : BoxAt w0 (setBlock w k o) base bx mo A c us L := by
  refine ⟨setBlock_below h.below hk, by simpa [ChangeMaps.setBlock] using h.base0, h.bxb, (heap_setBlock_other _ _ _ _ (Ne.symm h1)).trans h.box, h.row.keep fun g e => heap_setBlock_other _ _ _ _ (fun e' => h2 (by rw [ownBlock_slice] at e; rw [e, e'])), ?_⟩
  have hn : ∀ j, Cells w 5 j → (ChangeMaps.setBlock w k o).heap[j]? = w.heap[j]? := fun j hj => heap_setBlock_other _ _ _ _ (fun e => h3 (e ▸ hj))
  exact h.lists.keep hn (fun j hj => by have := hn j hj; obtain ⟨cs, hj⟩ := hj; exact ⟨cs, this.trans hj⟩) (by simp [ChangeMaps.setBlock])
end

/-- what Put leaves -/
def PutBox (w0 w : World) (base bx : Nat) (mo : Value) (A : Option Addr) (L : List (List Nat)) (xs : List Nat) (e : Ending) (w' : World) : Prop :=
  e = .returned (.int .i64 0) ∧ w.heap.size ≤ w'.heap.size ∧ ∃ A' c' us', BoxAt w0 w' base bx mo A' c' us' (L ++ [xs]) ∧ (∀ k, k < w.heap.size → k ≠ bx → A.map (·.block) ≠ some k → w'.heap[k]? = w.heap[k]?) ∧
    (∀ k, k < w.heap.size → A'.map (·.block) = some k → A.map (·.block) = some k)
theorem Put_box (w0 w : World) (base bx c : Nat) (mo : Value) (A : Option Addr) (us : List Value) (L : List (List Nat)) (h : BoxAt w0 w base bx mo A c us L) (hL : L.length < 8)
    (B m c0 : Nat) (A0 : Option Addr) (xs : List Nat) (hm : m ≤ 140737488355328) (hr : Rd w B A0 m (xs.map byt)) :
    Calls Try.prog 7 #[.pointer (some ⟨bx, 0, none⟩), .slice A0 m c0] w (PutBox w0 w base bx mo A L xs) := by
  refine (Put_room w base bx L.length m c c0 B A A0 mo us _ h.box hL h.base0 h.row h.ne (byt_one xs) hm hr).mono ?_
  rintro e w' ⟨g, off, cap, A', c', rfl, hbx, hq, hrd, hf, hs, ho, ht, hu, hg, hk⟩
  have hAlt : ∀ k, A.map (·.block) = some k → base ≤ k ∧ k < w.heap.size := fun k e => h.row.lt k (by rw [ownBlock_slice]; exact e)
  have h5 : ∀ k, Cells w 5 k → w'.heap[k]? = w.heap[k]? := fun k hc =>
    hk k hc.lt (hc.ne (E' := 28) ⟨_, h.box⟩ (by decide)) (fun e => hc.ne (h.row.cells (g := k) (by rw [ownBlock_slice]; exact e)) (by decide) rfl)
  have h5' : ∀ k, Cells w 5 k → Cells w' 5 k := fun k hc => by have := h5 k hc; obtain ⟨cs, hc⟩ := hc; exact ⟨cs, this.trans hc⟩
  refine ⟨rfl, hs, some ⟨g, off, none⟩, cap, us ++ [.slice A' m c'], ⟨h.below.trans ⟨ho, ht, hu, hs, fun k hkb => hk k (by have := h.base0; omega) (by have := h.bxb; omega) (fun e => by have := (hAlt k e).1; omega)⟩, Nat.le_trans h.base0 hs, h.bxb, ?_, ?_, ?_⟩, hk, ?_⟩
  · rw [hbx]; simp
  · simpa using hq
  · exact (h.lists.keep h5 h5' hs).snoc hm hrd (fun _ a e => (hf a e).2)
  · intro k hlt e
    simp at e
    subst e
    rcases hg with e | e
    · exact e
    · omega

/-- what Fetch leaves -/
def FetchBox (w0 w : World) (base bx : Nat) (mo : Value) (A : Option Addr) (L : List (List Nat)) (x : List Nat) (e : Ending) (w' : World) : Prop :=
  ∃ A1 m c1, e = .returned (.tuple #[.slice A1 m c1, .int .i64 0]) ∧ Rd w' w'.heap.size A1 m (x.map byt) ∧ m ≤ 140737488355328 ∧ w.heap.size ≤ w'.heap.size ∧ (0 < m → ∀ a, A1 = some a → Cells w' 5 a.block) ∧
    ∃ A' c' us', BoxAt w0 w' base bx mo A' c' us' L ∧ (∀ k, k ≠ bx → w'.heap[k]? = w.heap[k]?) ∧ (∀ k, A'.map (·.block) = some k → A.map (·.block) = some k)
theorem Fetch_box (w0 w : World) (base bx c : Nat) (mo : Value) (A : Option Addr) (us : List Value) (x : List Nat) (L : List (List Nat)) (h : BoxAt w0 w base bx mo A c us (x :: L)) (hL : L.length ≤ 8) :
    Calls Try.prog 8 #[.pointer (some ⟨bx, 0, none⟩)] w (FetchBox w0 w base bx mo A L x) := by
  have hrow := h.row
  simp only [List.length_cons] at hrow
  obtain ⟨g, off, cap, u, hv, hb, hn, hu0, hcell⟩ := hrow.get (k := 0) (by omega)
  injection hv with e1 e2 e3
  subst e1 e3
  obtain ⟨u', us1, rfl⟩ : ∃ u' us1, us = u' :: us1 := by
    cases us with
    | nil => simp at hu0
    | cons a b => exact ⟨a, b, rfl⟩
  obtain rfl : u' = u := by simpa using hu0
  obtain ⟨A1, m, c1, xs, rfl, hxs, hm, hr, hS⟩ := h.lists.2 0 _ hu0
  obtain rfl : x = xs := by simpa using hxs
  have hc0 := h.cell
  simp only [List.length_cons] at hc0
  have ht := QRow.tail hrow
  refine (Fetch_first w bx g off L.length c _ hc0 h.frozen hL hcell).mono ?_
  rintro e w' ⟨rfl, rfl⟩
  have hset : ∀ v, (w.setCell ⟨bx, 1, none⟩ v).heap.size = w.heap.size := fun v => by simp [World.setCell]
  have hoth : ∀ v k, k ≠ bx → (w.setCell ⟨bx, 1, none⟩ v).heap[k]? = w.heap[k]? := fun v k hk => Below.heap_setCell _ _ _ _ hk
  have h5 : ∀ v k, Cells w 5 k → (w.setCell ⟨bx, 1, none⟩ v).heap[k]? = w.heap[k]? := fun v k hc => hoth v k (hc.ne (E' := 28) ⟨_, h.box⟩ (by decide))
  have h5' : ∀ v k, Cells w 5 k → Cells (w.setCell ⟨bx, 1, none⟩ v) 5 k := fun v k hc => by have := h5 v k hc; obtain ⟨cs, hc⟩ := hc; exact ⟨cs, this.trans hc⟩
  have hgx : g ≠ bx := fun e => h.ne (by rw [e]; rfl)
  refine ⟨A1, m, c1, rfl, rd_keep (S := Cells w 5) hr hS (h5 _) (by rw [hset]; exact Nat.le_refl _), hm, by rw [hset]; exact Nat.le_refl _, fun h0 a e => h5' _ _ (hS h0 a e), (if c = 1 then some ⟨g, off, none⟩ else some ⟨g, off + 1, none⟩), c - 1, us1,
    ⟨h.below.setCell (p := ⟨bx, 1, none⟩) h.bxb _, by rw [hset]; exact h.base0, h.bxb, ?_, ?_, ?_⟩, fun k hk => hoth _ k hk, ?_⟩
  · rw [heap_setCell_same w bx 1 _ _ _ _ h.box]; rfl
  · refine ht.keep fun k e => hoth _ _ (fun e' => hgx ?_)
    split at e <;> (simp [Value.ownBlock] at e; omega)
  · exact h.lists.tail.keep (h5 _) (h5' _) (by rw [hset]; exact Nat.le_refl _)
  · intro k e
    split at e <;> exact e
end Go.Proofs.Ytnkojlbceieinaa
