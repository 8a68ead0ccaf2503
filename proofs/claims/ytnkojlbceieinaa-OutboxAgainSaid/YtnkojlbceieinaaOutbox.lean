/- The outbox as a whole: what it has, said of memory; Len and Got. -/
import Derived.Test.YtnkojlbceieinaaDelete
namespace Go.Proofs.Ytnkojlbceieinaa
open Go.RowKit
/-- an entry that may be -/
structure Ent.Ok (w : World) (e : Ent) : Prop where
  own : Own5 w e.A e.n e.xs
  n : e.n ≤ 140737488355328
  i0 : 0 ≤ e.i
  i1 : e.i ≤ 4294967295
  d0 : 0 ≤ e.d
  d1 : e.d ≤ 18446744073709551615
theorem Ent.Ok.turn {w w' : World} {e : Ent} (h : e.Ok w) (hs : w.heap.size ≤ w'.heap.size) (hk : ∀ k, Cells w 5 k → w'.heap[k]? = w.heap[k]?) : e.Ok w' := ⟨h.own.turn hs hk, h.n, h.i0, h.i1, h.d0, h.d1⟩
/-- the row of entries -/
def ERow (w : World) (base : Nat) (v : Value) (L : List Ent) : Prop :=
  (v = .slice none 0 0 ∧ L = []) ∨ ∃ (g cap : Nat) (cur : Array Value), v = .slice (some ⟨g, 0, none⟩) L.length cap ∧ base ≤ g ∧ w.heap[g]? = some (.cells cur 60 (0, 0)) ∧ L.length ≤ cap ∧ cap ≤ maxLen ∧ cur.size = cap * 3 ∧ ECells cur L
theorem ERow.keep {w w' : World} {base : Nat} {v : Value} {L : List Ent} (h : ERow w base v L) (hk : ∀ g, v.ownBlock = some g → w'.heap[g]? = w.heap[g]?) : ERow w' base v L := by
  rcases h with h | ⟨g, cap, cur, hv, hb, hh, r⟩
  · exact .inl h
  · exact .inr ⟨g, cap, cur, hv, hb, by rw [hk g (by rw [hv]; rfl)]; exact hh, r⟩
theorem ERow.cells {w : World} {base : Nat} {v : Value} {L : List Ent} (h : ERow w base v L) {g : Nat} (hg : v.ownBlock = some g) : Cells w 60 g ∧ base ≤ g := by
  rcases h with ⟨rfl, _⟩ | ⟨g', cap, cur, rfl, hb, hh, r⟩
  · simp [Value.ownBlock] at hg
  · simp [Value.ownBlock] at hg
    subst hg
    exact ⟨⟨cur, hh⟩, hb⟩
theorem ERow.form {w : World} {base : Nat} {v : Value} {L : List Ent} (h : ERow w base v L) : ∃ (A : Option Addr) (c : Nat), v = .slice A L.length c := by
  rcases h with ⟨rfl, rfl⟩ | ⟨g', cap, cur, rfl, _⟩
  · exact ⟨none, 0, rfl⟩
  · exact ⟨_, _, rfl⟩
/-- the box at block bx has the entries L; the world is w0 but for blocks from base on -/
structure OBox (w0 w : World) (base bx : Nat) (v : Value) (L : List Ent) : Prop where
  below : Below base w0 w
  base0 : base ≤ w.heap.size
  bxb : base ≤ bx
  box : w.heap[bx]? = some (.cells #[v] 47 (0, 0))
  row : ERow w base v L
  good : ∀ e ∈ L, e.Ok w
  small : L.length ≤ 4
section
variable {w0 w w' : World} {base bx : Nat} {v : Value} {L : List Ent}
theorem OBox.cellsx (h : OBox w0 w base bx v L) : Cells w 47 bx := ⟨_, h.box⟩
theorem OBox.lt (h : OBox w0 w base bx v L) : bx < w.heap.size := h.cellsx.lt
theorem OBox.cell (h : OBox w0 w base bx v L) : w.cell? ⟨bx, 0, none⟩ = some v := by rw [cell_of_row w bx 0 _ _ _ h.box]; rfl
theorem OBox.frozen (h : OBox w0 w base bx v L) (o : Nat) : w.frozen? ⟨bx, o, none⟩ = false := by simp [World.frozen?, h.box]
theorem OBox.keep (h : OBox w0 w base bx v L) (hb : Below w.heap.size w w') : OBox w0 w' base bx v L :=
  ⟨h.below.trans (hb.mono h.base0), Nat.le_trans h.base0 hb.size, h.bxb, (hb.block bx h.lt).trans h.box, h.row.keep fun _ e => hb.block _ (h.row.cells e).1.lt, fun e he => (h.good e he).turn hb.size fun k hk => hb.block k hk.lt, h.small⟩
theorem OBox.alloc (h : OBox w0 w base bx v L) (o : Obj) : OBox w0 (w.alloc o) base bx v L := h.keep ((Below.refl _ w).alloc (Nat.le_refl _) o)
theorem OBox.drewN (h : OBox w0 w base bx v L) (k : Nat) : OBox w0 (w.drewN k) base bx v L := h.keep (below_drewN_ (Below.refl _ w) k)
end
theorem OBox.new (w : World) : OBox w (w.alloc (.cells #[.slice none 0 0] 47)) w.heap.size w.heap.size (.slice none 0 0) [] :=
  ⟨(Below.refl _ w).alloc (Nat.le_refl _) _, by rw [World.size_alloc]; omega, Nat.le_refl _, heap_alloc_new w _, .inl ⟨rfl, rfl⟩, fun e he => (by cases he), by decide⟩

theorem Len_any (w0 w : World) (base bx : Nat) (v : Value) (L : List Ent) (h : OBox w0 w base bx v L) :
    Calls Try.prog 16 #[.pointer (some ⟨bx, 0, none⟩)] w fun e w' => e = .returned (.int .i64 L.length) ∧ w = w' := by
  have hc := h.cell
  obtain ⟨A, c, rfl⟩ := h.row.form
  have hs := h.small
  go_enter Try.func16, Try.ntmps16
  go_wp2
  go_ret
  exact ⟨rfl, rfl⟩
theorem deleteFunc_nil (w : World) (f : Value) : Calls Try.prog 21 #[.slice none 0 0, f] w fun e w' => e = .returned (.slice none 0 0) ∧ w = w' := by
  go_enter Try.func21, Try.ntmps21
  go_wp2_with (first
    | go_in)
  refine wp_loop_rounds 1 ?_
  rw [rounds_succ]
  go_wp2
  go_ret
  exact ⟨rfl, rfl⟩

theorem OBox.put {w0 w1 : World} {base bx : Nat} {v v' : Value} {L : List Ent} (hb : Below base w0 w1) (h0 : base ≤ w1.heap.size) (hbb : base ≤ bx) (hx : w1.heap[bx]? = some (.cells #[v] 47 (0, 0))) (row : ERow w1 base v' L) (good : ∀ e ∈ L, e.Ok w1) (small : L.length ≤ 4) :
    OBox w0 (w1.setCell ⟨bx, 0, none⟩ v') base bx v' L := by
  have hc : Cells w1 47 bx := ⟨_, hx⟩
  have hs : (w1.setCell ⟨bx, 0, none⟩ v').heap.size = w1.heap.size := by simp [World.setCell]
  refine ⟨hb.setCell (p := ⟨bx, 0, none⟩) hbb _, by rw [hs]; exact h0, hbb, by rw [heap_setCell_same w1 bx 0 _ _ _ _ hx]; rfl, row.keep fun g e => Below.heap_setCell _ _ _ _ ((row.cells e).1.ne hc (by decide)), fun e he => (good e he).turn (by rw [hs]; exact Nat.le_refl _) fun k hk => Below.heap_setCell _ _ _ _ (hk.ne hc (by decide)), small⟩
/-- what Got leaves -/
def GotLeft (w0 w : World) (base bx : Nat) (v : Value) (m : Int) (L : List Ent) (e : Ending) (w' : World) : Prop :=
  e = .returned (.int .i64 ((L.length : Int) - (L.filter (abv m)).length)) ∧ w.heap.size ≤ w'.heap.size ∧ ∃ v', OBox w0 w' base bx v' (L.filter (abv m)) ∧ (v'.ownBlock = v.ownBlock) ∧ ∀ k, k < w.heap.size → k ≠ bx → v.ownBlock ≠ some k → w'.heap[k]? = w.heap[k]?
set_option maxHeartbeats 400000 in
theorem Got_any (w0 w : World) (base bx : Nat) (v : Value) (m : Int) (L : List Ent) (h : OBox w0 w base bx v L) :
    Calls Try.prog 15 #[.pointer (some ⟨bx, 0, none⟩), .int .u32 m] w (GotLeft w0 w base bx v m L) := by
  have hs4 := h.small
  have hflt := List.length_filter_le (abv m) L
  rcases h.row with ⟨rfl, rfl⟩ | ⟨g, cap, cur, rfl, hgb, hg, hcap, hcm, hsz, hc⟩
  · have hcx := h.cell
    have hb1 : ∀ o, (w.alloc o).cell? ⟨bx, 0, none⟩ = some (.slice none 0 0) := fun o => by rw [World.cell?_alloc_lt w o _ h.lt]; exact hcx
    have hfz := h.frozen
    have hlt := h.lt
    have H := Lib.hid h
    clear h hs4 hflt
    go_enter Try.func15, Try.ntmps15
    go_wp2_with (go_at_call 21; go_must (refine (deleteFunc_nil _ _).mono ?_); rintro e _ ⟨rfl, rfl⟩)
    go_ret
    have hO := (OBox.put (v' := .slice none 0 0) H.out.below H.out.base0 H.out.bxb H.out.box (.inl ⟨rfl, rfl⟩) (fun e he => by cases he) (by decide) : OBox w0 _ base bx (.slice none 0 0) []).alloc (.cells #[.int .u32 m] 29)
    refine ⟨rfl, by simp [World.setCell], _, hO, rfl, fun k hk hne _ => ?_⟩
    rw [heap_alloc_old _ _ (by simp [World.setCell]; exact hk)]
    exact Below.heap_setCell _ _ _ _ hne
  · have hcx := h.cell
    have hlt := h.lt
    have hal : ∀ o, (w.alloc o).cell? ⟨bx, 0, none⟩ = some (.slice (some ⟨g, 0, none⟩) L.length cap) := fun o => by rw [World.cell?_alloc_lt w o _ hlt]; exact hcx
    have hglt : g < w.heap.size := (h.row.cells (g := g) rfl).1.lt
    have hne : bx ≠ g := h.cellsx.ne (h.row.cells (g := g) rfl).1 (by decide)
    have hD := deleteFunc (w.alloc (.cells #[.int .u32 m] 29)) g cap w.heap.size m cur L (by omega) hcap (by rw [heap_alloc_old w _ hglt]; exact hg) hc (by omega) (by rw [cell_of_row _ w.heap.size 0 _ _ _ (heap_alloc_new w _)]; rfl) (by omega)
    have HD := Lib.hid hD
    have H := Lib.hid h
    clear h hg hc hD
    go_enter Try.func15, Try.ntmps15
    go_wp2_with (go_at_call 21; go_must (refine HD.out.mono ?_); rintro e w2 ⟨cur2, rfl, hg2, hs2, hc2, hgr2⟩; have hbx2 : w2.heap[bx]? = w.heap[bx]? := (hgr2.block bx (by rw [World.size_alloc]; omega) (by simp [hne])).trans (heap_alloc_old w _ hlt); have hcx2 : w2.cell? ⟨bx, 0, none⟩ = some (.slice (some ⟨g, 0, none⟩) L.length cap) := (World.cell?_of_block (w := w) (a := ⟨bx, 0, none⟩) hbx2).trans hcx; have hfx2 : w2.frozen? ⟨bx, 0, none⟩ = false := (World.frozen?_of_block (w := w) (a := ⟨bx, 0, none⟩) hbx2).trans (H.out.frozen 0); have HW := Lib.hid (And.intro hg2 (And.intro hs2 (And.intro hc2 (And.intro hgr2 hbx2)))); clear hg2 hs2 hc2 hgr2 hbx2)
    go_ret
    obtain ⟨hg2, hs2, hc2, hgr2, hbx2⟩ := HW.out
    have hsz2 := hgr2.size
    rw [World.size_alloc] at hsz2
    have hold : ∀ k, k < w.heap.size → k ≠ g → w2.heap[k]? = w.heap[k]? := fun k hk hk' => (hgr2.block k (by rw [World.size_alloc]; omega) (by simp [hk'])).trans (heap_alloc_old w _ hk)
    have h5 : ∀ k, Cells w 5 k → w2.heap[k]? = w.heap[k]? := fun k hk => hold k hk.lt (hk.ne (H.out.row.cells (g := g) rfl).1 (by decide))
    refine ⟨rfl, by simp [World.setCell]; omega, _, OBox.put ?_ (by have := H.out.base0; omega) H.out.bxb (hbx2.trans H.out.box) (.inr ⟨g, cap, cur2, rfl, hgb, hg2, by omega, hcm, by omega, hc2⟩) (fun e he => (H.out.good e (List.mem_filter.1 he).1).turn (by omega) h5) (by omega), rfl, fun k hk hne' hg' => ?_⟩
    · exact H.out.below.trans ⟨hgr2.os, hgr2.tape, hgr2.output, by omega, fun k hk => hold k (by have := H.out.base0; omega) (by omega)⟩
    · rw [Below.heap_setCell _ _ _ _ hne']
      exact hold k hk (fun e => hg' (by rw [e]; rfl))
end Go.Proofs.Ytnkojlbceieinaa
