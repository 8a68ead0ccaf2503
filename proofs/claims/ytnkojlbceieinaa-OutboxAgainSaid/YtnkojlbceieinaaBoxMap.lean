/- The chapter's examples of the inbox: they are as the law's 'awake' has them. -/
import Derived.Test.YtnkojlbceieinaaBoxAt
namespace Go.Proofs.Ytnkojlbceieinaa
open Go.RowKit
open Go.ChangeMaps (setBlock)

/-- a slice of bytes of the call's own -/
structure Own5 (w : World) (A : Option Addr) (n : Nat) (xs : List Nat) : Prop where
  rd : Rd w w.heap.size A n (xs.map byt)
  c5 : 0 < n → ∀ a, A = some a → Cells w 5 a.block
theorem Own5.keep {w w' : World} {A : Option Addr} {n : Nat} {xs : List Nat} (h : Own5 w A n xs) (hb : Below w.heap.size w w') : Own5 w' A n xs :=
  ⟨rd_keep h.rd h.c5 (fun k hk => hb.block k hk.lt) hb.size, fun h0 a e => by
    have hk := h.c5 h0 a e
    have hl := hk.lt
    obtain ⟨cs, hk⟩ := hk
    exact ⟨cs, (hb.block _ hl).trans hk⟩⟩
theorem Own5.turn {w w' : World} {A : Option Addr} {n : Nat} {xs : List Nat} (h : Own5 w A n xs) (hs : w.heap.size ≤ w'.heap.size) (hk : ∀ k, Cells w 5 k → w'.heap[k]? = w.heap[k]?) : Own5 w' A n xs :=
  ⟨rd_keep h.rd h.c5 hk hs, fun h0 a e => by
    have h1 := h.c5 h0 a e
    have h2 := hk _ h1
    obtain ⟨cs, h1⟩ := h1
    exact ⟨cs, h2.trans h1⟩⟩
theorem Own5.lit (w : World) (b : Nat) : Own5 (w.alloc (.cells #[.int .u8 (b : Int)] 5)) (some ⟨w.heap.size, 0, none⟩) 1 [b] :=
  ⟨⟨rfl, fun _ => ⟨_, rfl, by rw [World.size_alloc]; exact Nat.lt_succ_self _, World.news_of_block (heap_alloc_new w _)⟩⟩, fun _ a e => by cases e; exact ⟨_, heap_alloc_new w _⟩⟩

/-- the box and its map -/
structure BoxMap (w0 w : World) (base bx bm c : Nat) (A : Option Addr) (us : List Value) (L : List (List Nat)) (es : Array MapEntry) : Prop where
  box : BoxAt w0 w base bx (.map (some bm)) A c us L
  bmb : base ≤ bm
  map : w.heap[bm]? = some (.map es 1)
section
variable {w0 w w' : World} {base bx bm c : Nat} {A : Option Addr} {us : List Value} {L : List (List Nat)} {es : Array MapEntry}
theorem BoxMap.not5 (h : BoxMap w0 w base bx bm c A us L es) : ¬ Cells w 5 bm := by
  rintro ⟨cs, hc⟩; have := h.map; rw [hc] at this; cases this
theorem BoxMap.ne (h : BoxMap w0 w base bx bm c A us L es) : bm ≠ bx := by
  intro e; have := h.box.box; rw [← e, h.map] at this; cases this
theorem BoxMap.neA (h : BoxMap w0 w base bx bm c A us L es) : A.map (·.block) ≠ some bm := by
  intro e
  obtain ⟨cs, hc⟩ := h.box.row.cells (g := bm) (by rw [ownBlock_slice]; exact e)
  have := h.map; rw [hc] at this; cases this
theorem BoxMap.lt (h : BoxMap w0 w base bx bm c A us L es) : bm < w.heap.size := by
  rcases Nat.lt_or_ge bm w.heap.size with hlt | hge
  · exact hlt
  · have := h.map; rw [Array.getElem?_eq_none hge] at this; cases this
theorem BoxMap.keep (h : BoxMap w0 w base bx bm c A us L es) (hb : Below w.heap.size w w') : BoxMap w0 w' base bx bm c A us L es :=
  ⟨h.box.keep hb, h.bmb, (hb.block bm h.lt).trans h.map⟩
theorem BoxMap.set (h : BoxMap w0 w base bx bm c A us L es) (es' : Array MapEntry) : BoxMap w0 (setBlock w bm (.map es' 1)) base bx bm c A us L es' :=
  ⟨h.box.setBlock h.bmb h.ne h.neA h.not5, h.bmb, heap_setBlock_same _ _ _ h.lt⟩
theorem BoxMap.cell0 (h : BoxMap w0 w base bx bm c A us L es) : w.cell? ⟨bx, 0, none⟩ = some (.map (some bm)) := by rw [cell_of_row w bx 0 _ _ _ h.box.box]; rfl
theorem BoxMap.own5 (h : BoxMap w0 w base bx bm c A us L es) {A1 : Option Addr} {n : Nat} {xs : List Nat} (o : Own5 w A1 n xs) (es' : Array MapEntry) : Own5 (setBlock w bm (.map es' 1)) A1 n xs :=
  o.turn (by simp [setBlock]) fun k hk => heap_setBlock_other _ _ _ _ (fun e => h.not5 (e ▸ hk))
end

theorem Hold_box (w0 w : World) (base bx c c0 : Nat) (A A0 : Option Addr) (us : List Value) (L : List (List Nat)) (nx i : Int) (xs : List Nat) (m : Nat) (h : BoxAt w0 w base bx (.map none) A c us L) (h1 : nx < i) (h2 : i < nx + 4)
    (hm : m ≤ 140737488355328) (o : Own5 w A0 m xs) :
    Calls Try.prog 17 #[.pointer (some ⟨bx, 0, none⟩), .int .u32 nx, .int .u32 i, .slice A0 m c0] w fun e w' => ∃ bm A' c', e = .returned (.int .i64 0) ∧
      BoxMap w0 w' base bx bm c A us L #[⟨.int .u32 i, .slice A' m c', 0⟩] ∧ Own5 w' A' m xs := by
  refine (Hold_first w bx m c0 _ A0 _ nx i _ h1 h2 h.box (byt_one xs) hm o.rd (fun h0 a e e' => (o.c5 h0 a e).ne (E' := 28) ⟨_, h.box⟩ (by decide) e')).mono ?_
  rintro e w' ⟨bm, A', c', rfl, hbm, hbx, hmp, hr, hf, hs, ho, ht, hu, hk⟩
  refine ⟨bm, A', c', rfl, ⟨⟨h.below.trans ⟨ho, ht, hu, hs, fun k hkb => hk k (by have := h.base0; omega) (by have := h.bxb; omega)⟩, Nat.le_trans h.base0 hs, h.bxb, hbx, ?_, ?_⟩, Nat.le_trans h.base0 hbm, hmp⟩, ⟨hr, fun _ => hf⟩⟩
  · exact h.row.keep fun g e => hk g (h.row.lt g e).2 (fun e' => h.ne (by rw [ownBlock_slice] at e; rw [e, e']))
  · have h5 : ∀ k, Cells w 5 k → w'.heap[k]? = w.heap[k]? := fun k hc => hk k hc.lt (hc.ne (E' := 28) ⟨_, h.box⟩ (by decide))
    exact h.lists.keep h5 (fun k hc => by have := h5 k hc; obtain ⟨cs, hc⟩ := hc; exact ⟨cs, this.trans hc⟩) hs
theorem Turn_hit_box (w0 w : World) (base bx bm c : Nat) (A : Option Addr) (us : List Value) (L : List (List Nat)) (i : Int) (v : Value) (h : BoxMap w0 w base bx bm c A us L #[⟨.int .u32 i, v, 0⟩]) :
    Calls Try.prog 18 #[.pointer (some ⟨bx, 0, none⟩), .int .u32 i] w fun e w' => e = .returned (.tuple #[v, .bool true]) ∧ BoxMap w0 w' base bx bm c A us L #[] ∧ ∀ A1 n xs, Own5 w A1 n xs → Own5 w' A1 n xs :=
  (Turn_hit w bx bm i v h.cell0 h.map).mono fun e w' ⟨he, w1, hb, hw⟩ => by
    subst hw; exact ⟨he, (h.keep hb).set _, fun A1 n xs o => (h.keep hb).own5 (o.keep hb) _⟩
theorem Turn_miss_box (w0 w : World) (base bx bm c : Nat) (A : Option Addr) (us : List Value) (L : List (List Nat)) (i nx : Int) (v : Value) (hi : nx < i) (h : BoxMap w0 w base bx bm c A us L #[⟨.int .u32 i, v, 0⟩]) :
    Calls Try.prog 18 #[.pointer (some ⟨bx, 0, none⟩), .int .u32 nx] w fun e w' => e = .returned (.tuple #[.slice none 0 0, .bool false]) ∧ BoxMap w0 w' base bx bm c A us L #[⟨.int .u32 i, v, 0⟩] ∧ ∀ A1 n xs, Own5 w A1 n xs → Own5 w' A1 n xs :=
  (Turn_miss w bx bm i nx v hi h.cell0 h.map).mono fun e w' ⟨he, w1, hb, hw⟩ => by
    subst hw; exact ⟨he, (h.keep hb).set _, fun A1 n xs o => (h.keep hb).own5 (o.keep hb) _⟩
theorem Turn_empty_box (w0 w : World) (base bx bm c : Nat) (A : Option Addr) (us : List Value) (L : List (List Nat)) (nx : Int) (h : BoxMap w0 w base bx bm c A us L #[]) :
    Calls Try.prog 18 #[.pointer (some ⟨bx, 0, none⟩), .int .u32 nx] w fun e w' => e = .returned (.tuple #[.slice none 0 0, .bool false]) ∧ BoxMap w0 w' base bx bm c A us L #[] ∧ ∀ A1 n xs, Own5 w A1 n xs → Own5 w' A1 n xs :=
  (Turn_empty w bx bm nx h.cell0 h.map).mono fun e w' ⟨he, w1, hb, hw⟩ => by
    subst hw; exact ⟨he, (h.keep hb).set _, fun A1 n xs o => (h.keep hb).own5 (o.keep hb) _⟩
end Go.Proofs.Ytnkojlbceieinaa
