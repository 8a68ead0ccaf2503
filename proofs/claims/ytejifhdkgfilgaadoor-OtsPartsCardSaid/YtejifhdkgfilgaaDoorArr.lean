/- Plain words for memory: a whole array in its block; a row that is filled place by place. -/
import Derived.Test.YtejifhdkgfilgaaDoorQueue
import Derived.Deep.WholeRow
import Derived.Deep.OwnRows
import Derived.OwnWalk
import Derived.LoopTactic
namespace Go.Proofs.YtejifhdkgfilgaaDoor
open Go.RowKit

/-- the block's kind -/
abbrev Cells (w : World) (E : TypeId) (k : Nat) : Prop := ∃ cs, w.heap[k]? = some (.cells cs E (0, 0))
theorem Cells.lt {w : World} {E : TypeId} {k : Nat} (h : Cells w E k) : k < w.heap.size := by
  obtain ⟨cs, h⟩ := h
  exact (Array.getElem?_eq_some_iff.1 h).1
theorem Cells.ne {w : World} {E E' : TypeId} {k k' : Nat} (h : Cells w E k) (h' : Cells w E' k') (hE : E ≠ E') : k ≠ k' := by
  obtain ⟨cs, h⟩ := h
  obtain ⟨cs', h'⟩ := h'
  rintro rfl
  rw [h] at h'
  injection h' with h'
  injection h' with _ h'
  exact hE h'
/-- the block holds the array V -/
def Arr (w : World) (b : Nat) (t : TypeId) (V : Array Value) : Prop := w.heap[b]? = some (.cells V t (0, 0))
section
variable {P : Program} {w w' : World} {b n : Nat} {t : TypeId} {V O : Array Value}
theorem Arr.lt (h : Arr w b t V) : b < w.heap.size := (Array.getElem?_eq_some_iff.1 h).1
theorem Arr.keep (h : Arr w b t V) (hk : w'.heap[b]? = w.heap[b]?) : Arr w' b t V := hk.trans h
theorem Arr.below (h : Arr w b t V) (hb : Below w.heap.size w w') : Arr w' b t V := h.keep (hb.block b h.lt)
theorem Arr.alloc (h : Arr w b t V) (o : Obj) : Arr (w.alloc o) b t V := h.keep (Below.heap_alloc w o b h.lt)
theorem Arr.drewN (h : Arr w b t V) (k : Nat) : Arr (w.drewN k) b t V := h
theorem Arr.drew (h : Arr w b t V) : Arr w.drew b t V := h
theorem heap_alloc_new_ (w : World) (o : Obj) : (w.alloc o).heap[w.heap.size]? = some o := heap_alloc_last w o
theorem Arr.new (w : World) (t : TypeId) (V : Array Value) : Arr (w.alloc (.cells V t)) w.heap.size t V := heap_alloc_last w _
theorem Arr.new_at (w : World) (t : TypeId) (V : Array Value) {H : Nat} (hH : w.heap.size = H) : Arr (w.alloc (.cells V t)) H t V := hH ▸ Arr.new w t V
theorem Arr.cell (h : Arr w b t V) (i : Nat) : w.cell? ⟨b, i, none⟩ = V[i]? := cell_of_row w b i _ _ _ h
theorem Arr.frozen (h : Arr w b t V) (i : Nat) : w.frozen? ⟨b, i, none⟩ = false := by simp [World.frozen?, show w.heap[b]? = some (.cells V t (0, 0)) from h]
/-- the whole array, read -/
theorem Arr.load (h : Arr w b t V) (hn : V.size = n) : (loadCellsFrom ⟨b, 0, none⟩ 0 n #[]).run P w = .ok V w := by
  subst hn
  have := run_loadCells_list (P := P) (w := w) ⟨b, 0, none⟩ V.toList (fun j v hv => by
    rw [Addr.add_lit, Nat.zero_add, h.cell]
    simpa using hv)
  simpa [loadCells] using this
/-- the whole array, stored -/
theorem Arr.store (h : Arr w b t O) (hn : O.size = V.size) (h1 : ∀ v ∈ V.toList, v.oneCell' = true) : (storeCells ⟨b, 0, none⟩ V.toList 0).run P w = .ok () (w.setRow b V) := by
  have := run_storeCells_from (P := P) b t V.toList 0 O w h (by simp; omega) h1
  simpa using this
theorem Arr.setRow (h : Arr w b t O) (V : Array Value) : Arr (w.setRow b V) b t V := setRow_heap w b O V t (0, 0) h
theorem heap_setRow_other (w : World) (b : Nat) (V : Array Value) (k : Nat) (hk : k ≠ b) : (w.setRow b V).heap[k]? = w.heap[k]? := by
  show (w.heap.modify b _)[k]? = w.heap[k]?
  rw [Array.getElem?_modify, if_neg (fun e => hk e.symm)]
theorem setRow_size (w : World) (b : Nat) (V : Array Value) : (w.setRow b V).heap.size = w.heap.size := by simp [World.setRow]
theorem Below.setRow_ {B : Nat} {a : World} (h : Below B a w) (hb : B ≤ b) (V : Array Value) : Below B a (w.setRow b V) :=
  ⟨h.os, h.tape, h.output, by rw [setRow_size]; exact h.size, fun k hk => by
    have hne : k ≠ b := by omega
    rw [heap_setRow_other w b V k hne]; exact h.block k hk⟩
end

theorem storeCells_one (a : Addr) (v : Value) : storeCells a [v] 0 = store a v := rfl
theorem Arr.setRowOther {w : World} {b k : Nat} {t : TypeId} {V : Array Value} (h : Arr w b t V) (hk : b ≠ k) (U : Array Value) : Arr (w.setRow k U) b t V := h.keep (heap_setRow_other w k U b hk)
/-- an element of an array as a value -/
theorem run_index_arr {P : Program} {w : World} {t e : TypeId} {n : Nat} {T : Array Value} {k : Nat} {kd : IntKind} {v : Value} {d : TypeDesc} {i : TypeInfo} (hu : P.underlying t = some (.array n e)) (he : P.underlying e = some d)
    (hd : (match d with | .struct _ | .array _ _ => true | _ => false) = false) (hi : P.info? e = some i) (h1 : i.size = 1) (hk : k < n) (hv : T[k]? = some v) : (Instr.index t (.agg T) (.int kd (k : Int))).run P w = .ok v w := by
  have ha : (isAgg e).run P w = .ok false w := by
    unfold isAgg
    simp only [Sem.run_bind, run_underlying he, Result.andThen_ok]
    cases d <;> first | rfl | (simp at hd)
  have hs : (sizeOf e).run P w = .ok 1 w := by simp [sizeOf, typeInfo, hi, h1]
  have hk2 : (k : Int) < (n : Int) := by omega
  have hz : (0 : Int) ≤ (k : Int) := by omega
  simp [Instr.index, asIntOf, Sem.run_bind, run_underlying hu, hs, part, ha, hv, hk]
/-- a row of n places of which the first k are filled -/
def fillA (f : Nat → Value) (z : Value) (k n : Nat) : Array Value := ((List.range n).map fun i => if i < k then f i else z).toArray
section
variable {f : Nat → Value} {z : Value} {k n : Nat}
theorem fillA_size : (fillA f z k n).size = n := by simp [fillA]
theorem fillA_get (i : Nat) : (fillA f z k n)[i]? = if i < n then some (if i < k then f i else z) else none := by
  unfold fillA
  by_cases h : i < n <;> simp [h]
theorem fillA_step : (fillA f z k n).setIfInBounds k (f k) = fillA f z (k + 1) n := by
  apply Array.ext_getElem?
  intro i
  rw [Array.getElem?_setIfInBounds, fillA_get, fillA_get, fillA_size]
  by_cases hi : k = i
  · subst hi
    by_cases hn : k < n <;> simp [hn]
  · rw [if_neg hi]
    by_cases hn : i < n
    · rw [if_pos hn, if_pos hn]
      by_cases hk : i < k
      · rw [if_pos hk, if_pos (by omega)]
      · rw [if_neg hk, if_neg (by omega)]
    · rw [if_neg hn, if_neg hn]
theorem fillA_zero : fillA f z 0 n = Array.replicate n z := by
  apply Array.ext_getElem?
  intro i
  rw [fillA_get]
  by_cases h : i < n <;> simp [h]
theorem fillA_all : fillA f z n n = ((List.range n).map f).toArray := by
  apply Array.ext_getElem?
  intro i
  rw [fillA_get]
  by_cases h : i < n <;> simp [h]
theorem fillA_one (hf : ∀ i, (f i).oneCell' = true) (hz : z.oneCell' = true) : ∀ v ∈ (fillA f z k n).toList, v.oneCell' = true := by
  intro v hv
  simp only [fillA, List.mem_map, List.mem_range] at hv
  obtain ⟨i, _, rfl⟩ := hv
  split
  · exact hf i
  · exact hz
theorem Arr.setOther {w : World} {b : Nat} {t : TypeId} {V : Array Value} (h : Arr w b t V) {p : Addr} (hp : p.block ≠ b) (u : Value) : Arr (w.setCell p u) b t V := h.keep (Below.heap_setCell w p u b fun e => hp e.symm)
theorem Arr.setFill {w : World} {b : Nat} {t : TypeId} (h : Arr w b t (fillA f z k n)) (v : Value) (hv : v = f k) : Arr (w.setCell ⟨b, k, none⟩ v) b t (fillA f z (k + 1) n) := by
  rw [hv, ← fillA_step]
  exact heap_setCell_same w b k (f k) _ t (0, 0) h
end
/-- a row of which the first k places have been turned -/
def partA (f g : Nat → Value) (k n : Nat) : Array Value := ((List.range n).map fun i => if i < k then f i else g i).toArray
section
variable {f g : Nat → Value} {k n : Nat}
theorem partA_size : (partA f g k n).size = n := by simp [partA]
theorem partA_get (i : Nat) : (partA f g k n)[i]? = if i < n then some (if i < k then f i else g i) else none := by
  unfold partA
  by_cases h : i < n <;> simp [h]
theorem partA_step : (partA f g k n).setIfInBounds k (f k) = partA f g (k + 1) n := by
  apply Array.ext_getElem?
  intro i
  rw [Array.getElem?_setIfInBounds, partA_get, partA_get, partA_size]
  by_cases hi : k = i
  · subst hi
    by_cases hn : k < n <;> simp [hn]
  · rw [if_neg hi]
    by_cases hn : i < n
    · rw [if_pos hn, if_pos hn]
      by_cases hk : i < k
      · rw [if_pos hk, if_pos (by omega)]
      · rw [if_neg hk, if_neg (by omega)]
    · rw [if_neg hn, if_neg hn]
theorem partA_all : partA f g n n = ((List.range n).map f).toArray := by
  apply Array.ext_getElem?
  intro i
  rw [partA_get]
  by_cases h : i < n <;> simp [h]
theorem partA_zero : partA f g 0 n = ((List.range n).map g).toArray := by
  apply Array.ext_getElem?
  intro i
  rw [partA_get]
  by_cases h : i < n <;> simp [h]
theorem Arr.setPart {w : World} {b : Nat} {t : TypeId} (h : Arr w b t (partA f g k n)) (v : Value) (hv : v = f k) : Arr (w.setCell ⟨b, k, none⟩ v) b t (partA f g (k + 1) n) := by
  rw [hv, ← partA_step]
  exact heap_setCell_same w b k (f k) _ t (0, 0) h
end
theorem made_eq (z : Value) (n : Nat) (f : Nat → Value) : madeCells #[z] n = fillA f z 0 n := by
  rw [fillA_zero]
  apply Array.ext (by simp [size_madeCells])
  intro i h1 h2
  simp [madeCells, Nat.mod_one]
/-- an array of bytes reads as a slice -/
theorem Arr.rd {w : World} {b : Nat} {t : TypeId} {xs : List Nat} (h : Arr w b t (xs.map byt).toArray) : Rd w w.heap.size (some ⟨b, 0, none⟩) xs.length (xs.map byt) :=
  ⟨by simp, fun _ => ⟨_, rfl, h.lt, fun j u hu => by rw [Addr.add_lit, Nat.zero_add, h.cell]; simpa using hu⟩⟩
theorem Arr.rdn {w : World} {b n : Nat} {t : TypeId} {xs : List Nat} (h : Arr w b t (xs.map byt).toArray) (hn : xs.length = n) : Rd w w.heap.size (some ⟨b, 0, none⟩) n (xs.map byt) := hn ▸ h.rd
end Go.Proofs.YtejifhdkgfilgaaDoor
