/- A signer, as it lies in memory. -/
import Derived.Test.YtejifhdkgfilgaaDoorOnce
namespace Go.Proofs.YtejifhdkgfilgaaDoor
open Go.RowKit
/-- cells laid over others, from a place on -/
theorem fold_size (off : Nat) : ∀ (V : List Value) (k : Nat) (cs : Array Value), ((V.zipIdx k).foldl (fun cs x => cs.setIfInBounds (off + x.2) x.1) cs).size = cs.size
  | [], k, cs => rfl
  | v :: V, k, cs => by
    rw [List.zipIdx_cons, List.foldl_cons, fold_size off V (k + 1) _]
    simp
theorem fold_get (off : Nat) : ∀ (V : List Value) (k : Nat) (cs : Array Value) (i : Nat),
    ((V.zipIdx k).foldl (fun cs x => cs.setIfInBounds (off + x.2) x.1) cs)[i]? = if off + k ≤ i ∧ i < off + k + V.length ∧ i < cs.size then V[i - (off + k)]? else cs[i]?
  | [], k, cs, i => by
    rw [if_neg (by simp; omega)]
    rfl
  | v :: V, k, cs, i => by
    rw [List.zipIdx_cons, List.foldl_cons, fold_get off V (k + 1) _ i]
    simp only [Array.size_setIfInBounds, List.length_cons, Array.getElem?_setIfInBounds]
    by_cases h1 : off + k = i
    · subst h1
      rw [if_neg (by omega), if_pos rfl]
      by_cases h2 : off + k < cs.size
      · rw [if_pos h2, if_pos (by omega)]; simp
      · rw [if_neg h2, if_neg (by omega), Array.getElem?_eq_none (by omega)]
    · rw [if_neg h1]
      by_cases h2 : off + (k + 1) ≤ i ∧ i < off + (k + 1) + V.length ∧ i < cs.size
      · rw [if_pos h2, if_pos (by omega), show i - (off + k) = i - (off + (k + 1)) + 1 from by omega, List.getElem?_cons_succ]
      · rw [if_neg h2, if_neg (by omega)]
def putA (cs : Array Value) (off : Nat) (V : Array Value) : Array Value := V.zipIdx.foldl (fun cs x => cs.setIfInBounds (off + x.2) x.1) cs
theorem putA_list (cs : Array Value) (off : Nat) (V : Array Value) : putA cs off V = (V.toList.zipIdx 0).foldl (fun cs x => cs.setIfInBounds (off + x.2) x.1) cs := by
  rw [putA, ← Array.foldl_toList, Array.toList_zipIdx]
theorem putA_size (cs : Array Value) (off : Nat) (V : Array Value) : (putA cs off V).size = cs.size := by rw [putA_list, fold_size]
theorem putA_get (cs : Array Value) (off : Nat) (V : Array Value) (i : Nat) : (putA cs off V)[i]? = if off ≤ i ∧ i < off + V.size ∧ i < cs.size then V[i - off]? else cs[i]? := by
  rw [putA_list, fold_get]
  simp
/-- the signer's cells -/
def sigA (m : Nat) (seed tag pub : List Nat) (done lock : Int) : Array Value :=
  (Value.pointer (some ⟨m, 0, none⟩) :: (seed.map byt ++ (tag.map byt ++ (Value.int .u32 done :: Value.int .i32 lock :: Value.int .u32 0 :: pub.map byt)))).toArray
theorem fill_put (place : Nat → Option (Nat × Nat)) (cs : Array Value) (i off size : Nat) (v : Value) (rest : List (Nat × Value)) (hp : place i = some (off, size)) (hv : v.cells.size = size) (hs : off + size ≤ cs.size) :
    Instr.fill place cs ((i, v) :: rest) = Instr.fill place (putA cs off v.cells) rest := by
  rw [Instr.fill]
  simp only [hp]
  rw [if_neg (by subst hv; simp; omega)]
  rfl
theorem sig_get {m : Nat} {seed tag pub : List Nat} {done lock : Int} (hs : seed.length = 32) (ht : tag.length = 32) (hp : pub.length = 32) (i : Nat) :
    (sigA m seed tag pub done lock)[i]? = if i = 0 then some (.pointer (some ⟨m, 0, none⟩)) else if i < 33 then (keyA seed)[i - 1]? else if i < 65 then (keyA tag)[i - 33]? else if i < 68 then #[Value.int .u32 done, .int .i32 lock, .int .u32 0][i - 65]? else (keyA pub)[i - 68]? := by
  unfold sigA keyA
  simp only [List.getElem?_toArray]
  rcases Nat.eq_zero_or_pos i with h0 | h0
  · subst h0; simp
  · rw [if_neg (by omega)]
    obtain ⟨j, rfl⟩ : ∃ j, i = j + 1 := ⟨i - 1, by omega⟩
    rw [List.getElem?_cons_succ, List.getElem?_append, List.getElem?_append, List.length_map, List.length_map, hs, ht]
    by_cases h1 : j < 32
    · rw [if_pos h1, if_pos (show j + 1 < 33 by omega)]; simp
    · rw [if_neg h1, if_neg (show ¬ j + 1 < 33 by omega)]
      by_cases h2 : j - 32 < 32
      · rw [if_pos h2, if_pos (show j + 1 < 65 by omega), show j + 1 - 33 = j - 32 from by omega]
      · rw [if_neg h2, if_neg (show ¬ j + 1 < 65 by omega)]
        by_cases h3 : j + 1 < 68
        · rw [if_pos h3]
          obtain h | h | h : j - 32 - 32 = 0 ∨ j - 32 - 32 = 1 ∨ j - 32 - 32 = 2 := by omega
          · rw [h, show j + 1 - 65 = 0 from by omega]; rfl
          · rw [h, show j + 1 - 65 = 1 from by omega]; rfl
          · rw [h, show j + 1 - 65 = 2 from by omega]; rfl
        · rw [if_neg h3, show j - 32 - 32 = (j + 1 - 68) + 1 + 1 + 1 from by omega]
          simp
theorem built101 (parts : List (Nat × Value)) : Tryd.prog.built 101 parts = Instr.fill ((#[(0, 1), (1, 32), (33, 32), (65, 3), (68, 32)] : Array (Nat × Nat))[·]?) (sigA 0 (List.replicate 32 0) (List.replicate 32 0) (List.replicate 32 0) 0 0 |>.setIfInBounds 0 (.pointer none)) parts := by kernel_rfl
theorem sigA_size {m : Nat} {seed tag pub : List Nat} {done lock : Int} (hs : seed.length = 32) (ht : tag.length = 32) (hp : pub.length = 32) : (sigA m seed tag pub done lock).size = 100 := by simp [sigA, hs, ht, hp]
theorem sig_build (m : Nat) (seed tag : List Nat) (hs : seed.length = 32) (ht : tag.length = 32) :
    Tryd.prog.built 101 [(0, .pointer (some ⟨m, 0, none⟩)), (1, .agg (keyA seed)), (2, .agg (keyA tag))] = some (sigA m seed tag (List.replicate 32 0) 0 0) := by
  rw [built101]
  have hss : (keyA seed).size = 32 := by rw [keyA_size, hs]
  have hts : (keyA tag).size = 32 := by rw [keyA_size, ht]
  obtain ⟨Z, hZ⟩ : ∃ Z, Z = (sigA 0 (List.replicate 32 0) (List.replicate 32 0) (List.replicate 32 0) 0 0).setIfInBounds 0 (.pointer none) := ⟨_, rfl⟩
  have hZs : Z.size = 100 := by rw [hZ, Array.size_setIfInBounds, sigA_size (by simp) (by simp) (by simp)]
  rw [← hZ, fill_put _ _ 0 0 1 _ _ rfl rfl (by omega), fill_put _ _ 1 1 32 (.agg (keyA seed)) _ rfl hss (by rw [putA_size]; omega), fill_put _ _ 2 33 32 (.agg (keyA tag)) _ rfl hts (by rw [putA_size, putA_size]; omega), Instr.fill]
  congr 1
  apply Array.ext_getElem?
  intro i
  rw [putA_get, putA_get, putA_get, putA_size, putA_size, hZs, sig_get hs ht (by simp), show (Value.agg (keyA seed)).cells.size = 32 from hss, show (Value.agg (keyA tag)).cells.size = 32 from hts,
    show (Value.pointer (some (⟨m, 0, none⟩ : Addr))).cells.size = 1 from rfl]
  by_cases h3 : 33 ≤ i ∧ i < 33 + 32 ∧ i < 100
  · rw [if_pos h3, if_neg (show ¬ i = 0 by omega), if_neg (show ¬ i < 33 by omega), if_pos (show i < 65 by omega)]; rfl
  · rw [if_neg h3]
    by_cases h1 : 1 ≤ i ∧ i < 1 + 32 ∧ i < 100
    · rw [if_pos h1, if_neg (show ¬ i = 0 by omega), if_pos (show i < 33 by omega)]; rfl
    · rw [if_neg h1]
      rcases Nat.eq_zero_or_pos i with h0 | h0
      · subst h0; rfl
      · rw [if_neg (show ¬ (0 ≤ i ∧ i < 0 + 1 ∧ i < 100) by omega), if_neg (show ¬ i = 0 by omega)]
        by_cases h2 : i < 100
        · rw [if_neg (show ¬ i < 33 by omega), if_neg (show ¬ i < 65 by omega), hZ, Array.getElem?_setIfInBounds, if_neg (show ¬ 0 = i by omega), sig_get (by simp) (by simp) (by simp), if_neg (show ¬ i = 0 by omega), if_neg (show ¬ i < 33 by omega), if_neg (show ¬ i < 65 by omega)]
        · rw [if_neg (show ¬ i < 33 by omega), if_neg (show ¬ i < 65 by omega), if_neg (show ¬ i < 68 by omega), Array.getElem?_eq_none (by omega), Array.getElem?_eq_none (by rw [keyA_size]; simp; omega)]
attribute [-go_sem] loadCellsFrom storeCells Instr.build
attribute [local go_sem] storeCells_one
set_option maxRecDepth 100000 in
theorem NewSigner (w : World) (m : Nat) (seed tag : List Nat) (hs : seed.length = 32) (ht : tag.length = 32) :
    Calls Tryd.prog 20 #[.pointer (some ⟨m, 0, none⟩), .agg (keyA seed), .agg (keyA tag)] w fun e w' => ∃ b, e = .returned (.pointer (some ⟨b, 0, none⟩)) ∧ Arr w' b 101 (sigA m seed tag (List.replicate 32 0) 0 0) ∧ Grew w w' ∧ w.heap.size ≤ b := by
  have hs' : (keyA seed).size = 32 := by rw [keyA_size, hs]
  have ht' : (keyA tag).size = 32 := by rw [keyA_size, ht]
  have hl1 := (((Arr.new w 23 (keyA seed)).alloc (.cells (keyA tag) 23))).load (P := Tryd.prog) (n := 32) hs'
  have hl2 := ((Arr.new_at (w.alloc (.cells (keyA seed) 23)) 23 (keyA tag) (H := w.heap.size + 1) (by simp))).load (P := Tryd.prog) (n := 32) ht'
  have hbd := fun W => run_build (P := Tryd.prog) W 101 #[(0, .pointer (some ⟨m, 0, none⟩)), (1, .agg (keyA seed)), (2, .agg (keyA tag))] _ (sig_build m seed tag hs ht)
  go_enter Tryd.func20, Tryd.ntmps20
  go_wp2
  go_ret
  refine ⟨_, rfl, Arr.new_at _ 101 _ (by simp), ?_, by omega⟩
  exact (((Below.refl _ w).alloc (Nat.le_refl _) _).alloc (by simp) _).alloc (by simp; omega) _
end Go.Proofs.YtejifhdkgfilgaaDoor
