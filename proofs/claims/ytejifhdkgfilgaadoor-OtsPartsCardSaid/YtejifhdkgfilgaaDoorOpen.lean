/- How arguments read: a slice of bytes, a slice of structs; what the form's reach says of what lies inside. -/
import Derived.Test.YtejifhdkgfilgaaDoorMem
import Derived.ProofKit
import Derived.Carry
import Derived.SizedLaws
import Derived.Deep.Slices
import Derived.Deep.Fields
import Derived.ChangeSame
import Derived.OpenShut
namespace Go.Proofs.YtejifhdkgfilgaaDoor
open Go.ChangeShapes Go.WideShapes Go.ChangeAt Go.RowKit Go.Deep

section
variable {H : Type} {P : Program}
/-- within the form's reach -/
def Fits (P : Program) (t : TypeId) (d : DataW H) : Prop := ∀ n ∈ d.weights P t, n ≤ reachBytes
theorem fits_arg {ts : List TypeId} {ds : List (DataW H)} (h : (DataW.weightsEach P ts ds).all (· ≤ reachBytes) = true) {j : Nat} {t : TypeId} {d : DataW H} (ht : ts[j]? = some t) (hd : ds[j]? = some d) : Fits P t d :=
  fun n hn => by
    have := List.all_eq_true.1 h n (DataW.weights_mem_each ht hd n hn)
    simpa using this
theorem weights_mem_all {e : TypeId} : ∀ {ds : List (DataW H)} {d : DataW H}, d ∈ ds → ∀ n ∈ d.weights P e, n ∈ DataW.weightsAll P e ds
  | x :: ds, d, h, n, hn => by
    rw [DataW.weightsAll, List.mem_append]
    rcases List.mem_cons.1 h with rfl | h
    · exact .inl hn
    · exact .inr (weights_mem_all h n hn)
theorem fits_slice {t e : TypeId} {xs ys : List (DataW H)} (ht : P.underlying t = some (.slice e)) (h : Fits P t (.slice xs ys)) :
    (xs.length + ys.length) * P.bytesOf e ≤ reachBytes ∧ (∀ d ∈ xs, Fits P e d) ∧ (∀ d ∈ ys, Fits P e d) := by
  unfold Fits at h
  simp only [DataW.weights, ht] at h
  refine ⟨h _ (List.mem_cons_self ..), fun d hd n hn => h n (List.mem_cons_of_mem _ (List.mem_append_left _ (weights_mem_all hd n hn))), fun d hd n hn => h n (List.mem_cons_of_mem _ (List.mem_append_right _ (weights_mem_all hd n hn)))⟩
theorem fits_struct {t t' : TypeId} {fs : Array Field} {ps : List (DataW H)} {d : DataW H} {j : Nat} (ht : P.underlying t = some (.struct fs)) (h : Fits P t (.agg ps)) (hf : (fs.toList.map (·.type))[j]? = some t') (hd : ps[j]? = some d) : Fits P t' d := by
  unfold Fits at h
  simp only [DataW.weights, ht] at h
  exact fun n hn => h n (DataW.weights_mem_each hf hd n hn)

variable {enc : TypeId × Value → H} {w : World} {base : Nat} {spare : Nat → Bool} {held : Bool}
/-- a slice of bytes -/
theorem open_bytes {t e : TypeId} {fuel : Nat} {v : Value} {x : DataW H × List MemPlace} (ht : P.underlying t = some (.slice e)) (he : P.underlying e = some (.int .u8)) (hc : P.cellsOf e = 1) (hb : P.bytesOf e = 1)
    (hf : DataW.trod enc P w base spare held fuel t [v] = some x) (hfit : Fits P t x.1) :
    ∃ (A : Option Addr) (m c : Nat) (xs : List Nat), v = .slice A m c ∧ Rd w w.heap.size A m (List.map byt xs) ∧ m ≤ 140737488351232 ∧ (∀ b ∈ xs, b < 256) ∧ (0 < m → ∀ a, A = some a → a.block < w.heap.size) := by
  rcases open_ints ht he hc hf with ⟨hcs, hx⟩ | ⟨a, len, cap, zs, hcs, _, hl, hm, hz, hx, hcell, hwz⟩
  · simp at hcs
    subst hcs
    exact ⟨none, 0, 0, [], rfl, Rd.nil_, by decide, by simp, fun h => absurd h (by omega)⟩
  · simp at hcs
    subst hcs
    have hlz : len ≤ zs.length := by rw [hz]; split <;> omega
    have hlen : len ≤ 140737488351232 := by
      have h := (fits_slice ht (by rw [hx] at hfit; exact hfit)).1
      rw [hb] at h
      simp only [lits, List.length_map, List.length_take, List.length_drop, reachBytes] at h
      omega
    have hb : ∀ z ∈ zs, 0 ≤ z ∧ z ≤ 255 := fun z hz => bounds_u8 (hwz z hz)
    refine ⟨some a, len, cap, (zs.take len).map Int.toNat, rfl, ?_, hlen, ?_, ?_⟩
    · refine ⟨by simp; omega, fun h0 => ⟨a, rfl, ?_, fun j u hu => ?_⟩⟩
      · have := World.block_lt_of_cell? w _ (hcell 0 (by omega))
        rw [add_block] at this; exact this
      · simp only [List.map_map, List.getElem?_map, List.getElem?_take] at hu
        by_cases hj : j < len
        · rw [if_pos hj, List.getElem?_eq_getElem (by omega)] at hu
          simp only [Option.map_some, Option.some.injEq, Function.comp] at hu
          subst hu
          rw [hcell j (by omega)]
          have := hb (zs[j]'(by omega)) (List.getElem_mem _)
          rw [List.getD_eq_getElem?_getD, List.getElem?_eq_getElem (by omega)]
          simp only [Option.getD_some, byt]
          congr 2
          omega
        · rw [if_neg hj] at hu; cases hu
    · intro b hb'
      obtain ⟨z, hz', rfl⟩ := List.mem_map.1 hb'
      have := hb z (List.mem_of_mem_take hz')
      omega
    · intro h0 a' e
      cases e
      have := World.block_lt_of_cell? w _ (hcell 0 (by omega))
      rw [add_block] at this; exact this
/-- a slice of structs whose fields are of one cell each: each field of each element, its cell, its reading, that it is within the reach -/
theorem open_rows {t e : TypeId} {fs : Array Field} {fuel : Nat} {v : Value} {x : DataW H × List MemPlace} (ht : P.underlying t = some (.slice e)) (he : P.underlying e = some (.struct fs)) (hone : oneCellFields P fs = true) (hC : P.cellsOf e = fs.size)
    (hf : DataW.trod enc P w base spare held fuel t [v] = some x) (hfit : Fits P t x.1) :
    ∃ (A : Option Addr) (n c : Nat), v = .slice A n c ∧ n ≤ maxLen ∧ ∀ i, i < n → ∃ a, A = some a ∧ ∀ (j : Nat) (f : Field), fs[j]? = some f →
      ∃ (u : Value) (y : DataW H × List MemPlace) (m : Nat), w.cell? (a.add (i * fs.size + j)) = some u ∧ DataW.trod enc P w base spare held m f.type [u] = some y ∧ Fits P f.type y.1 := by
  rcases open_slice ht hf with ⟨hcs, _⟩ | ⟨a, len, cap, m, n, D, Pl, hcs, hb, hl, hm, hmm, hx, hi⟩
  · simp at hcs
    exact ⟨none, 0, 0, hcs, by decide, fun i h => absurd h (by omega)⟩
  · simp at hcs
    refine ⟨some a, len, cap, hcs, by omega, fun i hlt => ⟨a, rfl, fun j f hj => ?_⟩⟩
    have him : i < m := by rw [hmm]; split <;> omega
    obtain ⟨cs', hc, ht'⟩ := hi i him
    rw [hC] at hc
    obtain ⟨ys, n', _, hy, hlen, hyl, hfl⟩ := DataW.trod_struct he ht'
    obtain ⟨_, hcl, hat⟩ := World.cells?_some hc
    simp only [Prod.mk.injEq] at hy
    obtain ⟨ho, hk⟩ := hone_of hone j f hj
    have hjl : j < fs.size := (Array.getElem?_eq_some_iff.1 hj).1
    have h1 := hfl j f hj
    rw [ho, hk, List.drop_eq_getElem_cons (by omega)] at h1
    have hys : ys[j]? = some (ys[j]'(by omega)) := List.getElem?_eq_getElem _
    refine ⟨cs'[j]'(by omega), ys[j]'(by omega), n', ?_, ?_, ?_⟩
    · rw [← add_add_, hat j hjl, List.getElem?_eq_getElem (by omega)]
    · rw [← hys, ← h1]; rfl
    · have hD : Fits P e (D i) := by
        rw [hx] at hfit
        exact (fits_slice ht hfit).2.1 _ (List.mem_map.2 ⟨i, List.mem_range.2 hlt, rfl⟩)
      rw [hy.1] at hD
      exact fits_struct he hD (j := j) (by rw [List.getElem?_map, Array.getElem?_toList, hj]; rfl) (by rw [List.getElem?_map, hys]; rfl)
end
end Go.Proofs.YtejifhdkgfilgaaDoor
