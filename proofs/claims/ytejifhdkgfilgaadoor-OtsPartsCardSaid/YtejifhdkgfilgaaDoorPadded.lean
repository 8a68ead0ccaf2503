/- A key as a block, each byte mixed with one. -/
import Derived.Test.YtejifhdkgfilgaaDoorMeter
namespace Go.Proofs.YtejifhdkgfilgaaDoor
open Go.RowKit
theorem xor8 (a b : Nat) (ha : a < 256) (hb : b < 256) : bits BinOp.xor IntKind.u8 (a : Int) (b : Int) = ((a ^^^ b : Nat) : Int) := by
  show IntKind.u8.wrap ((BitVec.ofInt 8 (a : Int) ^^^ BitVec.ofInt 8 (b : Int)).toNat : Int) = _
  have h : a ^^^ b < 256 := Nat.xor_lt_two_pow (n := 8) ha hb
  have e : (BitVec.ofInt 8 (a : Int) ^^^ BitVec.ofInt 8 (b : Int)).toNat = a ^^^ b := by
    rw [BitVec.toNat_xor, BitVec.toNat_ofInt, BitVec.toNat_ofInt]
    have e1 : ((a : Int) % ((2 ^ 8 : Nat) : Int)).toNat = a := by omega
    have e2 : ((b : Int) % ((2 ^ 8 : Nat) : Int)).toNat = b := by omega
    rw [e1, e2]
  rw [e]
  simp [IntKind.wrap, IntKind.signed, IntKind.bits]
  omega
/-- a key of up to 64 bytes as a block -/
def keyBlock (xs : List Nat) : List Nat := xs ++ List.replicate (64 - xs.length) 0
def mixB (xs : List Nat) (x : Nat) : List Nat := (keyBlock xs).map (· ^^^ x)
theorem keyBlock_len {xs : List Nat} (h : xs.length ≤ 64) : (keyBlock xs).length = 64 := by rw [keyBlock, List.length_append, List.length_replicate]; omega
theorem keyBlock_lt {xs : List Nat} (h : ∀ b ∈ xs, b < 256) : ∀ b ∈ keyBlock xs, b < 256 := by
  intro b hb
  rcases List.mem_append.1 hb with hb | hb
  · exact h b hb
  · rw [(List.mem_replicate.1 hb).2]; decide
theorem mixB_len {xs : List Nat} (h : xs.length ≤ 64) (x : Nat) : (mixB xs x).length = 64 := by rw [mixB, List.length_map, keyBlock_len h]
theorem mixB_lt {xs : List Nat} (h : ∀ b ∈ xs, b < 256) {x : Nat} (hx : x < 256) : ∀ b ∈ mixB xs x, b < 256 := by
  intro b hb
  obtain ⟨a, ha, rfl⟩ := List.mem_map.1 hb
  exact Nat.xor_lt_two_pow (n := 8) (keyBlock_lt h a ha) hx
theorem map_range_getD (l : List Nat) (g : Nat → Value) {n : Nat} (hn : l.length = n) : (List.range n).map (fun i => g (l.getD i 0)) = l.map g := by
  apply List.ext_getElem?
  intro i
  subst hn
  by_cases h : i < l.length
  · simp [h]
  · simp [h]
attribute [-go_sem] loadCellsFrom storeCells
attribute [local go_sem] storeCells_one
set_option maxRecDepth 100000 in
set_option maxHeartbeats 400000 in
theorem padded_any (w : World) (m : Nat) (p : Option Addr) (A : Option Addr) (n c x : Nat) (xs : List Nat) (hr : Rd w w.heap.size A n (xs.map byt)) (hn : n ≤ 64) (hb : ∀ b ∈ xs, b < 256) (hx : x < 256) :
    Calls Tryd.prog 121 #[.pointer p, .slice A n c, .int .u8 x] w fun e w' => ∃ b, e = .returned (.slice (some ⟨b, 0, none⟩) 64 64) ∧ NewRow (mixB xs x) w' b ∧ Grew w w' := by
  have hl : xs.length = n := by simpa using hr.len
  have hgt : decide ((n : Int) > 64) = false := by simp; omega
  have H := Lib.hid (And.intro hr (And.intro hb hl))
  clear hr hb hl
  obtain ⟨i0, hi, hz0, hz1, hz2⟩ := info_parts info5
  obtain ⟨W0, hW0⟩ : ∃ W0, W0 = w.alloc (Obj.cells (fillA (fun i => byt 0) (Value.int IntKind.u8 0) 0 64) 5) := ⟨_, rfl⟩
  have hZ : (fillA (fun _ => byt 0) (Value.int IntKind.u8 0) 0 64) = (List.replicate 64 (byt 0)).toArray := by rw [fillA_zero, ← List.toArray_replicate]; rfl
  have a0 : W0.heap[w.heap.size]? = some (.cells (List.replicate 64 (byt 0)).toArray 5 (0, 0)) := by rw [hW0, hZ]; exact Arr.new w 5 _
  have g0 : Grew w W0 := by rw [hW0]; exact (Below.refl _ _).alloc (Nat.le_refl _) _
  have hcp : 0 < (xs.map byt).length → (some ⟨w.heap.size, 0, none⟩ : Option Addr) = some ⟨w.heap.size, 0, none⟩ ∧ ∃ ad, A = some ad ∧ ∀ j v, (xs.map byt)[j]? = some v → W0.cell? (ad.add j) = some v := fun h => by
    obtain ⟨a, e, _, hc⟩ := (H.out.1.below g0 (Nat.le_refl _)).at_ (by have := H.out.2.2; simp at h; omega)
    exact ⟨rfl, a, e, hc⟩
  have hmin : (xs.map byt).length = Nat.min n 64 := by rw [List.length_map, H.out.2.2]; exact (Nat.min_eq_left hn).symm
  have hfit : 0 + (xs.map byt).length ≤ (List.replicate 64 (byt 0)).length := by rw [List.length_map, H.out.2.2, List.length_replicate]; omega
  have h1c : ∀ v ∈ xs.map byt, v.oneCell' = true := by simp [byt, Value.oneCell']
  have HC := Lib.hid (And.intro a0 (And.intro g0 (And.intro hcp (And.intro hmin (And.intro hfit h1c)))))
  have HW := Lib.hid hW0
  clear a0 g0 hcp hmin hfit h1c hZ hW0
  go_enter Tryd.func121, Tryd.ntmps121
  go_wp2_with (first
    | (at_make; go_loud (refine wpList_make_row _ rfl _ _ 57 rfl 5 i0 (.int .u8 0) Tryd.underlying57 hi hz0 hz1 rfl _ _ 64 rfl rfl (by rw [hz2]; decide) (by decide) ?_); rw [made_eq _ _ fun i => byt 0, ← HW.out])
    | (refine wpList_copy_splice rfl (.tmp 19) (.tmp 20) 57 57 (by rfl) 5 Tryd.underlying57 info23 (some ⟨w.heap.size, 0, none⟩) A 64 64 n c (by rfl) (by rfl) w.heap.size 0 (List.replicate 64 (byt 0)) 5 HC.out.1 (xs.map byt) HC.out.2.2.2.1 HC.out.2.2.1 HC.out.2.2.2.2.1 HC.out.2.2.2.2.2 w.heap.size W0 (Below.refl _ _) (Nat.le_refl _) ?_; intro w5 hh hb5))
  have hbl : (keyBlock xs).length = 64 := keyBlock_len (by rw [H.out.2.2]; exact hn)
  obtain ⟨kb, hkb⟩ : ∃ kb : Nat → Nat, kb = fun i => (keyBlock xs).getD i 0 := ⟨_, rfl⟩
  have hk256 : ∀ i, kb i < 256 := fun i => by
    rw [hkb]
    show (keyBlock xs).getD i 0 < 256
    rw [List.getD_eq_getElem?_getD]
    cases h : (keyBlock xs)[i]? with
    | none => decide
    | some v => exact keyBlock_lt H.out.2.1 v (List.mem_of_getElem? h)
  have ha : Arr w5 w.heap.size 5 (partA (fun i => byt (kb i ^^^ x)) (fun i => byt (kb i)) 0 64) := by
    rw [partA_zero, hkb, map_range_getD (keyBlock xs) byt hbl]
    have := hh.out
    have e : splice (List.replicate 64 (byt 0)) 0 (xs.map byt) = (keyBlock xs).map byt := by
      rw [splice, keyBlock, List.map_append, List.take_zero, List.nil_append, List.map_replicate, List.length_map, Nat.zero_add, List.drop_replicate]
    rw [e] at this
    exact this
  have HK := Lib.hid hkb
  have HA := Lib.hid (And.intro ha (And.intro hk256 (And.intro hbl ((HC.out.2.1).trans (hb5.mono (by omega))))))
  clear hbl hkb hk256 ha hh hb5 hi hz0 hz1 hz2
  go_loopw [24] (fun i wr => ∃ k : Nat, k ≤ 64 ∧ i = .int .i64 k ∧ Arr wr w.heap.size 5 (partA (fun i => byt (kb i ^^^ x)) (fun i => byt (kb i)) k 64) ∧ Below w.heap.size w wr) (fun i _ => 64 - (intOf i).toNat)
  case atStart => exact ⟨0, Nat.zero_le _, rfl, HA.out.1, HA.out.2.2.2⟩
  case round =>
    obtain ⟨k, hk, rfl, h1, h2⟩ := hrel
    by_cases hlt : k < 64
    · have c1 : wr.cell? ⟨w.heap.size, k, none⟩ = some (byt (kb k)) := by rw [h1.cell, partA_get, if_pos hlt, if_neg (by omega)]
      have hz := h1.frozen k
      have hkx := HA.out.2.1 k
      obtain ⟨v, hv⟩ : ∃ v, v = kb k := ⟨_, rfl⟩
      rw [← hv] at c1 hkx
      have hxor := xor8 v x hkx hx
      have hq0 : (0 : Int) ≤ (k : Int) := by omega
      have HE := Lib.hid (And.intro h1 (And.intro h2 hv))
      clear h1 h2 hv
      go_wp2
      go_roundw
      case rel => exact ⟨k + 1, by omega, by go_num, HE.out.1.setPart _ (by rw [HE.out.2.2]), HE.out.2.1.setCell (p := ⟨w.heap.size, k, none⟩) (Nat.le_refl _) _⟩
      case measure => simp [intOf]; omega
    · obtain rfl : k = 64 := by omega
      rw [show ((64 : Nat) : Int) = 64 from rfl]
      have HE := Lib.hid (And.intro h1 h2)
      clear h1 h2
      go_wp2
      go_ret
      refine ⟨_, rfl, ?_, HE.out.2⟩
      have := HE.out.1
      rw [partA_all] at this
      unfold NewRow mixB
      rw [List.map_map, ← map_range_getD (keyBlock xs) (byt ∘ fun a => a ^^^ x) HA.out.2.2.1]
      rw [HK.out] at this
      exact this
end Go.Proofs.YtejifhdkgfilgaaDoor
