/- A number's bytes, the highest first. -/
import Derived.Test.YtejifhdkgfilgaaDoorLow
import Derived.Deep.RegionLaw
namespace Go.Proofs.YtejifhdkgfilgaaDoor
open Go.RowKit
/-- bytes of which k have been exchanged from each end -/
def revA (x : Nat → Nat) (k n : Nat) : Array Value := ((List.range n).map fun i => byt (if i < k ∨ n ≤ i + k then x (n - 1 - i) else x i)).toArray
section
variable {x : Nat → Nat} {k n : Nat}
theorem revA_size : (revA x k n).size = n := by simp [revA]
theorem revA_get (i : Nat) : (revA x k n)[i]? = if i < n then some (byt (if i < k ∨ n ≤ i + k then x (n - 1 - i) else x i)) else none := by
  unfold revA
  by_cases h : i < n <;> simp [h]
theorem revA_step (hk : 2 * k + 1 < n) : ((revA x k n).setIfInBounds k (byt (x (n - 1 - k)))).setIfInBounds (n - 1 - k) (byt (x k)) = revA x (k + 1) n := by
  apply Array.ext_getElem?
  intro i
  rw [Array.getElem?_setIfInBounds, Array.getElem?_setIfInBounds, revA_get, revA_get, Array.size_setIfInBounds, revA_size]
  by_cases h1 : n - 1 - k = i
  · rw [if_pos h1, if_pos (by omega), if_pos (by omega), if_pos (by omega), show n - 1 - i = k from by omega]
  · rw [if_neg h1]
    by_cases h2 : k = i
    · subst h2
      rw [if_pos rfl, if_pos (by omega), if_pos (by omega), if_pos (by omega)]
    · rw [if_neg h2]
      by_cases h3 : i < n
      · rw [if_pos h3, if_pos h3]
        by_cases h4 : i < k ∨ n ≤ i + k
        · rw [if_pos h4, if_pos (by omega)]
        · rw [if_neg h4, if_neg (by omega)]
      · rw [if_neg h3, if_neg h3]
theorem revA_end (hk : ¬ 2 * k + 1 < n) (hkn : 2 * k ≤ n) : revA x k n = ((List.range n).map fun i => byt (x (n - 1 - i))).toArray := by
  apply Array.ext_getElem?
  intro i
  rw [revA_get]
  by_cases h : i < n
  · by_cases h4 : i < k ∨ n ≤ i + k
    · simp [h, h4]
    · have : n - 1 - i = i := by omega
      simp [h, this]
  · simp [h]
theorem revA_zero : revA x 0 n = ((List.range n).map fun i => byt (x i)).toArray := by
  apply Array.ext_getElem?
  intro i
  rw [revA_get]
  by_cases h : i < n
  · rw [if_pos h, if_neg (by omega)]; simp [h]
  · simp [h]
end
set_option maxHeartbeats 400000 in
theorem Reverse_any (w : World) (b n : Nat) (x : Nat → Nat) (hn : n ≤ 1000) (ha : Arr w b 5 (revA x 0 n)) :
    Calls Tryd.prog 83 #[.slice (some ⟨b, 0, none⟩) n n] w fun e w' => (∃ v, e = .returned v) ∧ Arr w' b 5 ((List.range n).map fun i => byt (x (n - 1 - i))).toArray ∧ Below b w w' := by
  have H := Lib.hid ha
  clear ha
  go_enter Tryd.func83, Tryd.ntmps83
  go_wp2
  go_loopw [2, 3] (fun i j wr => ∃ k : Nat, 2 * k ≤ n ∧ i = .int .i64 k ∧ j = .int .i64 ((n : Int) - 1 - k) ∧ Arr wr b 5 (revA x k n) ∧ Below b w wr) (fun i _ _ => n - (intOf i).toNat)
  case atStart => exact ⟨0, Nat.zero_le _, rfl, by simp, H.out, Below.refl _ _⟩
  case round =>
    obtain ⟨k, hk, rfl, rfl, har, hbw⟩ := hrel
    by_cases hlt : 2 * k + 1 < n
    · obtain ⟨m, hm⟩ : ∃ m : Nat, (n : Int) - 1 - k = (m : Int) := ⟨n - 1 - k, by omega⟩
      have hmk : m = n - 1 - k := by omega
      have hckm : decide (k < m) = true := by simp; omega
      have hc1 : wr.cell? ⟨b, k, none⟩ = some (byt (x k)) := by rw [har.cell, revA_get, if_pos (by omega), if_neg (by omega)]
      have hc2 : wr.cell? ⟨b, m, none⟩ = some (byt (x m)) := by rw [har.cell, revA_get, if_pos (by omega), if_neg (by omega)]
      have hz1 := har.frozen k
      have hz2 := har.frozen m
      have hne : m ≠ k := by omega
      have hmn : m < n := by omega
      have hkn : k < n := by omega
      rw [hm]
      have HA := Lib.hid (And.intro har (And.intro hbw (And.intro hm hmk)))
      clear har hbw hm hmk
      go_wp2
      go_region
      all_goals
        go_wp2
        go_roundw
        case rel =>
          refine ⟨k + 1, by omega, by go_num, ?_, ?_, ?_⟩
          · congr 1; have := HA.out.2.2.1; omega
          · rw [← revA_step hlt, ← HA.out.2.2.2]
            exact heap_setCell_same (wr.setCell ⟨b, k, none⟩ (byt (x m))) b m (byt (x k)) ((revA x k n).setIfInBounds k (byt (x m))) 5 (0, 0) (heap_setCell_same wr b k (byt (x m)) (revA x k n) 5 (0, 0) HA.out.1)
          · exact below_drewN_ ((HA.out.2.1.setCell (p := ⟨b, k, none⟩) (Nat.le_refl _) (byt (x m))).setCell (p := ⟨b, m, none⟩) (Nat.le_refl _) (byt (x k))) 1
        case measure => simp [intOf]; omega
    · have hcf : decide ((k : Int) < (n : Int) - 1 - k) = false := by simp; omega
      have HA := Lib.hid (And.intro har hbw)
      clear har hbw
      go_wp2
      go_end0
      refine ⟨⟨_, rfl⟩, ?_, HA.out.2⟩
      rw [← revA_end hlt hk]
      exact HA.out.1
/-- a number's bytes, the highest first -/
def highB (n size : Nat) : List Nat := (List.range size).map fun i => n / 2 ^ (8 * (size - 1 - i)) % 256
theorem highB_len (n size : Nat) : (highB n size).length = size := by simp [highB]
set_option maxHeartbeats 400000 in
theorem High_any (w : World) (n size : Nat) (h1 : 1 ≤ size) (h8 : size ≤ 8) :
    Calls Tryd.prog 48 #[.int .u64 n, .int .i64 size] w fun e w' => ∃ b, e = .returned (.slice (some ⟨b, 0, none⟩) size size) ∧ w.heap.size ≤ b ∧ Arr w' b 5 ((highB n size).map byt).toArray ∧ Below w.heap.size w w' := by
  go_enter Tryd.func48, Tryd.ntmps48
  go_wp2_with (first
    | (go_at_call 82; refine (Low_any w n size h1 h8).mono ?_; rintro e w1 ⟨b, rfl, hb, ha, hw⟩; have HA := Lib.hid (And.intro ha hw); clear ha hw)
    | (go_at_call 83; refine (Reverse_any w1 b size (fun i => n / 2 ^ (8 * i) % 256) (by omega) (by rw [revA_zero]; have := HA.out.1; rw [lowB, List.map_map] at this; exact this)).mono ?_; rintro e w2 ⟨⟨v, rfl⟩, ha2, hw2⟩))
  go_ret
  refine ⟨b, rfl, hb, ?_, HA.out.2.trans (hw2.mono hb)⟩
  rw [highB, List.map_map]
  exact ha2
end Go.Proofs.YtejifhdkgfilgaaDoor
