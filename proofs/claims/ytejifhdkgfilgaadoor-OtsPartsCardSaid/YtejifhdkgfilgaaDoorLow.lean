/- Numbers as bytes. -/
import Derived.Test.YtejifhdkgfilgaaDoorArr
import Derived.Test.YtejifhdkgfilgaaDoorProg
namespace Go.Proofs.YtejifhdkgfilgaaDoor
open Go.RowKit
/-- a number's bytes, the lowest first -/
def lowB (n size : Nat) : List Nat := (List.range size).map fun i => n / 2 ^ (8 * i) % 256
theorem lowB_len (n size : Nat) : (lowB n size).length = size := by simp [lowB]
theorem info5 : (Tryd.prog.info? 5).map (fun i => (i.zero, i.size, i.bytes)) = some (some (.int .u8 0), 1, 1) := by kernel_rfl
set_option maxRecDepth 2000 in
set_option maxHeartbeats 400000 in
theorem Low_any (w : World) (n size : Nat) (h1 : 1 ≤ size) (h8 : size ≤ 8) :
    Calls Tryd.prog 82 #[.int .u64 n, .int .i64 size] w fun e w' => ∃ b, e = .returned (.slice (some ⟨b, 0, none⟩) size size) ∧ w.heap.size ≤ b ∧ Arr w' b 5 ((lowB n size).map byt).toArray ∧ Below w.heap.size w w' := by
  have t1 : decide ((size : Int) < 1) = false := by simp; omega
  have t8 : decide ((size : Int) > 8) = false := by simp; omega
  obtain ⟨i0, hi, hz0, hz1, hz2⟩ := info_parts info5
  go_enter Tryd.func82, Tryd.ntmps82
  go_wp2_with (at_make; go_loud (refine wpList_make_row _ rfl _ _ 57 rfl 5 i0 (.int .u8 0) Tryd.underlying57 hi hz0 hz1 rfl _ _ size rfl rfl (by rw [hz2]; omega) (by omega) ?_); rw [made_eq _ _ fun i => byt (n / 2 ^ (8 * i) % 256)])
  clear t1 t8 hi hz0 hz1 hz2
  obtain ⟨f, hf⟩ : ∃ f : Nat → Value, f = fun i => byt (n / 2 ^ (8 * i) % 256) := ⟨_, rfl⟩
  rw [← hf]
  have H := Lib.hid hf
  clear hf
  go_loopw [16] (fun i wr => ∃ k : Nat, k ≤ size ∧ i = .int .i64 k ∧ Arr wr w.heap.size 5 (fillA f (.int .u8 0) k size) ∧ Below w.heap.size w wr) (fun i _ => size - (intOf i).toNat)
  case atStart => exact ⟨0, Nat.zero_le _, rfl, Arr.new w 5 _, (Below.refl _ w).alloc (Nat.le_refl _) _⟩
  case round =>
    obtain ⟨k, hk, rfl, har, hbw⟩ := hrel
    by_cases hlt : k < size
    · have hc : wr.cell? ⟨w.heap.size, k, none⟩ = some (.int .u8 0) := by rw [har.cell, fillA_get, if_pos hlt, if_neg (by omega)]
      have hz := har.frozen k
      have HA := Lib.hid (And.intro har hbw)
      clear har hbw
      go_wp2
      go_roundw
      case rel =>
        refine ⟨k + 1, by omega, by go_num, ?_, HA.out.2.setCell (p := ⟨w.heap.size, k, none⟩) (Nat.le_refl _) _⟩
        have he : Value.int .u8 ((n : Int) / 2 ^ (8 * k) % 256) = f k := by rw [H.out]; simp [byt]
        rw [he, ← fillA_step]
        exact heap_setCell_same wr w.heap.size k (f k) _ 5 (0, 0) HA.out.1
      case measure => simp [intOf]; omega
    · obtain rfl : k = size := by omega
      have HA := Lib.hid (And.intro har hbw)
      clear har hbw
      go_wp2
      go_ret
      refine ⟨_, rfl, Nat.le_refl _, ?_, HA.out.2⟩
      have := HA.out.1
      rw [fillA_all, H.out] at this
      rw [lowB, List.map_map]
      exact this
end Go.Proofs.YtejifhdkgfilgaaDoor
