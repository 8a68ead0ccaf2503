/- The number of bytes, the highest first. -/
import Derived.Test.YtejifhdkgfilgaaDoorWord
import Derived.Laws.Bits64b
namespace Go.Proofs.YtejifhdkgfilgaaDoor
open Go.RowKit
/-- bytes' number, the highest first -/
def ofHigh (xs : List Nat) : Nat := xs.foldl (fun n c => n * 256 + c) 0
theorem ofHigh_snoc (xs : List Nat) (c : Nat) : ofHigh (xs ++ [c]) = ofHigh xs * 256 + c := by simp [ofHigh]
theorem ofHigh_take {xs : List Nat} {k : Nat} (h : k < xs.length) : ofHigh (xs.take (k + 1)) = ofHigh (xs.take k) * 256 + xs[k] := by
  rw [List.take_succ_eq_append_getElem h, ofHigh_snoc]
theorem ofHigh_lt (xs : List Nat) (h : ∀ b ∈ xs, b < 256) (k : Nat) (hk : k ≤ xs.length) : ofHigh (xs.take k) < 256 ^ k := by
  induction k with
  | zero => simp [ofHigh]
  | succ k ih =>
    have h1 := ih (by omega)
    have h2 := h (xs[k]'(by omega)) (List.getElem_mem _)
    rw [ofHigh_take (by omega), Nat.pow_succ]
    omega
theorem or_byte (n c : Nat) (hn : n < 2 ^ 56) (hc : c < 256) : bits BinOp.or IntKind.u64 ((n : Int) * 256) (c : Int) = ((n * 256 + c : Nat) : Int) := by
  have := bits_or_u64_nat (n * 256) c (by omega) (by omega)
  rw [Int.natCast_mul] at this
  rw [show ((n : Int) * 256) = (n : Int) * ((256 : Nat) : Int) from rfl, this, Nat.mul_comm n 256]
  rw [show 256 * n + c = 2 ^ 8 * n + c from rfl, Nat.two_pow_add_eq_or_of_lt hc]
set_option maxHeartbeats 400000 in
theorem OfHigh_any (w : World) (A : Option Addr) (n c : Nat) (xs : List Nat) (B : Nat) (hr : Rd w B A n (xs.map byt)) (hn : n ≤ 8) (hb : ∀ b ∈ xs, b < 256) (hc : n ≤ c) (hcm : c ≤ 140737488355328) :
    Calls Tryd.prog 149 #[.slice A n c] w fun e w' => e = .returned (.int .u64 (ofHigh xs : Nat)) ∧ w = w' := by
  have hm : decide ((n : Int) ≤ 8) = true := by simp; omega
  have hl : xs.length = n := by simpa using hr.len
  have H := Lib.hid (And.intro hr (And.intro hb hl))
  clear hr hb hl
  go_enter Tryd.func149, Tryd.ntmps149
  go_wp2
  go_loop [3, 12] (fun v i => ∃ k : Nat, k ≤ n ∧ i = .int .i64 k ∧ v = .int .u64 (ofHigh (xs.take k) : Nat)) (fun _ i => n - (intOf i).toNat)
  case atStart => exact ⟨0, Nat.zero_le _, rfl, rfl⟩
  case round =>
    obtain ⟨k, hk, rfl, rfl⟩ := hrel
    by_cases hlt : k < n
    · obtain ⟨a, x, rfl, _, hx, hcell⟩ := H.out.1.byte hlt
      have hkl : k < xs.length := by rw [H.out.2.2]; exact hlt
      obtain ⟨_, hxe⟩ := List.getElem?_eq_some_iff.1 hx
      have hx256 : x < 256 := by rw [← hxe]; exact H.out.2.1 _ (List.getElem_mem _)
      have hot := ofHigh_take hkl
      rw [hxe] at hot
      have hlt2 := ofHigh_lt xs H.out.2.1 k (by omega)
      have hp : 256 ^ k ≤ 256 ^ 7 := Nat.pow_le_pow_right (by decide) (by omega)
      generalize ofHigh (xs.take k) = m at *
      have hm56 : m < 72057594037927936 := by omega
      have hor := or_byte m x hm56 hx256
      have HA := Lib.hid (And.intro hot (And.intro hx hxe))
      clear hot hx hxe hlt2 hp
      go_wp2
      go_round
      case rel => exact ⟨k + 1, by omega, by go_num, by rw [HA.out.1]; simp⟩
      case measure => simp [intOf]; omega
    · obtain rfl : k = n := by omega
      have hxt : xs.take k = xs := by rw [← H.out.2.2, List.take_length]
      rw [hxt]
      clear hxt
      go_wp2
      go_ret
      exact ⟨rfl, rfl⟩
end Go.Proofs.YtejifhdkgfilgaaDoor
