/- Words of 32 bits as values. -/
import Derived.Test.YtejifhdkgfilgaaDoorConcat
import Derived.Test.YtejifhdkgfilgaaDoorGrow
namespace Go.Proofs.YtejifhdkgfilgaaDoor
open Go.RowKit
abbrev W32 := BitVec 32
/-- a word as a cell -/
abbrev wrd (x : W32) : Value := .int .u32 (x.toNat : Int)
def rr (x : W32) (n : Nat) : W32 := (x >>> n) ||| (x <<< (32 - n))
theorem ofInt32 (x : W32) : BitVec.ofInt 32 (x.toNat : Int) = x := by
  apply BitVec.eq_of_toNat_eq
  rw [BitVec.toNat_ofInt]
  have := x.isLt
  omega
theorem wrap32 (x : W32) : IntKind.u32.wrap (x.toNat : Int) = (x.toNat : Int) := by
  have := x.isLt
  simp [IntKind.wrap, IntKind.signed, IntKind.bits]
  omega
theorem xor32 (x y : W32) : bits BinOp.xor IntKind.u32 (x.toNat : Int) (y.toNat : Int) = ((x ^^^ y).toNat : Int) := by
  show IntKind.u32.wrap ((BitVec.ofInt 32 (x.toNat : Int) ^^^ BitVec.ofInt 32 (y.toNat : Int)).toNat : Int) = _
  rw [ofInt32, ofInt32, wrap32]
theorem and32 (x y : W32) : bits BinOp.and IntKind.u32 (x.toNat : Int) (y.toNat : Int) = ((x &&& y).toNat : Int) := by
  show IntKind.u32.wrap ((BitVec.ofInt 32 (x.toNat : Int) &&& BitVec.ofInt 32 (y.toNat : Int)).toNat : Int) = _
  rw [ofInt32, ofInt32, wrap32]
theorem or32 (x y : W32) : bits BinOp.or IntKind.u32 (x.toNat : Int) (y.toNat : Int) = ((x ||| y).toNat : Int) := by
  show IntKind.u32.wrap ((BitVec.ofInt 32 (x.toNat : Int) ||| BitVec.ofInt 32 (y.toNat : Int)).toNat : Int) = _
  rw [ofInt32, ofInt32, wrap32]
theorem add32 (x y : W32) : IntKind.u32.wrap ((x.toNat : Int) + (y.toNat : Int)) = ((x + y).toNat : Int) := by
  rw [BitVec.toNat_add]
  simp [IntKind.wrap, IntKind.signed, IntKind.bits]
theorem shl32 (x : W32) (n : Nat) : IntKind.u32.wrap ((x.toNat : Int) * 2 ^ n) = ((x <<< n).toNat : Int) := by
  rw [BitVec.toNat_shiftLeft, Nat.shiftLeft_eq]
  simp [IntKind.wrap, IntKind.signed, IntKind.bits]
theorem shr32 (x : W32) (n : Nat) : (x.toNat : Int).fdiv (2 ^ n) = ((x >>> n).toNat : Int) := by
  rw [BitVec.toNat_ushiftRight, Nat.shiftRight_eq_div_pow, Int.fdiv_eq_ediv_of_nonneg _ (Int.pow_nonneg (by decide))]
  simp
theorem turn_by (n : Nat) (h1 : 1 ≤ n) (h2 : n < 32) : bits BinOp.and IntKind.u64 (IntKind.u64.wrap (-(n : Int))) 31 = ((32 - n : Nat) : Int) := by
  have : ∀ n : Fin 32, 1 ≤ n.val → bits BinOp.and IntKind.u64 (IntKind.u64.wrap (-(n.val : Int))) 31 = ((32 - n.val : Nat) : Int) := by decide +kernel
  exact this ⟨n, h2⟩ h1
theorem ret_ {k : IntKind} {a b : Int} (h : a = b) : Ending.returned (.int k a) = .returned (.int k b) := by rw [h]
theorem div32 (x : W32) (n : Nat) : (x.toNat : Int) / 2 ^ n = ((x >>> n).toNat : Int) := by
  rw [BitVec.toNat_ushiftRight, Nat.shiftRight_eq_div_pow]
  simp
theorem lsl32 (x : W32) (n : Nat) : (x.toNat : Int) * 2 ^ n % 4294967296 = ((x <<< n).toNat : Int) := by
  rw [BitVec.toNat_shiftLeft, Nat.shiftLeft_eq]
  simp
theorem Rotate_any (x : W32) (n : Nat) (w : World) (h1 : 1 ≤ n) (h2 : n < 32) :
    Calls Tryd.prog 150 #[wrd x, .int .i64 (-(n : Int))] w fun e w' => e = .returned (wrd (rr x n)) ∧ w = w' := by
  obtain ⟨s, hs⟩ : ∃ s, s = 32 - n := ⟨_, rfl⟩
  have ht := turn_by n h1 h2
  rw [← hs] at ht
  have hsn : IntKind.u64.wrap (32 - (s : Int)) = (n : Int) := by simp [IntKind.wrap, IntKind.signed, IntKind.bits]; omega
  have hs0 : decide ((s : Int) < 0) = false := by simp
  have hn0 : decide ((n : Int) < 0) = false := by simp
  have hm : min s 32 = s := by omega
  have hmn : min n 32 = n := by omega
  have HS := Lib.hid hs
  clear hs
  go_enter Tryd.func150, Tryd.ntmps150
  go_wp2
  go_ret
  refine ⟨ret_ ?_, rfl⟩
  rw [lsl32, div32, or32, HS.out, rr, BitVec.or_comm]
theorem right_any (x : W32) (n : Nat) (w : World) (h1 : 1 ≤ n) (h2 : n < 32) :
    Calls Tryd.prog 126 #[wrd x, .int .i64 (n : Int)] w fun e w' => e = .returned (wrd (rr x n)) ∧ w = w' := by
  go_enter Tryd.func126, Tryd.ntmps126
  go_wp2_with (go_at_call 150; go_must (refine (Rotate_any x n _ h1 h2).mono ?_); rintro e w' ⟨rfl, rfl⟩)
  go_ret
  exact ⟨rfl, rfl⟩
theorem right_q (x : W32) (n : Nat) (w : World) (h1 : 1 ≤ n) (h2 : n < 32) :
    Calls Tryd.prog 126 #[wrd x, .int .i64 (n : Int)] w fun e w' => e = .returned (wrd (rr x n)) ∧ w' = w := (right_any x n w h1 h2).mono fun _ _ h => ⟨h.1, h.2.symm⟩
/-- a call that only reads, in a drawn region behind another one -/
theorem qa_same {P : Program} {f : FuncId} {args : Array Value} {w : World} {a n : Nat} {v : Value} (h : Calls P f args (w.drewN (a + n)) fun e w' => e = .returned v ∧ w' = w.drewN (a + n)) :
    Calls P f args (w.drewN (a + n)) fun e w'' => e = .returned v ∧ ∃ m, w'' = w.drewN (a + m) := h.mono fun _ _ hh => ⟨hh.1, n, hh.2⟩
end Go.Proofs.YtejifhdkgfilgaaDoor
