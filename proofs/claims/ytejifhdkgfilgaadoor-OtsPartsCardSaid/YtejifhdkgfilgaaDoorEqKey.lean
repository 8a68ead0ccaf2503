/- Two keys, compared. -/
import Derived.Test.YtejifhdkgfilgaaDoorEnds
import Derived.ChangeKeysEq
namespace Go.Proofs.YtejifhdkgfilgaaDoor
open Go.RowKit
theorem plain5 : Tryd.prog.plainKey 5 = true := by kernel_rfl
theorem cells5 : Tryd.prog.cellsOf 5 = 1 := by kernel_rfl
theorem run_eqItems_bytes (w : World) (d : Nat) (xs ys : List Nat) (n : Nat) (hx : xs.length = n) (hy : ys.length = n) : ∀ is : List Nat, (∀ i ∈ is, i < n) →
    (Op.eqItems (d + 1) 5 1 (keyA xs) (keyA ys) is).run Tryd.prog w = .ok (is.all fun i => decide (xs[i]? = ys[i]?)) w
  | [], _ => by simp [Op.eqItems]
  | i :: is, h => by
    have hi := h i (List.mem_cons_self ..)
    have h1 : (keyA xs)[i * 1]? = some (byt (xs[i]'(by omega))) := by simp [keyA, show i < xs.length from by omega]
    have h2 : (keyA ys)[i * 1]? = some (byt (ys[i]'(by omega))) := by simp [keyA, show i < ys.length from by omega]
    have ih := run_eqItems_bytes w d xs ys n hx hy is fun j hj => h j (List.mem_cons_of_mem _ hj)
    have he := run_equalIn_int (P := Tryd.prog) w d 5 .u8 .u8 ((xs[i]'(by omega) : Nat) : Int) ((ys[i]'(by omega) : Nat) : Int) Tryd.underlying5
    simp only [Op.eqItems, Sem.run_bind, run_part_plain w plain5 h1, run_part_plain w plain5 h2, Result.andThen_ok]
    rw [show (byt (xs[i]'(by omega))) = Value.int .u8 ((xs[i]'(by omega) : Nat) : Int) from rfl, show (byt (ys[i]'(by omega))) = Value.int .u8 ((ys[i]'(by omega) : Nat) : Int) from rfl, he, Result.andThen_ok, List.all_cons, List.getElem?_eq_getElem (show i < xs.length by omega), List.getElem?_eq_getElem (show i < ys.length by omega)]
    by_cases e : xs[i]'(by omega) = ys[i]'(by omega)
    · simp [e, ih]
    · have e2 : ¬ ((xs[i]'(by omega) : Nat) : Int) = ((ys[i]'(by omega) : Nat) : Int) := by omega
      simp [e, e2]
theorem run_equal_key (w : World) (xs ys : List Nat) (hx : xs.length = 32) (hy : ys.length = 32) :
    (Op.equalIn 10000 23 (.agg (keyA xs)) (.agg (keyA ys))).run Tryd.prog w = .ok (decide (xs = ys)) w := by
  obtain ⟨i0, hi, hz0, hz1, hz2⟩ := info_parts info5
  rw [run_equalIn_array w 9999 (keyA xs) (keyA ys) Tryd.underlying23 hi, cells5, run_eqItems_bytes w 9998 xs ys 32 hx hy _ fun i h => List.mem_range.1 h]
  refine congrArg (fun b => Result.ok b w) ?_
  by_cases e : xs = ys
  · simp [e]
  · rw [decide_eq_false e, List.all_eq_false]
    apply Classical.byContradiction
    intro hn
    refine e (List.ext_getElem? fun i => ?_)
    by_cases hi : i < 32
    · apply Classical.byContradiction
      intro h
      exact hn ⟨i, List.mem_range.2 hi, by simpa using h⟩
    · rw [List.getElem?_eq_none (by omega), List.getElem?_eq_none (by omega)]
end Go.Proofs.YtejifhdkgfilgaaDoor
