/- A slice of keys that is built, and appended to. -/
import Derived.Test.YtejifhdkgfilgaaDoorEnds
namespace Go.Proofs.YtejifhdkgfilgaaDoor
open Go.RowKit
theorem putA_all (cs V : Array Value) (h : V.size = cs.size) : putA cs 0 V = V := by
  apply Array.ext_getElem?
  intro i
  rw [putA_get]
  by_cases h1 : i < V.size
  · rw [if_pos (by omega)]; rfl
  · rw [if_neg (by omega), Array.getElem?_eq_none (by omega), Array.getElem?_eq_none (by omega)]
theorem info23k : (Tryd.prog.info? 23).map (fun i => (i.zero, i.size, i.bytes)) = some (some (.agg (keyA (List.replicate 32 0))), 32, 32) := by kernel_rfl
theorem run_key_row (w : World) (K : List Nat) (hK : K.length = 32) : (Instr.buildSlice 39 1 #[(0, .agg (keyA K))]).run Tryd.prog w = .ok (.slice (some ⟨w.heap.size, 0, none⟩) 1 1) (w.alloc (.cells (keyA K) 23)) := by
  obtain ⟨i0, hi, hz0, hz1, hz2⟩ := info_parts info23k
  have hKs : (keyA K).size = 32 := by rw [keyA_size, hK]
  have hs : (sizeOf 23).run Tryd.prog w = .ok 32 w := by simp [sizeOf, typeInfo, hi, hz1]
  have hzv : (zeroValue 23).run Tryd.prog w = .ok (.agg (keyA (List.replicate 32 0))) w := by simp [zeroValue, typeInfo, hi, hz0]
  have hf : ∀ cs : Array Value, cs.size = 32 → Instr.fill (fun i => some (i * 32, 32)) cs [(0, .agg (keyA K))] = some (keyA K) := fun cs h => by
    have e := fill_put (fun i => some (i * 32, 32)) cs 0 0 32 (.agg (keyA K)) [] (by simp) hKs (by omega)
    have e2 := putA_all cs (keyA K) (by rw [hKs, h])
    rw [e, Instr.fill]
    exact congrArg some e2
  unfold Instr.buildSlice
  simp [run_underlying Tryd.underlying39, hs, hzv, hf, newRow, Value.cells]
end Go.Proofs.YtejifhdkgfilgaaDoor
