/- A small map of the call's own, evaluated: keys of 32 bits, at most one entry. -/
import Derived.Test.YtnkojlbceieinaaQueue
import Derived.Lib.SliceRun
import Derived.Maps.RangeRun
namespace Go.Proofs.Ytnkojlbceieinaa
open Go.RowKit
open Go.ChangeMaps (setBlock)
section
variable {P : Program} {w : World} {t E : TypeId}

theorem run_next_one {r bm : Nat} {k v : Value} (ty : TypeId) (hr : w.heap[r]? = some (.mapIter (some bm) 1 #[] 1)) (hb : w.heap[bm]? = some (.map #[⟨k, v, 0⟩] 1)) :
    (Instr.next (.pointer (some ⟨r, 0, none⟩)) false ty).run P w = .ok (.tuple #[.bool true, k, v]) (setBlock w r (.mapIter (some bm) 1 #[0] 1)) := by
  simp only [Instr.next, getObj, Sem.run_bind, Sem.run, hr, hb, Result.andThen]
  simp [choose, Sem.run, Question.forced, run_setObj_at hr]
theorem run_next_over {r bm : Nat} {k v : Value} (ty : TypeId) (hr : w.heap[r]? = some (.mapIter (some bm) 1 #[0] 1)) (hb : w.heap[bm]? = some (.map #[⟨k, v, 0⟩] 1)) :
    (Instr.next (.pointer (some ⟨r, 0, none⟩)) false ty).run P w = .ok (.tuple #[.bool false]) w := by
  simp only [Instr.next, getObj, Sem.run_bind, Sem.run, hr, hb, Result.andThen]
  simp [choose, Sem.run, Question.forced]
theorem run_next_none {r bm : Nat} (ty : TypeId) (hr : w.heap[r]? = some (.mapIter (some bm) 1 #[] 1)) (hb : w.heap[bm]? = some (.map #[] 1)) :
    (Instr.next (.pointer (some ⟨r, 0, none⟩)) false ty).run P w = .ok (.tuple #[.bool false]) w := by
  have e : ∀ p, Array.filter p (#[] : Array MapEntry) 0 0 = #[] := fun p => rfl
  simp only [Instr.next, getObj, Sem.run_bind, Sem.run, hr, hb, Result.andThen]
  simp [choose, Sem.run, Question.forced, e]
theorem run_entry_one {r bm : Nat} {k v : Value} (hr : w.heap[r]? = some (.mapIter (some bm) 1 #[0] 1)) (hb : w.heap[bm]? = some (.map #[⟨k, v, 0⟩] 1)) :
    (Instr.entry (.pointer (some ⟨r, 0, none⟩))).run P w = .ok (.tuple #[k, v]) w := by
  simp only [Instr.entry, getObj, Sem.run_bind, Sem.run, hr, Result.andThen]
  simp [Sem.run, hb]

theorem run_checkKey_u32 {b : Bool} {K : TypeId} {i : Int} (hK : P.underlying K = some (.int .u32)) : (Instr.checkKey b 10000 K (.int .u32 i)).run P w = .ok () w := by
  exact MapKept.run_checkKey (k := .int .u32 i) hK (show IntKind.u32 = IntKind.u32 from rfl) b 9999
theorem run_findKey_u32 {K : TypeId} {i j : Int} {v : Value} (hK : P.underlying K = some (.int .u32)) :
    (Instr.findKey K (.int .u32 i) [⟨.int .u32 j, v, 0⟩]).run P w = .ok (if i == j then some (0, v) else none) w := by
  unfold Instr.findKey
  simp only [Sem.run_bind, run_underlying hK, Result.andThen, Instr.findNow, Instr.sameNow, if_true]
  cases h : (i == j) <;> simp
theorem run_findKey_nil {K : TypeId} {k : Value} (hK : P.underlying K = some (.int .u32)) : (Instr.findKey K k []).run P w = .ok none w := by
  unfold Instr.findKey
  simp only [Sem.run_bind, run_underlying hK, Result.andThen, Instr.findNow]
  simp
theorem run_lookup_nil {K : TypeId} {i : Int} {z : Value} (ht : P.underlying t = some (.map K E)) (hK : P.underlying K = some (.int .u32)) (hz : (zeroValue E).run P w = .ok z w) :
    (Instr.lookup t (.map none) (.int .u32 i) true).run P w = .ok (.tuple #[z, .bool false]) w := by
  simp [Instr.lookup, run_underlying ht, run_checkKey_u32 hK, run_findKey_nil hK, hz]
theorem run_lookup_empty {K : TypeId} {bm clock : Nat} {i : Int} {z : Value} (ht : P.underlying t = some (.map K E)) (hK : P.underlying K = some (.int .u32)) (hz : (zeroValue E).run P w = .ok z w)
    (hb : w.heap[bm]? = some (.map #[] clock)) :
    (Instr.lookup t (.map (some bm)) (.int .u32 i) true).run P w = .ok (.tuple #[z, .bool false]) w := by
  simp [Instr.lookup, run_underlying ht, MapKept.run_getObj_map hb, run_checkKey_u32 hK, run_findKey_nil hK, hz]
theorem run_lookup_one {K : TypeId} {bm clock : Nat} {i j : Int} {v z : Value} (ht : P.underlying t = some (.map K E)) (hK : P.underlying K = some (.int .u32)) (hz : (zeroValue E).run P w = .ok z w)
    (hb : w.heap[bm]? = some (.map #[⟨.int .u32 j, v, 0⟩] clock)) :
    (Instr.lookup t (.map (some bm)) (.int .u32 i) true).run P w = .ok (if i == j then .tuple #[v, .bool true] else .tuple #[z, .bool false]) w := by
  simp [Instr.lookup, run_underlying ht, MapKept.run_getObj_map hb, run_checkKey_u32 hK, run_findKey_u32 hK]
  by_cases h : i = j <;> simp [h, hz]
theorem run_mapUpdate_new {K : TypeId} {bm : Nat} {i : Int} {v : Value} (ht : P.underlying t = some (.map K E)) (hK : P.underlying K = some (.int .u32))
    (hb : w.heap[bm]? = some (.map #[] 0)) :
    (Instr.mapUpdate t (.map (some bm)) (.int .u32 i) v).run P w = .ok () (setBlock w bm (.map #[⟨.int .u32 i, v, 0⟩] 1)) := by
  simp [Instr.mapUpdate, run_underlying ht, MapKept.run_getObj_map hb, run_checkKey_u32 hK, run_findKey_nil hK, MapKept.run_setObj_map _ hb, setBlock]
theorem run_delete_one {K D ty : TypeId} {bm clock : Nat} {i j : Int} {v : Value} (ht : P.underlying t = some (.map K E)) (hK : P.underlying K = some (.int .u32))
    (hb : w.heap[bm]? = some (.map #[⟨.int .u32 j, v, 0⟩] clock)) :
    (Builtin.delete_ #[t, D] ty #[.map (some bm), .int .u32 i]).run P w = .ok (.tuple #[]) (setBlock w bm (.map (if i == j then #[] else #[⟨.int .u32 j, v, 0⟩]) clock)) := by
  simp [Builtin.delete_, run_underlying ht, MapKept.run_getObj_map hb, run_checkKey_u32 hK, run_findKey_u32 hK]
  by_cases h : i = j <;> simp [h, MapKept.run_setObj_map _ hb, setBlock]
theorem run_delete_empty {K D ty : TypeId} {bm clock : Nat} {i : Int} (ht : P.underlying t = some (.map K E)) (hK : P.underlying K = some (.int .u32))
    (hb : w.heap[bm]? = some (.map #[] clock)) :
    (Builtin.delete_ #[t, D] ty #[.map (some bm), .int .u32 i]).run P w = .ok (.tuple #[]) (setBlock w bm (.map #[] clock)) := by
  simp [Builtin.delete_, run_underlying ht, MapKept.run_getObj_map hb, run_checkKey_u32 hK, run_findKey_nil hK, MapKept.run_setObj_map _ hb, setBlock]
end
end Go.Proofs.Ytnkojlbceieinaa
