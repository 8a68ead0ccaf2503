/- What a meter has counted. -/
import Derived.Test.YtejifhdkgfilgaaDoorRecover
namespace Go.Proofs.YtejifhdkgfilgaaDoor
open Go.RowKit
theorem Load_any (w : World) (b : Nat) (c : Int) (h : Arr w b 90 (meterA c)) : Calls Tryd.prog 57 #[.pointer (some ⟨b, 0, none⟩)] w fun e w' => e = .returned (.int .i64 c) ∧ w' = w := by
  have hc : w.cell? ⟨b, 0, none⟩ = some (.int .i64 c) := h.cell 0
  have hl := run_call_load (P := Tryd.prog) Tryd.func89 (by kernel_rfl) (by kernel_rfl) (by kernel_rfl) .i64 (by kernel_rfl) hc
  go_enter Tryd.func57, Tryd.ntmps57
  go_wp2
  go_ret
  exact ⟨rfl, rfl⟩
theorem Count_any (w : World) (b : Nat) (c : Int) (h : Arr w b 90 (meterA c)) : Calls Tryd.prog 28 #[.pointer (some ⟨b, 0, none⟩)] w fun e w' => e = .returned (.int .i64 c) ∧ w' = w := by
  have H := Lib.hid h
  clear h
  go_enter Tryd.func28, Tryd.ntmps28
  go_wp2_with fail
  refine (Load_any w b c H.out).mono ?_
  rintro e w' ⟨rfl, rfl⟩
  go_wp2
  go_ret
  exact ⟨rfl, rfl⟩
end Go.Proofs.YtejifhdkgfilgaaDoor
