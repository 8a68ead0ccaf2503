/- sync.Once: the function is called once. -/
import Derived.Test.YtejifhdkgfilgaaDoorAlong
import Derived.Defers
import Derived.Laws.Pointers
import Derived.RegionCalls
namespace Go.Proofs.YtejifhdkgfilgaaDoor
open Go.RowKit
theorem mark_disable (w : World) : (callFunc 127 #[]).run Tryd.prog w = .ok (.value (.tuple #[])) w := run_call_mark0 Tryd.func127 (by kernel_rfl) (by kernel_rfl) (by kernel_rfl) .disable (by kernel_rfl) w
theorem mark_enable (w : World) : (callFunc 129 #[]).run Tryd.prog w = .ok (.value (.tuple #[])) w := run_call_mark0 Tryd.func129 (by kernel_rfl) (by kernel_rfl) (by kernel_rfl) .enable (by kernel_rfl) w
theorem mark_acquire (a : Addr) (w : World) : (callFunc 130 #[.pointer (some a)]).run Tryd.prog w = .ok (.value (.tuple #[])) w := run_call_marked Tryd.func130 (by kernel_rfl) (by kernel_rfl) (by kernel_rfl) .acquire (by kernel_rfl) a w
theorem mark_release (a : Addr) (w : World) : (callFunc 132 #[.pointer (some a)]).run Tryd.prog w = .ok (.value (.tuple #[])) w := run_call_marked Tryd.func132 (by kernel_rfl) (by kernel_rfl) (by kernel_rfl) .releaseMerge (by kernel_rfl) a w
theorem store_deferred (a : Addr) (x : Value) (u : FrameMode) (w : World) (hc : w.cell? a = some x) (hz : w.frozen? a = false) :
    CallsD Tryd.prog 110 #[.pointer (some a), .bool true] u w fun e u' w' => u' = u ∧ (e = .returned (.tuple #[]) ∧ w' = w.drew.setCell a (.int .u32 1)) := by
  have hc' : w.drew.cell? a = some x := by go_simp
  have hz' : w.drew.frozen? a = false := by go_simp
  have hst := run_call_store (P := Tryd.prog) Tryd.func136 (by kernel_rfl) (by kernel_rfl) (by kernel_rfl) (by kernel_rfl) (k := .u32) (y := 1) hc' hz'
  go_enter_d Tryd.func110, Tryd.ntmps110
  go_wp2
  go_region_calls
  all_goals (go_end0; exact ⟨rfl, rfl⟩)
set_option maxRecDepth 100000 in
theorem unlock_deferred (a : Addr) (u : FrameMode) (w : World) (hc : w.cell? a = some (.int .i32 1)) (hz : w.frozen? a = false) :
    CallsD Tryd.prog 81 #[.pointer (some a)] u w fun e u' w' => u' = u ∧ (e = .returned (.tuple #[]) ∧ w' = w.setCell a (.int .i32 0)) := by
  have hd := mark_disable
  have he := mark_enable
  have hr := mark_release
  have hadd := run_call_add (P := Tryd.prog) Tryd.func133 (by kernel_rfl) (by kernel_rfl) (by kernel_rfl) .i32 (by kernel_rfl) (y := -1) (s := 0) hc hz (by simp [go_sem]; rfl)
  have hcv := run_convert_to_unsafe (P := Tryd.prog) (src := 184) (dst := 188) Tryd.underlying184 Tryd.underlying188 (by kernel_rfl) hc
  go_enter_d Tryd.func81, Tryd.ntmps81
  go_wp2
  go_end0
  go_wp2
  go_end0
  exact ⟨rfl, rfl⟩
set_option maxRecDepth 100000 in
theorem lock_any (a : Addr) (w : World) (hc : w.cell? a = some (.int .i32 0)) (hz : w.frozen? a = false) :
    Calls Tryd.prog 80 #[.pointer (some a)] w fun e w' => e = .returned (.tuple #[]) ∧ w' = w.setCell a (.int .i32 1) := by
  have hd := mark_disable
  have he := mark_enable
  have ha := mark_acquire
  have hcas := run_call_cas_hit (P := Tryd.prog) Tryd.func128 (by kernel_rfl) (by kernel_rfl) (by kernel_rfl) .i32 (by kernel_rfl) (y := 1) hc hz
  have hc' : (w.setCell a (.int .i32 1)).cell? a = some (.int .i32 1) := World.cell?_setCell_same w a _ hc
  have hcv := run_convert_to_unsafe (P := Tryd.prog) (src := 184) (dst := 188) Tryd.underlying184 Tryd.underlying188 (by kernel_rfl) hc'
  go_enter Tryd.func80, Tryd.ntmps80
  go_wp2
  first | go_end0 | (simp only [Exit.inBlock, Exit.then]; refine bodyPost_ret (results_none rfl _ _ _) rfl ?_) | refine bodyPost_ret (results_none rfl _ _ _) rfl ?_
  go_wp2
  go_end0
  exact ⟨rfl, rfl⟩
/-- what a function leaves that was called once -/
def OnceEnd (Q : World → Prop) (a b : Addr) (e : Ending) (w' : World) : Prop := e = .returned (.tuple #[]) ∧ ∃ w2, Q w2 ∧ w' = (w2.drew.setCell a (.int .u32 1)).setCell b (.int .i32 0)
theorem do_done (a : Addr) (fv : Value) (w : World) (h0 : w.cell? a = some (.int .u32 1)) :
    Calls Tryd.prog 52 #[.pointer (some a), fv] w fun e w' => e = .returned (.tuple #[]) ∧ w' = w := by
  have hl := run_call_load (P := Tryd.prog) Tryd.func109 (by kernel_rfl) (by kernel_rfl) (by kernel_rfl) .u32 (by kernel_rfl) h0
  have hnot : ∀ (x : Bool) (w : World), (Op.unary .not (.bool x)).run Tryd.prog w = .ok (.bool (!x)) w := fun _ _ => rfl
  go_enter Tryd.func52, Tryd.ntmps52
  go_wp2
  go_end0
  exact ⟨rfl, rfl⟩
set_option maxRecDepth 100000 in
set_option maxHeartbeats 800000 in
theorem slow_53 (b off : Nat) (cap : Array Value) (w : World) (Q : World → Prop) (h0 : w.cell? ⟨b, off, none⟩ = some (.int .u32 0)) (h1 : w.cell? ⟨b, off + 1, none⟩ = some (.int .i32 0))
    (f0 : ∀ W : World, Q W → W.cell? ⟨b, off, none⟩ = some (.int .u32 0) ∧ W.cell? ⟨b, off + 1, none⟩ = some (.int .i32 1) ∧ W.frozen? ⟨b, off, none⟩ = false ∧ W.frozen? ⟨b, off + 1, none⟩ = false) (z1 : w.frozen? ⟨b, off + 1, none⟩ = false)
    (hf : Calls Tryd.prog 53 cap (w.setCell ⟨b, off + 1, none⟩ (.int .i32 1)) fun e w' => e = .returned (.tuple #[]) ∧ Q w') :
    Calls Tryd.prog 87 #[.pointer (some ⟨b, off, none⟩), .func (.func 53) #[] cap] w (OnceEnd Q ⟨b, off, none⟩ ⟨b, off + 1, none⟩) := by
  have hl := run_call_load (P := Tryd.prog) Tryd.func109 (by kernel_rfl) (by kernel_rfl) (by kernel_rfl) .u32 (by kernel_rfl) (w := w.setCell ⟨b, off + 1, none⟩ (.int .i32 1)) (a := ⟨b, off, none⟩) (x := 0) ((World.cell?_setCell_other _ ⟨b, off + 1, none⟩ ⟨b, off, none⟩ _ (by simp)).trans h0)
  have hnot : ∀ (x : Bool) (w : World), (Op.unary .not (.bool x)).run Tryd.prog w = .ok (.bool (!x)) w := fun _ _ => rfl
  have HF := Lib.hid (And.intro hf f0)
  clear hf f0
  go_enter_defers Tryd.func87, Tryd.ntmps87
  go_wp2_with (first
    | (go_at_call 80; refine (lock_any ⟨b, off + 1, none⟩ _ h1 z1).mono ?_; rintro e w' ⟨rfl, rfl⟩)
    | (go_at_call 86; go_in)
    | (go_at_call 53; go_must (refine HF.out.1.mono ?_); rintro e w2 ⟨rfl, hQ⟩))
  obtain ⟨c0, c1, z0, z1⟩ := HF.out.2 _ hQ
  refine leaves_cons (f := 110) (args := #[.pointer (some ⟨b, off, none⟩), .bool true]) (by simp) (by simp [go_sem]) ?_
  refine (store_deferred ⟨b, off, none⟩ (.int .u32 0) .returning _ c0 z0).mono ?_
  rintro e u' w'' ⟨rfl, rfl, rfl⟩
  refine leaves_cons (f := 81) (args := #[.pointer (some ⟨b, off + 1, none⟩)]) (by simp [settle]) (by simp [go_sem]) ?_
  refine (unlock_deferred ⟨b, off + 1, none⟩ _ _ ?_ (by simp [z1])).mono ?_
  · refine (World.cell?_setCell_other _ ⟨b, off, none⟩ ⟨b, off + 1, none⟩ _ (by simp)).trans ?_
    rw [World.cell?_drew]
    exact c1
  rintro e u' w'' ⟨rfl, rfl, rfl⟩
  simp [Leaves, settle, results, Tryd.results87]
  exact ⟨rfl, _, hQ, rfl⟩
set_option maxRecDepth 100000 in
set_option maxHeartbeats 800000 in
theorem do_first_53 (b off : Nat) (cap : Array Value) (w : World) (Q : World → Prop) (h0 : w.cell? ⟨b, off, none⟩ = some (.int .u32 0)) (h1 : w.cell? ⟨b, off + 1, none⟩ = some (.int .i32 0))
    (f0 : ∀ W : World, Q W → W.cell? ⟨b, off, none⟩ = some (.int .u32 0) ∧ W.cell? ⟨b, off + 1, none⟩ = some (.int .i32 1) ∧ W.frozen? ⟨b, off, none⟩ = false ∧ W.frozen? ⟨b, off + 1, none⟩ = false) (z1 : w.frozen? ⟨b, off + 1, none⟩ = false)
    (hf : Calls Tryd.prog 53 cap (w.setCell ⟨b, off + 1, none⟩ (.int .i32 1)) fun e w' => e = .returned (.tuple #[]) ∧ Q w') :
    Calls Tryd.prog 52 #[.pointer (some ⟨b, off, none⟩), .func (.func 53) #[] cap] w (OnceEnd Q ⟨b, off, none⟩ ⟨b, off + 1, none⟩) := by
  have hl := run_call_load (P := Tryd.prog) Tryd.func109 (by kernel_rfl) (by kernel_rfl) (by kernel_rfl) .u32 (by kernel_rfl) h0
  have hnot : ∀ (x : Bool) (w : World), (Op.unary .not (.bool x)).run Tryd.prog w = .ok (.bool (!x)) w := fun _ _ => rfl
  have HS := Lib.hid (slow_53 b off cap w Q h0 h1 f0 z1 hf)
  clear hf f0 h1 z1
  go_enter Tryd.func52, Tryd.ntmps52
  go_wp2_with (first | (go_at_call 87; refine HS.out.mono ?_; rintro e w' ⟨rfl, hQ⟩) | (go_at_call 86; go_in))
  go_end0
  exact ⟨rfl, hQ⟩
set_option maxRecDepth 100000 in
set_option maxHeartbeats 800000 in
theorem slow_61 (b off : Nat) (cap : Array Value) (w : World) (Q : World → Prop) (h0 : w.cell? ⟨b, off, none⟩ = some (.int .u32 0)) (h1 : w.cell? ⟨b, off + 1, none⟩ = some (.int .i32 0))
    (f0 : ∀ W : World, Q W → W.cell? ⟨b, off, none⟩ = some (.int .u32 0) ∧ W.cell? ⟨b, off + 1, none⟩ = some (.int .i32 1) ∧ W.frozen? ⟨b, off, none⟩ = false ∧ W.frozen? ⟨b, off + 1, none⟩ = false) (z1 : w.frozen? ⟨b, off + 1, none⟩ = false)
    (hf : Calls Tryd.prog 61 cap (w.setCell ⟨b, off + 1, none⟩ (.int .i32 1)) fun e w' => e = .returned (.tuple #[]) ∧ Q w') :
    Calls Tryd.prog 87 #[.pointer (some ⟨b, off, none⟩), .func (.func 61) #[] cap] w (OnceEnd Q ⟨b, off, none⟩ ⟨b, off + 1, none⟩) := by
  have hl := run_call_load (P := Tryd.prog) Tryd.func109 (by kernel_rfl) (by kernel_rfl) (by kernel_rfl) .u32 (by kernel_rfl) (w := w.setCell ⟨b, off + 1, none⟩ (.int .i32 1)) (a := ⟨b, off, none⟩) (x := 0) ((World.cell?_setCell_other _ ⟨b, off + 1, none⟩ ⟨b, off, none⟩ _ (by simp)).trans h0)
  have hnot : ∀ (x : Bool) (w : World), (Op.unary .not (.bool x)).run Tryd.prog w = .ok (.bool (!x)) w := fun _ _ => rfl
  have HF := Lib.hid (And.intro hf f0)
  clear hf f0
  go_enter_defers Tryd.func87, Tryd.ntmps87
  go_wp2_with (first
    | (go_at_call 80; refine (lock_any ⟨b, off + 1, none⟩ _ h1 z1).mono ?_; rintro e w' ⟨rfl, rfl⟩)
    | (go_at_call 86; go_in)
    | (go_at_call 61; go_must (refine HF.out.1.mono ?_); rintro e w2 ⟨rfl, hQ⟩))
  obtain ⟨c0, c1, z0, z1⟩ := HF.out.2 _ hQ
  refine leaves_cons (f := 110) (args := #[.pointer (some ⟨b, off, none⟩), .bool true]) (by simp) (by simp [go_sem]) ?_
  refine (store_deferred ⟨b, off, none⟩ (.int .u32 0) .returning _ c0 z0).mono ?_
  rintro e u' w'' ⟨rfl, rfl, rfl⟩
  refine leaves_cons (f := 81) (args := #[.pointer (some ⟨b, off + 1, none⟩)]) (by simp [settle]) (by simp [go_sem]) ?_
  refine (unlock_deferred ⟨b, off + 1, none⟩ _ _ ?_ (by simp [z1])).mono ?_
  · refine (World.cell?_setCell_other _ ⟨b, off, none⟩ ⟨b, off + 1, none⟩ _ (by simp)).trans ?_
    rw [World.cell?_drew]
    exact c1
  rintro e u' w'' ⟨rfl, rfl, rfl⟩
  simp [Leaves, settle, results, Tryd.results87]
  exact ⟨rfl, _, hQ, rfl⟩
set_option maxRecDepth 100000 in
set_option maxHeartbeats 800000 in
theorem do_first_61 (b off : Nat) (cap : Array Value) (w : World) (Q : World → Prop) (h0 : w.cell? ⟨b, off, none⟩ = some (.int .u32 0)) (h1 : w.cell? ⟨b, off + 1, none⟩ = some (.int .i32 0))
    (f0 : ∀ W : World, Q W → W.cell? ⟨b, off, none⟩ = some (.int .u32 0) ∧ W.cell? ⟨b, off + 1, none⟩ = some (.int .i32 1) ∧ W.frozen? ⟨b, off, none⟩ = false ∧ W.frozen? ⟨b, off + 1, none⟩ = false) (z1 : w.frozen? ⟨b, off + 1, none⟩ = false)
    (hf : Calls Tryd.prog 61 cap (w.setCell ⟨b, off + 1, none⟩ (.int .i32 1)) fun e w' => e = .returned (.tuple #[]) ∧ Q w') :
    Calls Tryd.prog 52 #[.pointer (some ⟨b, off, none⟩), .func (.func 61) #[] cap] w (OnceEnd Q ⟨b, off, none⟩ ⟨b, off + 1, none⟩) := by
  have hl := run_call_load (P := Tryd.prog) Tryd.func109 (by kernel_rfl) (by kernel_rfl) (by kernel_rfl) .u32 (by kernel_rfl) h0
  have hnot : ∀ (x : Bool) (w : World), (Op.unary .not (.bool x)).run Tryd.prog w = .ok (.bool (!x)) w := fun _ _ => rfl
  have HS := Lib.hid (slow_61 b off cap w Q h0 h1 f0 z1 hf)
  clear hf f0 h1 z1
  go_enter Tryd.func52, Tryd.ntmps52
  go_wp2_with (first | (go_at_call 87; refine HS.out.mono ?_; rintro e w' ⟨rfl, hQ⟩) | (go_at_call 86; go_in))
  go_end0
  exact ⟨rfl, hQ⟩
set_option maxRecDepth 100000 in
set_option maxHeartbeats 800000 in
theorem slow_120 (b off : Nat) (cap : Array Value) (w : World) (Q : World → Prop) (h0 : w.cell? ⟨b, off, none⟩ = some (.int .u32 0)) (h1 : w.cell? ⟨b, off + 1, none⟩ = some (.int .i32 0))
    (f0 : ∀ W : World, Q W → W.cell? ⟨b, off, none⟩ = some (.int .u32 0) ∧ W.cell? ⟨b, off + 1, none⟩ = some (.int .i32 1) ∧ W.frozen? ⟨b, off, none⟩ = false ∧ W.frozen? ⟨b, off + 1, none⟩ = false) (z1 : w.frozen? ⟨b, off + 1, none⟩ = false)
    (hf : Calls Tryd.prog 120 cap (w.setCell ⟨b, off + 1, none⟩ (.int .i32 1)) fun e w' => e = .returned (.tuple #[]) ∧ Q w') :
    Calls Tryd.prog 87 #[.pointer (some ⟨b, off, none⟩), .func (.func 120) #[] cap] w (OnceEnd Q ⟨b, off, none⟩ ⟨b, off + 1, none⟩) := by
  have hl := run_call_load (P := Tryd.prog) Tryd.func109 (by kernel_rfl) (by kernel_rfl) (by kernel_rfl) .u32 (by kernel_rfl) (w := w.setCell ⟨b, off + 1, none⟩ (.int .i32 1)) (a := ⟨b, off, none⟩) (x := 0) ((World.cell?_setCell_other _ ⟨b, off + 1, none⟩ ⟨b, off, none⟩ _ (by simp)).trans h0)
  have hnot : ∀ (x : Bool) (w : World), (Op.unary .not (.bool x)).run Tryd.prog w = .ok (.bool (!x)) w := fun _ _ => rfl
  have HF := Lib.hid (And.intro hf f0)
  clear hf f0
  go_enter_defers Tryd.func87, Tryd.ntmps87
  go_wp2_with (first
    | (go_at_call 80; refine (lock_any ⟨b, off + 1, none⟩ _ h1 z1).mono ?_; rintro e w' ⟨rfl, rfl⟩)
    | (go_at_call 86; go_in)
    | (go_at_call 120; go_must (refine HF.out.1.mono ?_); rintro e w2 ⟨rfl, hQ⟩))
  obtain ⟨c0, c1, z0, z1⟩ := HF.out.2 _ hQ
  refine leaves_cons (f := 110) (args := #[.pointer (some ⟨b, off, none⟩), .bool true]) (by simp) (by simp [go_sem]) ?_
  refine (store_deferred ⟨b, off, none⟩ (.int .u32 0) .returning _ c0 z0).mono ?_
  rintro e u' w'' ⟨rfl, rfl, rfl⟩
  refine leaves_cons (f := 81) (args := #[.pointer (some ⟨b, off + 1, none⟩)]) (by simp [settle]) (by simp [go_sem]) ?_
  refine (unlock_deferred ⟨b, off + 1, none⟩ _ _ ?_ (by simp [z1])).mono ?_
  · refine (World.cell?_setCell_other _ ⟨b, off, none⟩ ⟨b, off + 1, none⟩ _ (by simp)).trans ?_
    rw [World.cell?_drew]
    exact c1
  rintro e u' w'' ⟨rfl, rfl, rfl⟩
  simp [Leaves, settle, results, Tryd.results87]
  exact ⟨rfl, _, hQ, rfl⟩
set_option maxRecDepth 100000 in
set_option maxHeartbeats 800000 in
theorem do_first_120 (b off : Nat) (cap : Array Value) (w : World) (Q : World → Prop) (h0 : w.cell? ⟨b, off, none⟩ = some (.int .u32 0)) (h1 : w.cell? ⟨b, off + 1, none⟩ = some (.int .i32 0))
    (f0 : ∀ W : World, Q W → W.cell? ⟨b, off, none⟩ = some (.int .u32 0) ∧ W.cell? ⟨b, off + 1, none⟩ = some (.int .i32 1) ∧ W.frozen? ⟨b, off, none⟩ = false ∧ W.frozen? ⟨b, off + 1, none⟩ = false) (z1 : w.frozen? ⟨b, off + 1, none⟩ = false)
    (hf : Calls Tryd.prog 120 cap (w.setCell ⟨b, off + 1, none⟩ (.int .i32 1)) fun e w' => e = .returned (.tuple #[]) ∧ Q w') :
    Calls Tryd.prog 52 #[.pointer (some ⟨b, off, none⟩), .func (.func 120) #[] cap] w (OnceEnd Q ⟨b, off, none⟩ ⟨b, off + 1, none⟩) := by
  have hl := run_call_load (P := Tryd.prog) Tryd.func109 (by kernel_rfl) (by kernel_rfl) (by kernel_rfl) .u32 (by kernel_rfl) h0
  have hnot : ∀ (x : Bool) (w : World), (Op.unary .not (.bool x)).run Tryd.prog w = .ok (.bool (!x)) w := fun _ _ => rfl
  have HS := Lib.hid (slow_120 b off cap w Q h0 h1 f0 z1 hf)
  clear hf f0 h1 z1
  go_enter Tryd.func52, Tryd.ntmps52
  go_wp2_with (first | (go_at_call 87; refine HS.out.mono ?_; rintro e w' ⟨rfl, hQ⟩) | (go_at_call 86; go_in))
  go_end0
  exact ⟨rfl, hQ⟩
end Go.Proofs.YtejifhdkgfilgaaDoor
