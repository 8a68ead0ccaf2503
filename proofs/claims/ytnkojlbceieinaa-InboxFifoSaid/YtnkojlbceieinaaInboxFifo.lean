/- The law of the inbox, proved: for every input it returns true, and the input reads as it did. No condition beyond the row's own reach. -/
import Derived.Test.YtnkojlbceieinaaRows
import Derived.Test.YtnkojlbceieinaaInboxWalk
import Derived.Test.YtnkojlbceieinaaOpen
namespace Go.Proofs.Ytnkojlbceieinaa
open Go.ChangeShapes Go.WideShapes Go.ChangeAt Go.RowKit Go.Deep
theorem Try.own : ownKnob Try.prog.godebug = none := by kernel_rfl
theorem Try.laidOut : laidOutB Try.prog = true := by kernel_rfl
theorem Try.cells33 : Try.prog.cellsOf 33 = 6 := by kernel_rfl
theorem Try.cells5 : Try.prog.cellsOf 5 = 1 := by kernel_rfl
theorem Try.bytes5 : Try.prog.bytesOf 5 = 1 := by kernel_rfl

set_option maxRecDepth 100000 in
theorem inboxFifo_lifted (os : Os) (started : os.Started) (H : Type) (enc : TypeId × Value → H) :
    ReturnsInHanded {} Try.checked os 3 .any (Rows.inboxFifoSpec.pre6 enc Try.prog Try.f3 Rows.inboxFifoRow.domain false) (Rows.inboxFifoSpec.post enc Try.prog Try.f3 false true false false) := by
  refine returnsInHanded_of_change_sized (C := Try.checked) Try.own started (by kernel_rfl) Try.func3
    (ChangeSpec.witness6 (enc := enc) (C := Try.checked) false ⟨#[], #[.slice none 0 0], []⟩ 8 (by kernel_rfl) (by kernel_rfl) (by kernel_rfl) (by kernel_rfl)) ?_
  intro W base args ds gs before hval0 hW _ hsz0 _
  have hsz : (DataW.weightsEach Try.prog (Try.f3.params.toList ++ Rows.inboxFifoSpec.plain.varTypes Try.prog) (ds ++ gs)).all (· ≤ reachBytes) = true := hsz0
  clear hsz0
  have hval : ∀ (j : Nat) t v, Try.f3.params[j]? = some t → args[j]? = some v → Value.okWide Try.prog W .any base t v := hval0
  have hW' := hW
  obtain ⟨p, q, hA0, hV, rfl, _, _⟩ := hW
  have hA : DataW.TrodAll enc Try.prog W 0 (fun _ => true) true Try.f3.params.toList args.toList ds p := hA0
  rw [Try.params3] at hA hval hsz
  obtain ⟨v0, d0, rfl, rfl, h0⟩ := trodAll_one hA
  obtain ⟨rfl, rfl⟩ := trodVars_none hV
  obtain ⟨a0, len, cap, rfl⟩ := okWide_slice Try.underlying22 (hval 0 22 v0 rfl rfl)
  have h0k := h0
  obtain ⟨fuel, hf⟩ := h0
  clear hA0 hval0
  simp only [List.append_nil] at hW'
  have hlt : ∀ x ∈ p, x.block < W.heap.size := fun x hx => by simpa using hW'.lt x hx
  have hfit : Fits Try.prog 22 d0 := fits_arg (ts := [22] ++ _) (ds := [d0] ++ _) hsz (j := 0) rfl rfl
  have fin : Calls Try.checked.prog 3 #[.slice a0 len cap] W fun e W' => e = .returned (.bool true) ∧ Below W.heap.size W W' := by
    have hf' : DataW.trod enc Try.prog W 0 (fun _ => true) true fuel 22 [.slice a0 len cap] = some (d0, p) := hf
    obtain ⟨A, n, c, hv, hn, hrow⟩ := open_rows Try.underlying22 Try.underlying33 (by kernel_rfl) Try.cells33 hf' hfit
    injection hv with e1 e2 e3
    subst e1 e2 e3
    by_cases h80 : len ≤ 80
    · refine law_short W a0 len cap h80 fun i hi => ?_
      obtain ⟨a, rfl, hfld⟩ := hrow i hi
      obtain ⟨u0, y0, m0, hc0, ht0, _⟩ := hfld 0 _ rfl
      obtain ⟨u3, y3, m3, hc3, ht3, hf3⟩ := hfld 3 _ rfl
      obtain ⟨d, e0, _, _⟩ := DataW.trod_int Try.underlying3 ht0
      simp at e0
      subst e0
      obtain ⟨A0, m, c0, xs, rfl, hr, hm, _, hlo⟩ := open_bytes Try.underlying30 Try.underlying5 Try.cells5 Try.bytes5 ht3 hf3
      have hab : a.block < W.heap.size := by
        have := World.block_lt_of_cell? W _ hc0
        rw [add_block] at this; exact this
      exact ⟨a, d, A0, m, c0, xs, rfl, hab, hc0, hc3, by omega, hr, hlo⟩
    · exact law_long W a0 len cap (by omega) (by unfold maxLen at hn; omega)
  refine fin.mono fun e W' ⟨he, hb⟩ => ?_
  subst he
  refine ⟨_, rfl, _, _, _, [], p, [], hW', ?_, ?_, rfl, hb.frame _, fun h => by cases h⟩
  · exact trodAll_mk1 (shut_bool Try.underlying4 true)
  · exact trodAll_mk1 (Below.trod Try.laidOut (by kernel_rfl) (of_decide_eq_true (by kernel_rfl)) h0k hb hlt)

theorem inboxFifo_holds : Rows.InboxFifoSaid :=
  OpenClaim.holds_of_wide 3 Try.f3 rfl rfl rfl rfl rfl rfl rfl ⟨rfl, rfl, rfl, rfl, rfl⟩ rfl rfl rfl rfl rfl (by kernel_rfl) Try.func3 (by kernel_rfl)
    (of_decide_eq_true (by kernel_rfl)) (by unfold Func.isWrapper; first | (rw [if_pos (by decide +kernel)]; kernel_rfl) | (rw [if_neg (by decide +kernel)]; exact ⟨rfl, rfl⟩))
    (fun os started H enc _ => inboxFifo_lifted os started H enc)
end Go.Proofs.Ytnkojlbceieinaa
