/- The law of the outbox, proved: for every input it returns true, and the input reads as it did. No condition beyond the row's own reach. -/
import Derived.Test.YtnkojlbceieinaaRows
import Derived.Test.YtnkojlbceieinaaOutboxWalk
import Derived.Test.YtnkojlbceieinaaOpen
namespace Go.Proofs.Ytnkojlbceieinaa
open Go.ChangeShapes Go.WideShapes Go.ChangeAt Go.RowKit Go.Deep
theorem Try2.own : ownKnob Try.prog.godebug = none := by kernel_rfl
theorem Try2.laidOut : laidOutB Try.prog = true := by kernel_rfl
theorem Try2.cells50 : Try.prog.cellsOf 50 = 5 := by kernel_rfl
theorem Try2.cells5 : Try.prog.cellsOf 5 = 1 := by kernel_rfl
theorem Try2.bytes5 : Try.prog.bytesOf 5 = 1 := by kernel_rfl

set_option maxRecDepth 100000 in
theorem outboxAgain_lifted (os : Os) (started : os.Started) (H : Type) (enc : TypeId × Value → H) :
    ReturnsInHanded {} Try.checked os 4 .any (Rows.outboxAgainSpec.pre6 enc Try.prog Try.f4 Rows.outboxAgainRow.domain false) (Rows.outboxAgainSpec.post enc Try.prog Try.f4 false true false false) := by
  refine returnsInHanded_of_change_sized (C := Try.checked) Try2.own started (by kernel_rfl) Try.func4
    (ChangeSpec.witness6 (enc := enc) (C := Try.checked) false ⟨#[], #[.slice none 0 0], []⟩ 8 (by kernel_rfl) (by kernel_rfl) (by kernel_rfl) (by kernel_rfl)) ?_
  intro W base args ds gs before hval0 hW _ hsz0 _
  have hsz : (DataW.weightsEach Try.prog (Try.f4.params.toList ++ Rows.outboxAgainSpec.plain.varTypes Try.prog) (ds ++ gs)).all (· ≤ reachBytes) = true := hsz0
  clear hsz0
  have hval : ∀ (j : Nat) t v, Try.f4.params[j]? = some t → args[j]? = some v → Value.okWide Try.prog W .any base t v := hval0
  have hW' := hW
  obtain ⟨p, q, hA0, hV, rfl, _, _⟩ := hW
  have hA : DataW.TrodAll enc Try.prog W 0 (fun _ => true) true Try.f4.params.toList args.toList ds p := hA0
  rw [Try.params4] at hA hval hsz
  obtain ⟨v0, d0, rfl, rfl, h0⟩ := trodAll_one hA
  obtain ⟨rfl, rfl⟩ := trodVars_none hV
  obtain ⟨a0, len, cap, rfl⟩ := okWide_slice Try.underlying43 (hval 0 43 v0 rfl rfl)
  have h0k := h0
  obtain ⟨fuel, hf⟩ := h0
  clear hA0 hval0
  simp only [List.append_nil] at hW'
  have hlt : ∀ x ∈ p, x.block < W.heap.size := fun x hx => by simpa using hW'.lt x hx
  have hfit : Fits Try.prog 43 d0 := fits_arg (ts := [43] ++ _) (ds := [d0] ++ _) hsz (j := 0) rfl rfl
  have fin : Calls Try.checked.prog 4 #[.slice a0 len cap] W fun e W' => e = .returned (.bool true) ∧ Below W.heap.size W W' := by
    have hf' : DataW.trod enc Try.prog W 0 (fun _ => true) true fuel 43 [.slice a0 len cap] = some (d0, p) := hf
    obtain ⟨A, n, c, hv, hn, hrow⟩ := open_rows Try.underlying43 Try.underlying50 (by kernel_rfl) Try2.cells50 hf' hfit
    injection hv with e1 e2 e3
    subst e1 e2 e3
    by_cases h60 : len ≤ 60
    · refine out_short W a0 len cap h60 fun i hi => ?_
      obtain ⟨a, rfl, hfld⟩ := hrow i hi
      obtain ⟨u0, y0, m0, hc0, ht0, _⟩ := hfld 0 _ rfl
      obtain ⟨u1, y1, m1, hc1, ht1, _⟩ := hfld 1 _ rfl
      obtain ⟨u2, y2, m2, hc2, ht2, _⟩ := hfld 2 _ rfl
      obtain ⟨u3, y3, m3, hc3, ht3, hf3⟩ := hfld 3 _ rfl
      obtain ⟨u4, y4, m4, hc4, ht4, hf4⟩ := hfld 4 _ rfl
      obtain ⟨d, e0, w0, _⟩ := DataW.trod_int Try.underlying3 ht0
      obtain ⟨ix, e1, w1, x1⟩ := DataW.trod_int Try.underlying29 ht1
      obtain ⟨nw, e2, w2, x2⟩ := DataW.trod_int Try.underlying48 ht2
      simp at e0 e1 e2
      subst e0 e1 e2
      obtain ⟨A0, m, c0, xs, rfl, hr, hm, _, hlo⟩ := open_bytes Try.underlying30 Try.underlying5 Try2.cells5 Try2.bytes5 ht3 hf3
      have hab : a.block < W.heap.size := by
        have := World.block_lt_of_cell? W _ hc0
        rw [add_block] at this; exact this
      obtain ⟨A4, m4', c4, rfl⟩ : ∃ A4 m4 c4, u4 = .slice A4 m4 c4 := by
        rcases open_slice Try.underlying45 ht4 with ⟨hcs, _⟩ | ⟨a', len', cap', _, _, _, _, hcs, _⟩
        · simp at hcs; exact ⟨none, 0, 0, hcs⟩
        · simp at hcs; exact ⟨_, _, _, hcs⟩
      have b1 : 0 ≤ ix ∧ ix ≤ 4294967295 := by
        simp [Lit.wf, IntKind.min, IntKind.max, IntKind.signed, IntKind.bits] at x1; omega
      have b2 : 0 ≤ nw ∧ nw ≤ 18446744073709551615 := by
        simp [Lit.wf, IntKind.min, IntKind.max, IntKind.signed, IntKind.bits] at x2; omega
      exact ⟨a, d, ix, nw, A0, m, c0, xs, A4, m4', c4, rfl, hab, hc0, hc1, hc2, hc3, hc4, b1.1, b1.2, b2.1, b2.2, by omega, hr, hlo⟩
    · exact out_long W a0 len cap (by omega) (by unfold maxLen at hn; omega)
  refine fin.mono fun e W' ⟨he, hb⟩ => ?_
  subst he
  refine ⟨_, rfl, _, _, _, [], p, [], hW', ?_, ?_, rfl, hb.frame _, fun h => by cases h⟩
  · exact trodAll_mk1 (shut_bool Try.underlying4 true)
  · exact trodAll_mk1 (Below.trod Try2.laidOut (by kernel_rfl) (of_decide_eq_true (by kernel_rfl)) h0k hb hlt)

theorem outboxAgain_holds : Rows.OutboxAgainSaid :=
  OpenClaim.holds_of_wide 4 Try.f4 rfl rfl rfl rfl rfl rfl rfl ⟨rfl, rfl, rfl, rfl, rfl⟩ rfl rfl rfl rfl rfl (by kernel_rfl) Try.func4 (by kernel_rfl)
    (of_decide_eq_true (by kernel_rfl)) (by unfold Func.isWrapper; first | (rw [if_pos (by decide +kernel)]; kernel_rfl) | (rw [if_neg (by decide +kernel)]; exact ⟨rfl, rfl⟩))
    (fun os started H enc _ => outboxAgain_lifted os started H enc)
end Go.Proofs.Ytnkojlbceieinaa
