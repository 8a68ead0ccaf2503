/- The row OtsParts, and its tied card. -/
import Derived.Test.YtejifhdkgfilgaaDoorParts
import Derived.Test.YtejifhdkgfilgaaDoorRowKeep
import Derived.Test.YtejifhdkgfilgaaDoorCards
import Derived.Test.YtejifhdkgfilgaaDoorTie
namespace Go.Proofs.YtejifhdkgfilgaaDoor
open Go.ChangeShapes Go.WideShapes Go.ChangeAt Go.RowKit Go.Deep
set_option maxRecDepth 100000 in
theorem otsParts_lifted (os : Os) (started : os.Started) (H : Type) (enc : TypeId × Value → H) :
    ReturnsInHanded {} Tryd.checked os 7 .any (fun w args => (Rows.otsPartsSpec.pre enc Tryd.prog Tryd.f7 [] false w args ∧ laidMetH Tryd.prog laidSha w) ∧ sizedMet enc Tryd.prog Tryd.f7 (OpenSpec.ofChange Rows.otsPartsSpec) false w args)
      (Rows.otsPartsSpec.post enc Tryd.prog Tryd.f7 false true false false) := by
  refine returnsInHanded_laid (C := Tryd.checked) (X := fun w _ => laidMetH Tryd.prog laidSha w) (fun _ _ _ hh h => h.of_heap hh) Tryd.own started (by kernel_rfl) Tryd.func7
    (ChangeSpec.witness_shaped (enc := enc) (C := Tryd.checked) (os := os) (X := fun w _ => laidMetH Tryd.prog laidSha w) false (World.doorLaid Tryd.prog 400 os) #[.agg (keyA (List.replicate 32 0)), .int .i64 0, .int .i64 0, .int .i64 0, .int .i64 0, .agg (keyA (List.replicate 32 0))] 8 rfl (World.shaped_of_RefB (by kernel_rfl) (by kernel_rfl)) (by kernel_rfl) (by kernel_rfl) (by kernel_rfl) (door_met os _)) ?_
  intro W base args ds gs before hsh hval0 hW _ _ hL _
  have hval : ∀ (j : Nat) t v, Tryd.f7.params[j]? = some t → args[j]? = some v → Value.okWide Tryd.prog W .any base t v := hval0
  have hW' := hW
  obtain ⟨p, q, hA0, hV, rfl, _, _⟩ := hW
  have hA : DataW.TrodAll enc Tryd.prog W 0 (fun _ => true) true Tryd.f7.params.toList args.toList ds p := hA0
  have hA' := hA
  rw [Tryd.params7] at hA hA' hval
  obtain ⟨v0, v1, v2, v3, v4, v5, d0, d1, d2, d3, d4, d5, p0, p1, p2, p3, p4, p5, rfl, rfl, rfl, h0, h1, h2, h3, h4, h5⟩ := trodAll_six hA
  obtain ⟨rfl, rfl⟩ := trodVars_none hV
  obtain ⟨tag, rfl, ht, htb, rfl⟩ := open_key (hval 0 23 v0 rfl rfl) h0
  obtain ⟨chain, rfl, rfl, rfl, _⟩ := open_int Tryd.underlying3 (hval 1 3 v1 rfl rfl) h1
  obtain ⟨fr, rfl, rfl, rfl, _⟩ := open_int Tryd.underlying3 (hval 2 3 v2 rfl rfl) h2
  obtain ⟨mid, rfl, rfl, rfl, _⟩ := open_int Tryd.underlying3 (hval 3 3 v3 rfl rfl) h3
  obtain ⟨to, rfl, rfl, rfl, _⟩ := open_int Tryd.underlying3 (hval 4 3 v4 rfl rfl) h4
  obtain ⟨v, rfl, hv, hvb, rfl⟩ := open_key (hval 5 23 v5 rfl rfl) h5
  clear hA0 hval0 hA
  simp only [List.append_nil] at hW' hA'
  have hs := shas_of_laid hsh hL
  have fin : Calls Tryd.checked.prog 7 #[.agg (keyA tag), .int .i64 chain, .int .i64 fr, .int .i64 mid, .int .i64 to, .agg (keyA v)] W fun e W' => e = .returned (.bool true) ∧ Below W.heap.size W W' := by
    by_cases hbad : fr < 0 ∨ mid < fr ∨ to < mid ∨ 40 < to
    · exact Parts_bad W hs tag v chain fr mid to hbad
    · exact Parts_good W hs tag v ht hv htb hvb chain fr mid to (by omega) (by omega) (by omega) (by omega)
  refine fin.mono fun e W' ⟨he, hbw⟩ => ?_
  subst he
  refine ⟨_, rfl, _, _, _, [], [], [], hW', ?_, ?_, rfl, hbw.frame _, fun h => by cases h⟩
  · exact trodAll_mk1 (shut_bool Tryd.underlying4 true)
  · exact below_trodAll Tryd.laidOut (by kernel_rfl) hA' hbw (fun x hx => by cases hx)
theorem otsParts_holds : Rows.OtsPartsSaid :=
  OpenClaim.holds_of_wide 7 Tryd.f7 rfl rfl rfl rfl rfl rfl rfl ⟨rfl, rfl, rfl, rfl, rfl⟩ rfl rfl rfl rfl rfl (by kernel_rfl) Tryd.func7 (by kernel_rfl)
    (of_decide_eq_true (by kernel_rfl)) (by unfold Func.isWrapper; first | (rw [if_pos (by decide +kernel)]; kernel_rfl) | (rw [if_neg (by decide +kernel)]; exact ⟨rfl, rfl⟩))
    (fun os started H enc _ => otsParts_lifted os started H enc)
theorem otsParts_card : Rows.OtsPartsCardSaid :=
  Claim7.holds_tied_plain_at .later [] [.data, .data] true (true, "5df37645366f31ade064fdfc98d06b1942c80c944c5a051205b2502478d74c39") false
    otsParts_holds (fun _ h => by cases h) (by kernel_rfl) (fun _ h => by cases h) otsParts_row_tie rfl ⟨rfl, rfl⟩ (by kernel_rfl) rfl
    (fun f fn hf hfn => by
      obtain rfl : f = 7 := Option.some.inj ((show Tryd.prog.funcNamed "cablegram/cablegramlaw08.OtsParts" = some 7 by kernel_rfl).symm.trans hf) |>.symm
      obtain rfl : fn = Tryd.f7 := (Option.some.inj (Tryd.func7.symm.trans hfn)).symm
      exact ⟨by kernel_rfl, fun j t ht => by
        rw [Tryd.params7] at ht
        have hm : t ∈ [23, 3, 3, 3, 3, 23] := by simpa using Array.mem_of_getElem? ht
        have hall : ([23, 3, 3, 3, 3, 23].all fun u => !Tryd.prog.wantsStandIn u) = true := by kernel_rfl
        exact (show Tryd.prog.wantsStandIn t = false by simpa using List.all_eq_true.1 hall t hm)⟩)
    (by kernel_rfl)
#print axioms otsParts_card
end Go.Proofs.YtejifhdkgfilgaaDoor
