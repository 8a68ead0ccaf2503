/- law08's awake answers true. -/
import Derived.Test.YtejifhdkgfilgaaDoorKernE
import Derived.Test.YtejifhdkgfilgaaDoorCount
import Derived.Test.YtejifhdkgfilgaaDoorEqKey
namespace Go.Proofs.YtejifhdkgfilgaaDoor
open Go.RowKit
/-- the first k bytes have been laid -/
def FFRel (b : Nat) (w : World) (i : Value) (wr : World) : Prop :=
  ∃ (k : Nat) (V : Array Value), k ≤ 32 ∧ i = .int .i64 k ∧ Arr wr b 23 V ∧ V.size = 32 ∧ (∀ j, j < k → V[j]? = some (.int .u8 255)) ∧ Grew w wr
def ffB : List Nat := List.replicate 32 255
theorem ff_all (V : Array Value) (h : V.size = 32) (h2 : ∀ j, j < 32 → V[j]? = some (.int .u8 255)) : V = keyA ffB := by
  apply Array.ext_getElem?
  intro i
  by_cases hi : i < 32
  · rw [h2 i hi, keyA, List.getElem?_toArray, List.getElem?_map, ffB, List.getElem?_replicate, if_pos hi]; rfl
  · rw [Array.getElem?_eq_none (by omega), Array.getElem?_eq_none (by rw [keyA_size, ffB, List.length_replicate]; omega)]
theorem ffB_lt : ∀ b ∈ ffB, b < 256 := by decide
theorem ff_digits : digits ffB = List.replicate 64 15 ++ [0, 0, 0] := by decide +kernel
theorem zero_digits : digits (List.replicate 32 0) = List.replicate 64 0 ++ [3, 12, 0] := by decide +kernel
theorem zerosB_lt : ∀ b ∈ List.replicate 32 0, b < 256 := by decide
attribute [-go_sem] loadCellsFrom storeCells
attribute [local go_sem] storeCells_one growAt growUpon
set_option maxRecDepth 100000 in
set_option maxHeartbeats 2000000 in
theorem Awake_any (w : World) (hg : Shas w) : Calls Tryd.prog 14 #[] w fun e w' => e = .returned (.bool true) ∧ Grew w w' := by
  have H := Lib.hid hg
  clear hg
  have hst := store_new (P := Tryd.prog) w 23 (keyA (List.replicate 32 0)) (keyA (List.replicate 32 0)) rfl (keyA_one _)
  obtain ⟨Z, hZ⟩ : ∃ Z, Z = keyA (List.replicate 32 0) := ⟨_, rfl⟩
  have hZl : (keyA (List.replicate 32 0)).toList = Z.toList := by rw [hZ]
  rw [← hZ] at hst
  go_enter Tryd.func14, Tryd.ntmps14
  go_wp2_with fail
  rw [zeros32, zeros32L, hZl, ← hZ]
  have HZ := Lib.hid hZ
  clear hZl hZ
  go_simp
  go_wp2_with fail
  clear hst
  go_loopw [2] (fun i wr => FFRel w.heap.size w i wr) (fun i _ => 32 - (intOf i).toNat)
  case atStart => exact ⟨0, Z, Nat.zero_le _, rfl, Arr.new w 23 Z, by rw [HZ.out]; rfl, fun j hj => absurd hj (by omega), grew_alloc w _⟩
  case round =>
    obtain ⟨k, V, hk, rfl, hV, hVs, hVj, hgr⟩ := hrel
    by_cases hlt : k < 32
    · have HQ := Lib.hid (And.intro hV (And.intro hVs (And.intro hVj hgr)))
      obtain ⟨x, hx⟩ : ∃ x, V[k]? = some x := ⟨_, Array.getElem?_eq_getElem (by omega)⟩
      have hc := (hV.cell k).trans hx
      have hfz := hV.frozen k
      clear hV hVs hVj hgr hx
      go_wp2_with fail
      go_roundw
      case rel =>
        refine ⟨k + 1, V.setIfInBounds k (.int .u8 255), by omega, by go_num, ?_, by rw [Array.size_setIfInBounds]; exact HQ.out.2.1, fun j hj => ?_, HQ.out.2.2.2.setCell (Nat.le_refl _) _⟩
        · exact heap_setCell_same wr w.heap.size k (.int .u8 255) V 23 (0, 0) HQ.out.1
        · rw [Array.getElem?_setIfInBounds]
          by_cases hjk : k = j
          · rw [if_pos hjk, if_pos (by have := HQ.out.2.1; omega)]
          · rw [if_neg hjk]; exact HQ.out.2.2.1 j (by omega)
      case measure => simp [intOf]; omega
    · obtain rfl : k = 32 := by omega
      rw [show ((32 : Nat) : Int) = 32 from rfl]
      have hF := ff_all V hVs hVj
      rw [hF] at hV
      have hl := hV.load (P := Tryd.prog) (n := 32) rfl
      have HQ := Lib.hid (And.intro hV hgr)
      clear hV hVs hVj hgr hF
      generalize hK : keyA ffB = F at hl
      have HF := Lib.hid hK
      clear hK
      go_wp2_with fail
      clear hl
      rw [← HF.out]
      refine (Digits_any wr ffB rfl ffB_lt).mono ?_
      rintro e W1 ⟨A1, c1, rfl, q1, hc1, hg1⟩
      have H1 := Lib.hid (And.intro q1 hg1)
      clear q1 hc1 hg1
      go_wp2_with fail
      refine (Digits_any W1 (List.replicate 32 0) rfl zerosB_lt).mono ?_
      rintro e W2 ⟨A2, c2, rfl, q2, hc2, hg2⟩
      have H2 := Lib.hid (And.intro q2 hg2)
      clear q2 hc2 hg2
      go_wp2_with fail
      refine (New_any W2).mono ?_
      rintro e W3 ⟨rfl, hW3⟩
      have g3 : Grew W2 W3 := by rw [hW3]; exact grew_alloc W2 _
      have m3 : Arr W3 W2.heap.size 90 (meterA 0) := by rw [hW3]; exact Arr.new W2 90 _
      obtain ⟨m, hm⟩ : ∃ m, m = W2.heap.size := ⟨_, rfl⟩
      rw [← hm] at m3 ⊢
      have gw3 : Grew w W3 := ((HQ.out.2.trans (H1.out.2.mono HQ.out.2.size)).trans (H2.out.2.mono (HQ.out.2.trans (H1.out.2.mono HQ.out.2.size)).size)).trans (g3.mono ((HQ.out.2.trans (H1.out.2.mono HQ.out.2.size)).trans (H2.out.2.mono (HQ.out.2.trans (H1.out.2.mono HQ.out.2.size)).size)).size)
      have wm : w.heap.size ≤ m := by rw [hm]; exact ((HQ.out.2.trans (H1.out.2.mono HQ.out.2.size)).trans (H2.out.2.mono (HQ.out.2.trans (H1.out.2.mono HQ.out.2.size)).size)).size
      have met3 : Met W3 m := ⟨0, m3⟩
      have r1 : RdM m W3 A1 67 ((digits ffB).map num) := RdM.row ((H1.out.1.grew H2.out.2).grew g3) met3 (by decide)
      have r2 : RdM m W3 A2 67 ((digits (List.replicate 32 0)).map num) := RdM.row (H2.out.1.grew g3) met3 (by decide)
      have H3 := Lib.hid (And.intro gw3 (And.intro wm (And.intro met3 (And.intro (H.out.below gw3) (And.intro r1 r2)))))
      clear gw3 wm met3 r1 r2 m3 g3 hm hW3 H1 H2
      go_wp2_with fail
      refine (NewSigner W3 m seedB tagB seedB_len tagB_len).mono ?_
      rintro e W4 ⟨b, rfl, hb, g4, hbs⟩
      have sg4 : SigP W4 m b seedB tagB (List.replicate 32 0) 0 0 := ⟨H3.out.2.2.2.1.below g4, H3.out.2.2.1.grew g4, hb⟩
      have H4 := Lib.hid (And.intro g4 (And.intro hbs sg4))
      clear hb g4 hbs sg4
      go_wp2_with fail
      refine (Sign_any W4 m b seedB tagB (List.replicate 32 0) dig3 0 0 seedB_len tagB_len rfl seedB_lt tagB_lt rfl dig3_lt H4.out.2.2).mono ?_
      rintro e W5 ⟨v, rfl, hkr, g5⟩
      obtain ⟨A5, c5, hv, hq5, hc5⟩ := id hkr
      rw [sigs_len] at hv
      subst hv
      have r5 : RdM m W5 A5 (32 * 67) ((sigs seedB tagB (digits dig3) 67).flatten.map byt) := KRow.rdm (n := 67) (c := c5) hkr g5.cnt (by decide)
      have H5 := Lib.hid (And.intro g5 r5)
      clear hkr hq5 hc5 g5 r5
      go_wp2_with fail
      refine (Recover_any W5 m (H4.out.2.2.shas.gr H4.out.2.2.met H5.out.1) H5.out.1.cnt tagB dig3 tagB_len tagB_lt rfl dig3_lt A5 c5 _ (sigs_len _ _ _ _) (sigs_keys _ _ _ _) H5.out.2).mono ?_
      rw [recover_sign seedB tagB dig3 rfl dig3_lt]
      obtain ⟨P, hP⟩ : ∃ P, P = publicK seedB tagB := ⟨_, rfl⟩
      have hPs : (keyA P).size = 32 := by rw [hP, keyA_size, publicK_len]
      obtain ⟨PA, hPA⟩ : ∃ PA, PA = keyA P := ⟨_, rfl⟩
      rw [← hP, ← hPA]
      rintro e W6 ⟨rfl, g6⟩
      have hst := store_new (P := Tryd.prog) W6 23 Z PA (by rw [hPA, hPs, HZ.out]; rfl) (by rw [hPA]; exact keyA_one _)
      rw [← hPA] at hPs
      have HP := Lib.hid (And.intro hP hPA)
      clear hP hPA
      go_wp2_with fail
      rw [zeros32, ← HZ.out]
      go_simp
      go_wp2_with fail
      clear hst
      obtain ⟨W7, hW7⟩ : ∃ W7, W7 = W6.alloc (.cells PA 23) := ⟨_, rfl⟩
      have g7 : GrM m W6 W7 := Gr.of g6.cnt (by rw [hW7]; exact grew_alloc W6 _)
      have a7 : Arr W7 W6.heap.size 23 PA := by rw [hW7]; exact Arr.new W6 23 _
      have g57 : GrM m W4 W7 := (H5.out.1.trans g6).trans g7
      rw [← hW7]
      have H7 := Lib.hid (And.intro g57 (And.intro a7 (And.intro (H5.out.2.gr (g6.trans g7)) (H4.out.2.2.gr g57))))
      clear g6 g7 a7 g57 hW7
      obtain ⟨p8, hp8⟩ : ∃ p8, p8 = W6.heap.size := ⟨_, rfl⟩
      rw [← hp8] at H7 ⊢
      clear hp8
      refine (Recover_any W7 m H7.out.2.2.2.shas H7.out.1.cnt tagB dig4 tagB_len tagB_lt rfl dig4_lt A5 c5 _ (sigs_len _ _ _ _) (sigs_keys _ _ _ _) H7.out.2.2.1).mono ?_
      have hne := awake_ne
      rw [← HP.out.1] at hne
      obtain ⟨R, hR⟩ : ∃ R, R = recoverK tagB dig4 (sigs seedB tagB (digits dig3) 67) := ⟨_, rfl⟩
      have hRs : (keyA R).size = 32 := by rw [hR, recoverK, keyA_size, digest_len]
      have hRb : ∀ b ∈ R, b < 256 := by rw [hR, recoverK]; exact digest_lt _
      obtain ⟨RA, hRA⟩ : ∃ RA, RA = keyA R := ⟨_, rfl⟩
      rw [← hR] at hne ⊢
      rw [← hRA]
      rintro e W8 ⟨rfl, g8⟩
      have hst := store_new (P := Tryd.prog) W8 23 Z RA (by rw [hRA, hRs, HZ.out]; rfl) (by rw [hRA]; exact keyA_one _)
      rw [← hRA] at hRs
      have HR := Lib.hid (And.intro hR (And.intro hRA (And.intro hne hRb)))
      clear hR hRA hne hRb
      go_wp2_with fail
      rw [zeros32, ← HZ.out]
      go_simp
      go_wp2_with fail
      clear hst
      obtain ⟨W9, hW9⟩ : ∃ W9, W9 = W8.alloc (.cells RA 23) := ⟨_, rfl⟩
      have g9 : GrM m W8 W9 := Gr.of g8.cnt (by rw [hW9]; exact grew_alloc W8 _)
      have a9 : Arr W9 W8.heap.size 23 RA := by rw [hW9]; exact Arr.new W8 23 _
      have g79 : GrM m W7 W9 := g8.trans g9
      rw [← hW9]
      have H9 := Lib.hid (And.intro (H7.out.1.trans g79) (And.intro a9 (And.intro (H7.out.2.1.gr H7.out.1.cnt g79 (by decide)) (H7.out.2.2.2.gr g79))))
      clear g8 g9 a9 g79 hW9
      obtain ⟨p10, hp10⟩ : ∃ p10, p10 = W8.heap.size := ⟨_, rfl⟩
      rw [← hp10] at H9 ⊢
      clear hp10
      refine (Public_first W9 m b H9.out.2.2.2.shas H9.out.2.2.2.met seedB tagB (List.replicate 32 0) seedB_len tagB_len rfl seedB_lt tagB_lt H9.out.2.2.2.sig).mono ?_
      rw [← HP.out.1, ← HP.out.2]
      rintro e W10 ⟨rfl, b10, m10, s10⟩
      have hst := store_new (P := Tryd.prog) W10 23 Z PA (by rw [hPs, HZ.out]; rfl) (by rw [HP.out.2]; exact keyA_one _)
      have hmb := (H9.out.2.2.2.met : Met W9 m).ne H9.out.2.2.2.sig (by decide)
      have a10 : Arr W10 p10 23 RA := H9.out.2.1.bel2 b10 ((H9.out.2.2.2.met : Met W9 m).ne H9.out.2.1 (by decide)) (Cells.ne (w := W9) ⟨_, H9.out.2.1⟩ ⟨_, H9.out.2.2.2.sig⟩ (by decide))
      have a8 : Arr W10 p8 23 PA := H9.out.2.2.1.bel2 b10 ((H9.out.2.2.2.met : Met W9 m).ne H9.out.2.2.1 (by decide)) (Cells.ne (w := W9) ⟨_, H9.out.2.2.1⟩ ⟨_, H9.out.2.2.2.sig⟩ (by decide))
      have H10 := Lib.hid (And.intro b10 (And.intro a8 a10))
      clear b10 m10 s10 a10 a8 hmb
      go_wp2_with fail
      rw [zeros32, ← HZ.out]
      go_simp
      go_wp2_with fail
      clear hst
      obtain ⟨W11, hW11⟩ : ∃ W11, W11 = W10.alloc (.cells PA 23) := ⟨_, rfl⟩
      have g11 : Grew W10 W11 := by rw [hW11]; exact grew_alloc W10 _
      have a12 : Arr W11 W10.heap.size 23 PA := by rw [hW11]; exact Arr.new W10 23 _
      rw [← hW11]
      have hl8 := (H10.out.2.1.below g11).load (P := Tryd.prog) (n := 32) hPs
      have hl10 := (H10.out.2.2.below g11).load (P := Tryd.prog) (n := 32) hRs
      have hl12 := a12.load (P := Tryd.prog) (n := 32) hPs
      have b9 : Bel m W3 W9 := (Bel.of H4.out.1).trans H9.out.1.bel
      have b11 : Bel m W3 W11 := by
        have h10 := H10.out.1
        have hb3 := H4.out.2.1
        refine ⟨(g11.os.trans h10.os).trans b9.os, (g11.tape.trans h10.tape).trans b9.tape, (g11.output.trans h10.output).trans b9.output, Nat.le_trans b9.size (Nat.le_trans h10.size g11.size), fun k hk hn => ?_⟩
        have k9 : k < W9.heap.size := Nat.lt_of_lt_of_le hk b9.size
        rw [g11.block k (Nat.lt_of_lt_of_le k9 h10.size), h10.block k k9 hn (by omega), b9.block k hk hn]
      have r1 := H3.out.2.2.2.2.1.bel b11
      have r2 := H3.out.2.2.2.2.2.bel b11
      obtain ⟨a1, rfl, _, _, ca1⟩ := r1.at_ (by decide)
      obtain ⟨a2, rfl, _, _, ca2⟩ := r2.at_ (by decide)
      rw [ff_digits] at ca1
      rw [zero_digits] at ca2
      have ha64 : ∀ a : Addr, a.add 64 = ⟨a.block, a.off + 64, none⟩ := fun a => by simp [Addr.add]
      have ha65 : ∀ a : Addr, a.add 65 = ⟨a.block, a.off + 65, none⟩ := fun a => by simp [Addr.add]
      have ha66 : ∀ a : Addr, a.add 66 = ⟨a.block, a.off + 66, none⟩ := fun a => by simp [Addr.add]
      have c64 := ca1 64 (.int .i64 0) rfl
      have c65 := ca1 65 (.int .i64 0) rfl
      have c66 := ca1 66 (.int .i64 0) rfl
      have e64 := ca2 64 (.int .i64 3) rfl
      have e65 := ca2 65 (.int .i64 12) rfl
      have e66 := ca2 66 (.int .i64 0) rfl
      rw [ha64] at c64 e64
      rw [ha65] at c65 e65
      rw [ha66] at c66 e66
      have he1 := run_equal_key W11 P P (by rw [HP.out.1, publicK_len]) (by rw [HP.out.1, publicK_len])
      have he2 := run_equal_key W11 R P (by rw [HR.out.1, recoverK, digest_len]) (by rw [HP.out.1, publicK_len])
      rw [← HP.out.2, decide_eq_true rfl] at he1
      rw [← HP.out.2, ← HR.out.2.1, decide_eq_false HR.out.2.2.1] at he2
      clear ha64 ha65 ha66
      have gw : Grew w W11 := ⟨b11.os.trans H3.out.1.os, b11.tape.trans H3.out.1.tape, b11.output.trans H3.out.1.output, Nat.le_trans H3.out.1.size b11.size, fun k hk => by
        rw [b11.block k (Nat.lt_of_lt_of_le hk H3.out.1.size) (by have := H3.out.2.1; omega), H3.out.1.block k hk]⟩
      have HG := Lib.hid gw
      clear hW11 g11 a12 b9 b11 r1 r2 ca1 ca2 gw
      go_simp
      go_wp2
      go_ret
      exact ⟨rfl, HG.out⟩
end Go.Proofs.YtejifhdkgfilgaaDoor
