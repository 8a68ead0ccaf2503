/- A wrong digest gives another key. -/
import Derived.Test.YtejifhdkgfilgaaDoorKernD
namespace Go.Proofs.YtejifhdkgfilgaaDoor
set_option maxRecDepth 100000
def dig3 : List Nat := 3 :: List.replicate 31 0
def dig4 : List Nat := 4 :: List.replicate 31 0
theorem dig3_lt : ∀ b ∈ dig3, b < 256 := by decide
theorem dig4_lt : ∀ b ∈ dig4, b < 256 := by decide
def ds3 : List Nat := [0, 3, 0, 0, 0, 0, 0, 0, 0, 0, 0, 0, 0, 0, 0, 0, 0, 0, 0, 0, 0, 0, 0, 0, 0, 0, 0, 0, 0, 0, 0, 0, 0, 0, 0, 0, 0, 0, 0, 0, 0, 0, 0, 0, 0, 0, 0, 0, 0, 0, 0, 0, 0, 0, 0, 0, 0, 0, 0, 0, 0, 0, 0, 0, 3, 11, 13]
def ds4 : List Nat := [0, 4, 0, 0, 0, 0, 0, 0, 0, 0, 0, 0, 0, 0, 0, 0, 0, 0, 0, 0, 0, 0, 0, 0, 0, 0, 0, 0, 0, 0, 0, 0, 0, 0, 0, 0, 0, 0, 0, 0, 0, 0, 0, 0, 0, 0, 0, 0, 0, 0, 0, 0, 0, 0, 0, 0, 0, 0, 0, 0, 0, 0, 0, 0, 3, 11, 12]
theorem digits3 : digits dig3 = ds3 := by decide +kernel
theorem digits4 : digits dig4 = ds4 := by decide +kernel
theorem cm {f : Nat → Nat} {x b : Nat} {l m : List Nat} (h : f x = b) (k : l.map f = m) : (x :: l).map f = b :: m := by rw [List.map_cons, h, k]
theorem topK_nat (i : Nat) (hi : i < 67) : ofHigh (topK seedB tagB i) = alongN i 15 0 (beginN i) := by
  have := along_nat i (by omega) 15 0 (beginK seedB i) (by omega) (derive_len _ _ _) (derive_lt _ _ _)
  rw [begin_nat i (by omega)] at this
  exact this
theorem tops_lit : (tops seedB tagB 67).map ofHigh = topsL := by
  have e : (tops seedB tagB 67).map ofHigh = (List.range 67).map fun i => alongN i 15 0 (beginN i) := by
    rw [tops, List.map_map]
    refine List.map_congr_left fun i hi => ?_
    rw [Function.comp_apply]
    exact topK_nat i (List.mem_range.1 hi)
  rw [e, topsL, show List.range 67 = [0, 1, 2, 3, 4, 5, 6, 7, 8, 9, 10, 11, 12, 13, 14, 15, 16, 17, 18, 19, 20, 21, 22, 23, 24, 25, 26, 27, 28, 29, 30, 31, 32, 33, 34, 35, 36, 37, 38, 39, 40, 41, 42, 43, 44, 45, 46, 47, 48, 49, 50, 51, 52, 53, 54, 55, 56, 57, 58, 59, 60, 61, 62, 63, 64, 65, 66] from rfl]
  exact cm top_0 (cm top_1 (cm top_2 (cm top_3 (cm top_4 (cm top_5 (cm top_6 (cm top_7 (cm top_8 (cm top_9 (cm top_10 (cm top_11 (cm top_12 (cm top_13 (cm top_14 (cm top_15 (cm top_16 (cm top_17 (cm top_18 (cm top_19 (cm top_20 (cm top_21 (cm top_22 (cm top_23 (cm top_24 (cm top_25 (cm top_26 (cm top_27 (cm top_28 (cm top_29 (cm top_30 (cm top_31 (cm top_32 (cm top_33 (cm top_34 (cm top_35 (cm top_36 (cm top_37 (cm top_38 (cm top_39 (cm top_40 (cm top_41 (cm top_42 (cm top_43 (cm top_44 (cm top_45 (cm top_46 (cm top_47 (cm top_48 (cm top_49 (cm top_50 (cm top_51 (cm top_52 (cm top_53 (cm top_54 (cm top_55 (cm top_56 (cm top_57 (cm top_58 (cm top_59 (cm top_60 (cm top_61 (cm top_62 (cm top_63 (cm top_64 (cm top_65 (cm top_66 (List.map_nil)))))))))))))))))))))))))))))))))))))))))))))))))))))))))))))))))))
theorem recK_nat (i : Nat) (hi : i < 67) (x y : Nat) (hx : ds3.getD i 0 = x) (hy : ds4.getD i 0 = y) (hx16 : x < 16) (hy16 : y < 16) : ofHigh (recK tagB ds4 (sigs seedB tagB ds3 67) i) = alongN i (15 - y) y (alongN i x 0 (beginN i)) := by
  have hs : (sigs seedB tagB ds3 67).getD i [] = sigK seedB tagB ds3 i := by simp [List.getD, sigs, hi]
  rw [recK, hs, hy, sigK, hx]
  have h1 := along_nat i (by omega) x 0 (beginK seedB i) (by omega) (derive_len _ _ _) (derive_lt _ _ _)
  have h2 := along_nat i (by omega) (15 - y) y (along tagB i 0 (beginK seedB i) x) (by omega) (along_len (derive_len _ _ _) _) (along_lt (derive_lt _ _ _) _)
  rw [begin_nat i (by omega)] at h1
  rw [h2]
  exact congrArg _ h1
theorem ds_same (i : Nat) (hi : i < 67) (h1 : i ≠ 1) (h2 : i ≠ 66) : ds3.getD i 0 = ds4.getD i 0 ∧ ds3.getD i 0 < 16 := by
  have : ∀ i : Fin 67, i.val ≠ 1 → i.val ≠ 66 → ds3.getD i.val 0 = ds4.getD i.val 0 ∧ ds3.getD i.val 0 < 16 := by decide
  exact this ⟨i, hi⟩ h1 h2
theorem rec_same (i : Nat) (hi : i < 67) (h1 : i ≠ 1) (h2 : i ≠ 66) : ofHigh (recK tagB ds4 (sigs seedB tagB ds3 67) i) = alongN i 15 0 (beginN i) := by
  obtain ⟨e, h16⟩ := ds_same i hi h1 h2
  have hs : (sigs seedB tagB ds3 67).getD i [] = sigK seedB tagB ds3 i := by simp [List.getD, sigs, hi]
  rw [recK, hs, ← e, sigK]
  have := along_add tagB i 0 (beginK seedB i) (ds3.getD i 0) (15 - ds3.getD i 0)
  rw [Int.zero_add] at this
  rw [this, show ds3.getD i 0 + (15 - ds3.getD i 0) = 15 from by omega]
  exact topK_nat i hi
theorem recs_lit : (recs tagB ds4 (sigs seedB tagB ds3 67) 67).map ofHigh = recsL := by
  have e : (recs tagB ds4 (sigs seedB tagB ds3 67) 67).map ofHigh = (List.range 67).map fun i => ofHigh (recK tagB ds4 (sigs seedB tagB ds3 67) i) := by
    rw [recs, List.map_map]
    rfl
  have r1 := recK_nat 1 (by decide) 3 4 rfl rfl (by decide) (by decide)
  have r66 := recK_nat 66 (by decide) 13 12 rfl rfl (by decide) (by decide)
  have hall : ∀ i, i < 67 → i ≠ 1 → i ≠ 66 → ofHigh (recK tagB ds4 (sigs seedB tagB ds3 67) i) = alongN i 15 0 (beginN i) := rec_same
  rw [e, recsL, show List.range 67 = [0, 1, 2, 3, 4, 5, 6, 7, 8, 9, 10, 11, 12, 13, 14, 15, 16, 17, 18, 19, 20, 21, 22, 23, 24, 25, 26, 27, 28, 29, 30, 31, 32, 33, 34, 35, 36, 37, 38, 39, 40, 41, 42, 43, 44, 45, 46, 47, 48, 49, 50, 51, 52, 53, 54, 55, 56, 57, 58, 59, 60, 61, 62, 63, 64, 65, 66] from rfl]
  exact cm ((hall 0 (by decide) (by decide) (by decide)).trans top_0) (cm (r1.trans rec_1) (cm ((hall 2 (by decide) (by decide) (by decide)).trans top_2) (cm ((hall 3 (by decide) (by decide) (by decide)).trans top_3) (cm ((hall 4 (by decide) (by decide) (by decide)).trans top_4) (cm ((hall 5 (by decide) (by decide) (by decide)).trans top_5) (cm ((hall 6 (by decide) (by decide) (by decide)).trans top_6) (cm ((hall 7 (by decide) (by decide) (by decide)).trans top_7) (cm ((hall 8 (by decide) (by decide) (by decide)).trans top_8) (cm ((hall 9 (by decide) (by decide) (by decide)).trans top_9) (cm ((hall 10 (by decide) (by decide) (by decide)).trans top_10) (cm ((hall 11 (by decide) (by decide) (by decide)).trans top_11) (cm ((hall 12 (by decide) (by decide) (by decide)).trans top_12) (cm ((hall 13 (by decide) (by decide) (by decide)).trans top_13) (cm ((hall 14 (by decide) (by decide) (by decide)).trans top_14) (cm ((hall 15 (by decide) (by decide) (by decide)).trans top_15) (cm ((hall 16 (by decide) (by decide) (by decide)).trans top_16) (cm ((hall 17 (by decide) (by decide) (by decide)).trans top_17) (cm ((hall 18 (by decide) (by decide) (by decide)).trans top_18) (cm ((hall 19 (by decide) (by decide) (by decide)).trans top_19) (cm ((hall 20 (by decide) (by decide) (by decide)).trans top_20) (cm ((hall 21 (by decide) (by decide) (by decide)).trans top_21) (cm ((hall 22 (by decide) (by decide) (by decide)).trans top_22) (cm ((hall 23 (by decide) (by decide) (by decide)).trans top_23) (cm ((hall 24 (by decide) (by decide) (by decide)).trans top_24) (cm ((hall 25 (by decide) (by decide) (by decide)).trans top_25) (cm ((hall 26 (by decide) (by decide) (by decide)).trans top_26) (cm ((hall 27 (by decide) (by decide) (by decide)).trans top_27) (cm ((hall 28 (by decide) (by decide) (by decide)).trans top_28) (cm ((hall 29 (by decide) (by decide) (by decide)).trans top_29) (cm ((hall 30 (by decide) (by decide) (by decide)).trans top_30) (cm ((hall 31 (by decide) (by decide) (by decide)).trans top_31) (cm ((hall 32 (by decide) (by decide) (by decide)).trans top_32) (cm ((hall 33 (by decide) (by decide) (by decide)).trans top_33) (cm ((hall 34 (by decide) (by decide) (by decide)).trans top_34) (cm ((hall 35 (by decide) (by decide) (by decide)).trans top_35) (cm ((hall 36 (by decide) (by decide) (by decide)).trans top_36) (cm ((hall 37 (by decide) (by decide) (by decide)).trans top_37) (cm ((hall 38 (by decide) (by decide) (by decide)).trans top_38) (cm ((hall 39 (by decide) (by decide) (by decide)).trans top_39) (cm ((hall 40 (by decide) (by decide) (by decide)).trans top_40) (cm ((hall 41 (by decide) (by decide) (by decide)).trans top_41) (cm ((hall 42 (by decide) (by decide) (by decide)).trans top_42) (cm ((hall 43 (by decide) (by decide) (by decide)).trans top_43) (cm ((hall 44 (by decide) (by decide) (by decide)).trans top_44) (cm ((hall 45 (by decide) (by decide) (by decide)).trans top_45) (cm ((hall 46 (by decide) (by decide) (by decide)).trans top_46) (cm ((hall 47 (by decide) (by decide) (by decide)).trans top_47) (cm ((hall 48 (by decide) (by decide) (by decide)).trans top_48) (cm ((hall 49 (by decide) (by decide) (by decide)).trans top_49) (cm ((hall 50 (by decide) (by decide) (by decide)).trans top_50) (cm ((hall 51 (by decide) (by decide) (by decide)).trans top_51) (cm ((hall 52 (by decide) (by decide) (by decide)).trans top_52) (cm ((hall 53 (by decide) (by decide) (by decide)).trans top_53) (cm ((hall 54 (by decide) (by decide) (by decide)).trans top_54) (cm ((hall 55 (by decide) (by decide) (by decide)).trans top_55) (cm ((hall 56 (by decide) (by decide) (by decide)).trans top_56) (cm ((hall 57 (by decide) (by decide) (by decide)).trans top_57) (cm ((hall 58 (by decide) (by decide) (by decide)).trans top_58) (cm ((hall 59 (by decide) (by decide) (by decide)).trans top_59) (cm ((hall 60 (by decide) (by decide) (by decide)).trans top_60) (cm ((hall 61 (by decide) (by decide) (by decide)).trans top_61) (cm ((hall 62 (by decide) (by decide) (by decide)).trans top_62) (cm ((hall 63 (by decide) (by decide) (by decide)).trans top_63) (cm ((hall 64 (by decide) (by decide) (by decide)).trans top_64) (cm ((hall 65 (by decide) (by decide) (by decide)).trans top_65) (cm (r66.trans rec_66) (List.map_nil)))))))))))))))))))))))))))))))))))))))))))))))))))))))))))))))))))
theorem awake_ne : recoverK tagB dig4 (sigs seedB tagB (digits dig3) 67) ≠ publicK seedB tagB := by
  intro h
  have h := congrArg ofHigh h
  rw [recoverK, publicK, digits3, digits4, fin_nat _ (recs_len _ _ _ _) (recs_keys (sigs_keys _ _ _ _) (by rw [sigs_len]; exact Nat.le_refl _)), fin_nat _ (tops_len _ _ _) (tops_keys _ _ _), tops_lit, recs_lit, fin_tops, fin_recs] at h
  exact absurd h (by decide)
end Go.Proofs.YtejifhdkgfilgaaDoor
