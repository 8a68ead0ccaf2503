/- What a chain begins with. -/
import Derived.Test.YtejifhdkgfilgaaDoorDigits
namespace Go.Proofs.YtejifhdkgfilgaaDoor
open Go.RowKit
def chainLab : List Nat := [99, 104, 97, 105, 110]
def beginK (seed : List Nat) (i : Int) : List Nat := derive seed chainLab [highB (u64n i) 2]
theorem derive_len (key lab : List Nat) (L : List (List Nat)) : (derive key lab L).length = 32 := hmac_len _ _
theorem derive_lt (key lab : List Nat) (L : List (List Nat)) : ∀ b ∈ derive key lab L, b < 256 := hmac_lt _ _
section
variable {w : World} {sb m : Nat} {seed tag pub : List Nat} {done lock : Int}
theorem sig_m (h : Arr w sb 101 (sigA m seed tag pub done lock)) : w.cell? ⟨sb, 0, none⟩ = some (.pointer (some ⟨m, 0, none⟩)) := by rw [h.cell]; rfl
theorem sig_seed (h : Arr w sb 101 (sigA m seed tag pub done lock)) (hs : seed.length = 32) (ht : tag.length = 32) (hp : pub.length = 32) : ∀ j u, (seed.map byt)[j]? = some u → w.cell? ⟨sb, 1 + j, none⟩ = some u := fun j u hu => by
  have hj := (List.getElem?_eq_some_iff.1 hu).1
  rw [List.length_map, hs] at hj
  rw [h.cell, sig_get hs ht hp, if_neg (by omega), if_pos (by omega), show 1 + j - 1 = j from by omega]
  simpa [keyA] using hu
theorem sig_tag (h : Arr w sb 101 (sigA m seed tag pub done lock)) (hs : seed.length = 32) (ht : tag.length = 32) (hp : pub.length = 32) : ∀ j u, (tag.map byt)[j]? = some u → w.cell? ⟨sb, 33 + j, none⟩ = some u := fun j u hu => by
  have hj := (List.getElem?_eq_some_iff.1 hu).1
  rw [List.length_map, ht] at hj
  rw [h.cell, sig_get hs ht hp, if_neg (by omega), if_neg (by omega), if_pos (by omega), show 33 + j - 33 = j from by omega]
  simpa [keyA] using hu
theorem sig_pub (h : Arr w sb 101 (sigA m seed tag pub done lock)) (hs : seed.length = 32) (ht : tag.length = 32) (hp : pub.length = 32) : ∀ j u, (pub.map byt)[j]? = some u → w.cell? ⟨sb, 68 + j, none⟩ = some u := fun j u hu => by
  have hj := (List.getElem?_eq_some_iff.1 hu).1
  rw [List.length_map, hp] at hj
  rw [h.cell, sig_get hs ht hp, if_neg (by omega), if_neg (by omega), if_neg (by omega), if_neg (by omega), show 68 + j - 68 = j from by omega]
  simpa [keyA] using hu
end
attribute [-go_sem] loadCellsFrom storeCells
attribute [local go_sem] storeCells_one growAt growUpon
set_option maxRecDepth 100000 in
set_option maxHeartbeats 400000 in
theorem Begin_any (w : World) (m sb : Nat) (hg : Shas w) (hm : Met w m) (seed tag pub : List Nat) (hs : seed.length = 32) (ht : tag.length = 32) (hp : pub.length = 32) (hsb : ∀ b ∈ seed, b < 256) (done lock : Int) (ha : Arr w sb 101 (sigA m seed tag pub done lock)) (i : Int) :
    Calls Tryd.prog 54 #[.pointer (some ⟨sb, 0, none⟩), .int .i64 i] w fun e w' => e = .returned (.agg (keyA (beginK seed i))) ∧ GrM m w w' := by
  have H := Lib.hid (And.intro hg (And.intro hm (And.intro hs (And.intro ht (And.intro hp (And.intro hsb ha))))))
  clear hg hm hs ht hp hsb ha
  go_enter Tryd.func54, Tryd.ntmps54
  go_wp2_with fail
  rw [zeros32]
  generalize hW0 : World.alloc _ _ = W0
  have z0 : Arr W0 w.heap.size 23 (keyA (List.replicate 32 0)) := by rw [← hW0]; exact Arr.new w 23 _
  have g0 : Grew w W0 := by rw [← hW0]; exact grew_alloc w _
  have H0 := Lib.hid (And.intro z0 (And.intro g0 (H.out.2.2.2.2.2.2.below g0)))
  clear z0 g0 hW0
  refine wp_region_grow (R := Grew) (S := fun W => Arr W sb 101 (sigA m seed tag pub done lock) ∧ Below W0.heap.size W0 W) 12 (fun k => match k with
    | 10 => some ⟨fun (x : Ix) => .slice (some ⟨x.2.1, 0, none⟩) 2 2, fun (x : Ix) W => NewRow (highB (u64n i) 2) W x.2.1, fun _ _ _ hr _ h => h.keep hr⟩
    | 11 => some ⟨fun (x : Ix) => .slice (some ⟨x.2.1, 0, none⟩) 1 1, fun (x : Ix) W => ∃ b1, Arr W x.2.1 57 #[.slice (some ⟨b1, 0, none⟩) 2 2] ∧ NewRow (highB (u64n i) 2) W b1, fun _ _ _ hr _ ⟨b1, h0, h1⟩ => ⟨b1, h0.below hr, h1.keep hr⟩⟩
    | _ => none) ⟨(none, 0, 0)⟩ (none, 0, 0) (by kernel_rfl) (by kernel_rfl) (fun _ _ hr hS => ⟨hS.1.below hr, grew_stays W0 _ _ hr hS.2⟩) ⟨H0.out.2.2, (Below.refl _ _).drew⟩ ?_
  simp only [List.take_succ_cons, List.take_zero, List.drop_succ_cons, List.drop_zero]
  refine wpGrow_pure rfl rfl fun K hK => ?_
  apply Exists.intro
  constructor
  · intro W hS
    go_simp
    try with_reducible rfl
  go_simp
  refine hK _ ?_
  clear hK K
  refine wpGrow_pure rfl rfl fun K hK => ?_
  apply Exists.intro
  constructor
  · intro W hS
    go_simp
    try with_reducible rfl
  go_simp
  refine hK _ ?_
  clear hK K
  refine wpGrow_pure rfl rfl fun K hK => ?_
  apply Exists.intro
  constructor
  · intro W hS
    go_simp
    try with_reducible rfl
  go_simp
  refine hK _ ?_
  clear hK K
  refine wpGrow_pure rfl rfl fun K hK => ?_
  apply Exists.intro
  constructor
  · intro W hS
    have hl := sig_m hS.1
    go_simp
    try with_reducible rfl
  go_simp
  refine hK _ ?_
  clear hK K
  refine wpGrow_pure rfl rfl fun K hK => ?_
  apply Exists.intro
  constructor
  · intro W hS
    go_simp
    try with_reducible rfl
  go_simp
  refine hK _ ?_
  clear hK K
  refine wpGrow_pure rfl rfl fun K hK => ?_
  apply Exists.intro
  constructor
  · intro W hS
    go_simp
    try with_reducible rfl
  go_simp
  refine hK _ ?_
  clear hK K
  refine wpGrow_pure rfl rfl fun K hK => ?_
  apply Exists.intro
  constructor
  · intro W hS
    go_simp
    try with_reducible rfl
  go_simp
  refine hK _ ?_
  clear hK K
  refine wpGrow_pure rfl rfl fun K hK => ?_
  apply Exists.intro
  constructor
  · intro W hS
    have hl := run_load_mid (P := Tryd.prog) (n := 32) (seed.map byt) (by rw [List.length_map]; exact H.out.2.2.1) (sig_seed hS.1 H.out.2.2.1 H.out.2.2.2.1 H.out.2.2.2.2.1)
    go_simp
    try with_reducible rfl
  go_simp
  refine hK _ ?_
  clear hK K
  refine wpGrow_pure rfl rfl fun K hK => ?_
  apply Exists.intro
  constructor
  · intro W hS
    go_simp
    try with_reducible rfl
  go_simp
  refine hK _ ?_
  clear hK K
  refine wpGrow_pure rfl rfl fun K hK => ?_
  apply Exists.intro
  constructor
  · intro W hS
    go_simp
    try with_reducible rfl
  go_simp
  refine hK _ ?_
  clear hK K
  refine wpGrow_told rfl rfl (fun W hS hD => ?_) (fun x10 K hK => ?_)
  · simp [KnowsAll, Knows, Region.binds, upd] at hD
    go_simp
    rw [wrap_u64n]
    refine ⟨Below.refl _ _, (High_any W (u64n i) 2 (by decide) (by decide)).mono ?_⟩
    rintro e w' ⟨b, rfl, _, ha, hw⟩
    exact ⟨_, rfl, hw, b, rfl, ha⟩
  go_simp
  refine hK _ ?_
  clear hK K
  refine wpGrow_told rfl rfl (fun W hS hD => ?_) (fun x11 K hK => ?_)
  · simp [KnowsAll, Knows, Region.binds, upd] at hD
    go_simp
    have hg := grew_alloc W (.cells #[.slice (some ⟨x10.2.1, 0, none⟩) 2 2] 57)
    exact ⟨hg, _, Arr.new W 57 _, hD.keep hg⟩
  go_simp
  refine hK _ ?_
  clear hK K
  refine wpGrow_nil fun W hS hD => ?_
  have hD11 := hD 11 (by decide)
  simp [Knows, upd] at hD11
  clear hD
  obtain ⟨b1, hb, hn⟩ := hD11
  have gS : Grew w W := H0.out.2.1.trans (hS.2.mono H0.out.2.1.size)
  have mt := H.out.2.1.grew gS
  have R : RowsM m W [.slice (some ⟨b1, 0, none⟩) 2 2] [highB (u64n i) 2] := .cons (hn.rdm mt (by decide) (highB_len _ _)) (Nat.le_refl _) .nil_
  have hr : RdM m W (some ⟨x11.2.1, 0, none⟩) 1 [.slice (some ⟨b1, 0, none⟩) 2 2] := RdM.arr hb mt (by decide) rfl
  have hbb : ∀ ys ∈ [highB (u64n i) 2], ∀ b ∈ ys, b < 256 := fun ys hy b hb => by
    simp only [List.mem_singleton] at hy
    subst hy
    exact highB_lt _ _ b hb
  have HS := Lib.hid (And.intro gS (And.intro mt (And.intro R (And.intro hr (And.intro hbb (H0.out.1.below hS.2))))))
  clear hb hn hS gS mt R hr hbb
  go_wp2_with fail
  refine (Derive_any W m (H.out.1.below HS.out.1) HS.out.2.1 seed H.out.2.2.1 H.out.2.2.2.2.2.1 _ (by decide) _ 1 1 _ _ HS.out.2.2.2.1 HS.out.2.2.1 (by simp [highB_len]) (by decide) HS.out.2.2.2.2.1).mono ?_
  rintro e W2 ⟨rfl, hg2⟩
  rw [show strB ⟨#[99, 104, 97, 105, 110]⟩ = chainLab from rfl]
  have zK := HS.out.2.2.2.2.2.gr HS.out.2.1 hg2 (by decide)
  obtain ⟨F, hF⟩ : ∃ F, F = derive seed chainLab [highB (u64n i) 2] := ⟨_, rfl⟩
  rw [← hF]
  have hFl : F.length = 32 := by rw [hF]; exact derive_len _ _ _
  have hFs : (keyA F).size = 32 := by rw [keyA_size, hFl]
  have hst := zK.store (P := Tryd.prog) (V := keyA F) (by rw [keyA_size, hFs]; rfl) (keyA_one _)
  have hl2 := (zK.setRow (keyA F)).load (P := Tryd.prog) (n := 32) hFs
  have HK := Lib.hid (And.intro hF ((Gr.of H.out.2.1 HS.out.1).trans hg2))
  clear hF hFl zK
  go_simp
  go_wp2
  refine bodyPost_ret (v := .agg (keyA F)) (by simp [results, Tryd.results54, go_sem, hl2, hFs]) rfl ⟨?_, gr_setRow HK.out.2 (Nat.le_refl _) (H.out.2.1.lt) _⟩
  rw [HK.out.1]
  rw [beginK]
end Go.Proofs.YtejifhdkgfilgaaDoor
