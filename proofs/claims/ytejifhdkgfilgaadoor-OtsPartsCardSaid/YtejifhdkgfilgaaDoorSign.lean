/- A signer signs a digest. -/
import Derived.Test.YtejifhdkgfilgaaDoorPublic
namespace Go.Proofs.YtejifhdkgfilgaaDoor
open Go.RowKit
/-- the i-th key of a signature -/
def sigK (seed tag ds : List Nat) (i : Nat) : List Nat := along tag i 0 (beginK seed i) (ds.getD i 0)
def sigs (seed tag ds : List Nat) (n : Nat) : List (List Nat) := (List.range n).map (sigK seed tag ds)
theorem sigK_len (seed tag ds : List Nat) (i : Nat) : (sigK seed tag ds i).length = 32 := along_len (derive_len _ _ _) _
theorem sigK_lt (seed tag ds : List Nat) (i : Nat) : ∀ b ∈ sigK seed tag ds i, b < 256 := along_lt (derive_lt _ _ _) _
theorem sigs_succ (seed tag ds : List Nat) (n : Nat) : sigs seed tag ds (n + 1) = sigs seed tag ds n ++ [sigK seed tag ds n] := by simp [sigs, List.range_succ]
theorem sigs_keys (seed tag ds : List Nat) (n : Nat) : KeysB (sigs seed tag ds n) := by
  intro k hk
  obtain ⟨i, _, rfl⟩ := List.mem_map.1 hk
  exact ⟨sigK_len _ _ _ _, sigK_lt _ _ _ _⟩
theorem sigs_len (seed tag ds : List Nat) (n : Nat) : (sigs seed tag ds n).length = n := by simp [sigs]
/-- what a signer's functions find, by the signer's address -/
structure SigP (w : World) (m sb : Nat) (seed tag pub : List Nat) (done lock : Int) : Prop where
  shas : Shas w
  met : Met w m
  sig : Arr w sb 101 (sigA m seed tag pub done lock)
theorem SigP.gr {w w' : World} {m sb : Nat} {seed tag pub : List Nat} {done lock : Int} (h : SigP w m sb seed tag pub done lock) (hr : GrM m w w') : SigP w' m sb seed tag pub done lock :=
  ⟨h.shas.gr h.met hr, hr.cnt, h.sig.gr h.met hr (by decide)⟩
theorem SigP.drew {w : World} {m sb : Nat} {seed tag pub : List Nat} {done lock : Int} (h : SigP w m sb seed tag pub done lock) : SigP w.drew m sb seed tag pub done lock := ⟨⟨h.shas.start, h.shas.tab⟩, h.met, h.sig⟩
theorem SigP.grown {w w' : World} {m sb : Nat} {seed tag pub : List Nat} {done lock : Int} {row : Option Nat} (h : SigP w m sb seed tag pub done lock) (hg : w.grownBy w' row) (hr : ∀ g, row = some g → ∃ cs, w.heap[g]? = some (.cells cs 23 (0, 0))) : SigP w' m sb seed tag pub done lock :=
  ⟨⟨h.shas.start.grownE hg hr (by decide), h.shas.tab.grownE hg hr (by decide)⟩, ⟨_, h.met.choose_spec.grownE hg hr (by decide)⟩, h.sig.grownE hg hr (by decide)⟩
theorem KRow.base {w : World} {base base' : Nat} {v : Value} {KS : List (List Nat)} (h : KRow w base v KS) (hb : base' ≤ base) : KRow w base' v KS := by
  obtain ⟨A, c, e, hq, hl⟩ := h
  exact ⟨A, c, e, hq.base hb, hl⟩
def SignRel (w : World) (m sb : Nat) (seed tag pub : List Nat) (done lock : Int) (ds : List Nat) (v i : Value) (wr : World) : Prop :=
  ∃ k : Nat, k ≤ 67 ∧ i = .int .i64 k ∧ KRow wr w.heap.size v (sigs seed tag ds k) ∧ SigP wr m sb seed tag pub done lock ∧ GrM m w wr
attribute [-go_sem] loadCellsFrom storeCells Instr.buildSlice
attribute [local go_sem] storeCells_one growAt growUpon
set_option maxRecDepth 100000 in
set_option maxHeartbeats 1000000 in
theorem Sign_any (w : World) (m sb : Nat) (seed tag pub d : List Nat) (done lock : Int) (hs : seed.length = 32) (ht : tag.length = 32) (hp : pub.length = 32) (hsb : ∀ b ∈ seed, b < 256) (htb : ∀ b ∈ tag, b < 256) (hd : d.length = 32) (hdb : ∀ b ∈ d, b < 256) (hg : SigP w m sb seed tag pub done lock) :
    Calls Tryd.prog 22 #[.pointer (some ⟨sb, 0, none⟩), .agg (keyA d)] w fun e w' => ∃ v, e = .returned v ∧ KRow w' w.heap.size v (sigs seed tag (digits d) 67) ∧ GrM m w w' := by
  have H := Lib.hid (And.intro hs (And.intro ht (And.intro hp (And.intro hsb (And.intro htb (And.intro hd (And.intro hdb hg)))))))
  have hks : (keyA d).size = 32 := by rw [keyA_size, hd]
  have hl := (Arr.new w 23 (keyA d)).load (P := Tryd.prog) (n := 32) hks
  clear hs ht hp hsb htb hd hdb hg
  go_enter Tryd.func22, Tryd.ntmps22
  go_wp2_with fail
  clear hl hks
  have g0 : GrM m w (w.alloc (.cells (keyA d) 23)) := Gr.of H.out.2.2.2.2.2.2.2.met (grew_alloc w _)
  have hsz : w.heap.size ≤ (w.alloc (.cells (keyA d) 23)).heap.size := g0.bel.size
  generalize w.alloc (.cells (keyA d) 23) = W0 at *
  refine (Digits_any W0 d H.out.2.2.2.2.2.1 H.out.2.2.2.2.2.2.1).mono ?_
  rintro e W1 ⟨Ad, cd, rfl, hqd, hcd, hgw⟩
  obtain ⟨ds, hds⟩ : ∃ ds, ds = digits d := ⟨_, rfl⟩
  have hdl : ds.length = 67 := by rw [hds, digits_len H.out.2.2.2.2.2.1]
  have hd16 : ∀ x ∈ ds, x < 16 := by rw [hds]; exact digits_lt H.out.2.2.2.2.2.2.1 H.out.2.2.2.2.2.1
  have g1 : GrM m w W1 := g0.trans (Gr.of g0.cnt hgw)
  have hrd : RdM m W1 Ad 67 (ds.map num) := by rw [hds]; exact RdM.row hqd g1.cnt (by decide)
  obtain ⟨a, rfl, hab, ham, hac⟩ := hrd.at_ (by decide)
  have H1 := Lib.hid (And.intro g1 (And.intro (H.out.2.2.2.2.2.2.2.gr g1) (And.intro hdl (And.intro hd16 (And.intro hab (And.intro ham (And.intro hac hds)))))))
  clear g0 hsz hqd hcd hgw hds hdl hd16 g1 hrd hab ham hac
  go_wp2_with fail
  go_loopw [5, 11] (fun v i wr => SignRel W1 m sb seed tag pub done lock ds v i wr) (fun _ i _ => 67 - (intOf i).toNat)
  case atStart => exact ⟨0, Nat.zero_le _, rfl, KRow.nil_ _ _, H1.out.2.1, Gr.refl H1.out.2.1.met⟩
  case round =>
    obtain ⟨k, hk, rfl, ⟨A, c, rfl, hq, hle⟩, hsig, hgr⟩ := hrel
    rw [sigs_len] at hq hle ⊢
    by_cases hlt : k < 67
    · have hkd : k < ds.length := by rw [H1.out.2.2.1]; exact hlt
      obtain ⟨x, hx⟩ : ∃ x, x = ds[k] := ⟨_, rfl⟩
      have hx16 : x < 16 := by rw [hx]; exact H1.out.2.2.2.1 _ (List.getElem_mem _)
      have hcell : wr.cell? (a.add k) = some (.int .i64 x) := (World.cell?_of_block (w := W1) (by rw [add_block]; exact hgr.bel.block _ H1.out.2.2.2.2.1 H1.out.2.2.2.2.2.1)).trans (H1.out.2.2.2.2.2.2.1 k _ (by simp [hkd, num, hx]))
      obtain ⟨K, hK⟩ : ∃ K, K = sigK seed tag ds k := ⟨_, rfl⟩
      have hK2 : K = along tag k 0 (beginK seed k) x := by rw [hK, sigK, show ds.getD k 0 = x from by simp [List.getD, hkd, hx]]
      have hKl : K.length = 32 := by rw [hK, sigK_len]
      have hkr : KRow wr W1.heap.size (.slice A k c) (sigs seed tag ds k) := ⟨A, c, by rw [sigs_len], by rw [sigs_len]; exact hq, by rw [sigs_len]; exact hle⟩
      have HQ := Lib.hid (And.intro hkr (And.intro hsig (And.intro hgr (And.intro hK (And.intro hKl (And.intro hK2 hx16))))))
      clear hq hle hsig hgr hK hKl hkr hK2 hx hx16
      go_wp2_with fail
      refine wp_region_grow (R := GrM m) (S := fun W => SigP W m sb seed tag pub done lock ∧ KRow W W1.heap.size (.slice A k c) (sigs seed tag ds k) ∧ GrM m W1 W) 16 (fun opk => match opk with
        | 13 => some ⟨fun (x : Ix) => .agg (keyA (beginK seed k)), fun (x : Ix) W => True, fun _ _ _ _ _ _ => trivial⟩
        | 14 => some ⟨fun (x : Ix) => .agg (keyA K), fun (x : Ix) W => True, fun _ _ _ _ _ _ => trivial⟩
        | 15 => some ⟨fun (x : Ix) => .slice (some ⟨x.2.1, 0, none⟩) 1 1, fun (x : Ix) W => Arr W x.2.1 23 (keyA K), fun _ _ _ hr hS h => h.gr hS.1.met hr (by decide)⟩
        | _ => none) ⟨(none, 0, 0)⟩ (none, 0, 0) (by kernel_rfl) (by kernel_rfl) (fun _ _ hr hS => ⟨hS.1.gr hr, hS.2.1.gr hS.1.met hr (by decide), hS.2.2.trans hr⟩) ⟨HQ.out.2.1.drew, HQ.out.1.drew, HQ.out.2.2.1.drew⟩ ?_
      simp only [List.take_succ_cons, List.take_zero, List.drop_succ_cons, List.drop_zero]
      refine wpGrow_pure rfl rfl fun opK hopK => ?_
      apply Exists.intro
      constructor
      · intro W hS
        go_simp
        try with_reducible rfl
      go_simp
      refine hopK _ ?_
      clear hopK opK
      refine wpGrow_pure rfl rfl fun opK hopK => ?_
      apply Exists.intro
      constructor
      · intro W hS
        go_simp
        try with_reducible rfl
      go_simp
      refine hopK _ ?_
      clear hopK opK
      refine wpGrow_pure rfl rfl fun opK hopK => ?_
      apply Exists.intro
      constructor
      · intro W hS
        go_simp
        try with_reducible rfl
      go_simp
      refine hopK _ ?_
      clear hopK opK
      refine wpGrow_pure rfl rfl fun opK hopK => ?_
      apply Exists.intro
      constructor
      · intro W hS
        go_simp
        try with_reducible rfl
      go_simp
      refine hopK _ ?_
      clear hopK opK
      refine wpGrow_pure rfl rfl fun opK hopK => ?_
      apply Exists.intro
      constructor
      · intro W hS
        have hl := sig_m hS.1.sig
        go_simp
        try with_reducible rfl
      go_simp
      refine hopK _ ?_
      clear hopK opK
      refine wpGrow_pure rfl rfl fun opK hopK => ?_
      apply Exists.intro
      constructor
      · intro W hS
        go_simp
        try with_reducible rfl
      go_simp
      refine hopK _ ?_
      clear hopK opK
      refine wpGrow_pure rfl rfl fun opK hopK => ?_
      apply Exists.intro
      constructor
      · intro W hS
        go_simp
        try with_reducible rfl
      go_simp
      refine hopK _ ?_
      clear hopK opK
      refine wpGrow_pure rfl rfl fun opK hopK => ?_
      apply Exists.intro
      constructor
      · intro W hS
        go_simp
        try with_reducible rfl
      go_simp
      refine hopK _ ?_
      clear hopK opK
      refine wpGrow_pure rfl rfl fun opK hopK => ?_
      apply Exists.intro
      constructor
      · intro W hS
        have hl := run_load_mid (P := Tryd.prog) (n := 32) (tag.map byt) (by rw [List.length_map]; exact H.out.2.1) (sig_tag hS.1.sig H.out.1 H.out.2.1 H.out.2.2.1)
        go_simp
        try with_reducible rfl
      go_simp
      refine hopK _ ?_
      clear hopK opK
      refine wpGrow_pure rfl rfl fun opK hopK => ?_
      apply Exists.intro
      constructor
      · intro W hS
        go_simp
        try with_reducible rfl
      go_simp
      refine hopK _ ?_
      clear hopK opK
      refine wpGrow_pure rfl rfl fun opK hopK => ?_
      apply Exists.intro
      constructor
      · intro W hS
        go_simp
        try with_reducible rfl
      go_simp
      refine hopK _ ?_
      clear hopK opK
      refine wpGrow_pure rfl rfl fun opK hopK => ?_
      apply Exists.intro
      constructor
      · intro W hS
        go_simp
        try with_reducible rfl
      go_simp
      refine hopK _ ?_
      clear hopK opK
      refine wpGrow_pure rfl rfl fun opK hopK => ?_
      apply Exists.intro
      constructor
      · intro W hS
        go_simp
        try with_reducible rfl
      go_simp
      refine hopK _ ?_
      clear hopK opK
      refine wpGrow_told rfl rfl (fun W hS hD => ?_) (fun x13 opK hopK => ?_)
      · simp [KnowsAll, Knows, Region.binds, upd] at hD
        go_simp
        refine ⟨Gr.refl hS.1.met, (Begin_any W m sb hS.1.shas hS.1.met seed tag pub H.out.1 H.out.2.1 H.out.2.2.1 H.out.2.2.2.1 done lock hS.1.sig k).mono ?_⟩
        rintro e w' ⟨rfl, hw⟩
        exact ⟨rfl, hw⟩
      go_simp
      refine hopK _ ?_
      clear hopK opK
      refine wpGrow_told rfl rfl (fun W hS hD => ?_) (fun x14 opK hopK => ?_)
      · simp [KnowsAll, Knows, Region.binds, upd] at hD
        go_simp
        refine ⟨Gr.refl hS.1.met, (Along_any W m hS.1.shas hS.1.met tag (beginK seed k) H.out.2.1 H.out.2.2.2.2.1 (derive_len _ _ _) (derive_lt _ _ _) k 0 x (by decide) (by decide) (by omega) (by have := HQ.out.2.2.2.2.2.2; omega)).mono ?_⟩
        rintro e w' ⟨rfl, hw⟩
        exact ⟨by rw [HQ.out.2.2.2.2.2.1, show ((x : Int) - 0).toNat = x from by omega], hw⟩
      go_simp
      refine hopK _ ?_
      clear hopK opK
      refine wpGrow_told rfl rfl (fun W hS hD => ?_) (fun x15 opK hopK => ?_)
      · simp [KnowsAll, Knows, Region.binds, upd] at hD
        have hb := run_key_row W K HQ.out.2.2.2.2.1
        go_simp
        exact ⟨Gr.of hS.1.met (grew_alloc W _), Arr.new W 23 _⟩
      go_simp
      refine hopK _ ?_
      clear hopK opK
      refine wpGrow_nil fun W hS hD => ?_
      have hD15 := hD 15 (by decide)
      simp [Knows, upd] at hD15
      clear hD
      obtain ⟨A2, c2, w2, hrun, hk2, hgr, hown⟩ := run_append_key W 39 W1.heap.size k c A (sigs seed tag ds k) K (sigs_len _ _ _ _) hS.2.1 hS.2.2.bel.size x15.2.1 hD15 HQ.out.2.2.2.2.1 (by omega)
      have H2 : Hid (SignRel W1 m sb seed tag pub done lock ds (.slice A2 (k + 1) c2) (.int .i64 ((k : Int) + 1)) w2) := by
        refine ⟨k + 1, by omega, by go_num, by rw [sigs_succ, ← HQ.out.2.2.2.1]; exact hk2, hS.1.grown hgr fun g e => (hown g e).2, hS.2.2.grown hgr fun g e => ⟨(hown g e).1, ?_⟩⟩
        obtain ⟨cs, hc⟩ := (hown g e).2
        exact hS.1.met.ne (E := 23) (V := cs) hc (by decide)
      clear hk2 hgr hown hS hD15
      go_wp2_with (at_builtin; refine Lib.wpList_append_run _ rfl _ _ _ _ rfl _ _ rfl rfl _ _ hrun ?_)
      go_roundw
      case rel => exact H2.out
      case measure => simp [intOf]; omega
    · obtain rfl : k = 67 := by omega
      rw [show ((67 : Nat) : Int) = 67 from rfl]
      have HK : KRow wr w.heap.size (.slice A 67 c) (sigs seed tag ds 67) := KRow.base (base := W1.heap.size) ⟨A, c, by rw [sigs_len], by rw [sigs_len]; exact hq, by rw [sigs_len]; exact hle⟩ H1.out.1.bel.size
      have HG : GrM m w wr := H1.out.1.trans hgr
      have HH := Lib.hid (And.intro HK HG)
      clear HK HG hq hle hsig hgr
      go_wp2_with fail
      go_ret
      rw [← H1.out.2.2.2.2.2.2.2]
      exact ⟨_, rfl, HH.out⟩
end Go.Proofs.YtejifhdkgfilgaaDoor
