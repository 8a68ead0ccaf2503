/- A chain, gone along. -/
import Derived.Test.YtejifhdkgfilgaaDoorDerive
namespace Go.Proofs.YtejifhdkgfilgaaDoor
open Go.RowKit
/-- a number as 64 bits -/
def u64n (z : Int) : Nat := (z % 18446744073709551616).toNat
def stepK (tag : List Nat) (chain i : Int) (v : List Nat) : List Nat := digest (tag ++ highB (u64n chain) 2 ++ highB (u64n i) 2 ++ v)
def along (tag : List Nat) (chain src : Int) (v : List Nat) : Nat → List Nat
  | 0 => v
  | n + 1 => stepK tag chain (src + n) (along tag chain src v n)
def cntN (c : Int) : Nat → Int
  | 0 => c
  | n + 1 => IntKind.i64.wrap (cntN c n + 1)
theorem along_len {tag : List Nat} {chain src : Int} {v : List Nat} (hv : v.length = 32) (n : Nat) : (along tag chain src v n).length = 32 := by
  cases n with
  | zero => exact hv
  | succ n => exact digest_len _
theorem along_lt {tag : List Nat} {chain src : Int} {v : List Nat} (hv : ∀ b ∈ v, b < 256) (n : Nat) : ∀ b ∈ along tag chain src v n, b < 256 := by
  cases n with
  | zero => exact hv
  | succ n => exact digest_lt _
theorem wrap_u64n (z : Int) : IntKind.u64.wrap z = (u64n z : Int) := by
  simp [IntKind.wrap, IntKind.signed, IntKind.bits, u64n]
  omega
def AlongRel (w : World) (m : Nat) (c : Int) (tag : List Nat) (chain src : Int) (v : List Nat) (n : Nat) (i : Value) (wr : World) : Prop :=
  ∃ j : Nat, j ≤ n ∧ i = .int .i64 (src + j) ∧ Arr wr w.heap.size 23 (keyA tag) ∧ Arr wr (w.heap.size + 1) 23 (keyA (along tag chain src v j)) ∧ Arr wr (w.heap.size + 1 + 1) 23 (keyA (List.replicate 32 0)) ∧
    Arr wr m 90 (meterA (cntN c j)) ∧ Bel m w wr
attribute [-go_sem] loadCellsFrom storeCells
attribute [local go_sem] storeCells_one growAt growUpon
set_option maxRecDepth 100000 in
set_option maxHeartbeats 400000 in
theorem Along_exact (w : World) (m : Nat) (c : Int) (hg : Shas w) (hm : Arr w m 90 (meterA c)) (tag v : List Nat) (ht : tag.length = 32) (htb : ∀ b ∈ tag, b < 256) (hv : v.length = 32) (hvb : ∀ b ∈ v, b < 256) (chain src dst : Int)
    (hs0 : -9223372036854775808 ≤ src) (hs1 : src ≤ 9223372036854775807) (hd0 : -9223372036854775808 ≤ dst) (hd1 : dst ≤ 9223372036854775807) :
    Calls Tryd.prog 18 #[.pointer (some ⟨m, 0, none⟩), .agg (keyA tag), .int .i64 chain, .int .i64 src, .int .i64 dst, .agg (keyA v)] w fun e w' =>
      e = .returned (.agg (keyA (along tag chain src v (dst - src).toNat))) ∧ Bel m w w' ∧ Arr w' m 90 (meterA (cntN c (dst - src).toNat)) := by
  have H := Lib.hid (And.intro hg (And.intro hm (And.intro ht (And.intro htb (And.intro hv hvb)))))
  clear hg hm ht htb hv hvb
  obtain ⟨n, hn⟩ : ∃ n, n = (dst - src).toNat := ⟨_, rfl⟩
  have HN := Lib.hid hn
  go_enter Tryd.func18, Tryd.ntmps18
  go_wp2_with fail
  rw [zeros32]
  generalize hW0 : World.alloc _ _ = W0
  have k0 : Arr W0 w.heap.size 23 (keyA tag) := by rw [← hW0]; exact ((Arr.new w 23 _).alloc _).alloc _
  have v0 : Arr W0 (w.heap.size + 1) 23 (keyA v) := by rw [← hW0]; exact (Arr.new_at _ 23 _ (by simp)).alloc _
  have z0 : Arr W0 (w.heap.size + 1 + 1) 23 (keyA (List.replicate 32 0)) := by rw [← hW0]; exact Arr.new_at _ 23 _ (by simp)
  have g0 : Grew w W0 := by rw [← hW0]; exact (((Below.refl _ w).alloc (Nat.le_refl _) _).alloc (by simp) _).alloc (by simp; omega) _
  have H0 : Hid (AlongRel w m c tag chain src v n (.int .i64 src) W0) := ⟨0, Nat.zero_le _, by simp, k0, v0, z0, H.out.2.1.below g0, Bel.of g0⟩
  clear k0 v0 z0 g0 hW0
  go_loopw [13] (fun i wr => AlongRel w m c tag chain src v n i wr) (fun i _ => (dst - intOf i).toNat)
  case atStart => exact H0.out
  case round =>
    obtain ⟨j, hj, rfl, h1, h2, h3, h4, h5⟩ := hrel
    by_cases hlt : src + j < dst
    · obtain ⟨I, hI⟩ : ∃ I, I = src + (j : Int) := ⟨_, rfl⟩
      rw [← hI] at hlt ⊢
      obtain ⟨V, hV⟩ : ∃ V, V = along tag chain src v j := ⟨_, rfl⟩
      rw [← hV] at h2
      have hVl : V.length = 32 := by rw [hV]; exact along_len H.out.2.2.2.2.1 j
      have hVb : ∀ b ∈ V, b < 256 := by rw [hV]; exact along_lt H.out.2.2.2.2.2 j
      have hI0 : -9223372036854775808 ≤ I := by omega
      have hI1 : I ≤ 9223372036854775806 := by omega
      have hjn : j + 1 ≤ n := by omega
      have HE := Lib.hid (And.intro h1 (And.intro h2 (And.intro h3 (And.intro h4 (And.intro h5 (And.intro hI (And.intro hV (And.intro hVl hVb))))))))
      clear h1 h2 h3 h4 h5 hI hV hVl hVb hn
      go_wp2_with fail
      refine wp_region_grow (R := Grew) (S := fun W => Below wr.heap.size wr W) 10 (fun k => match k with
        | 4 => some ⟨fun (x : Ix) => .slice (some ⟨x.2.1, 0, none⟩) 2 2, fun (x : Ix) W => NewRow (highB (u64n chain) 2) W x.2.1, fun _ _ _ hr _ h => h.keep hr⟩
        | 7 => some ⟨fun (x : Ix) => .slice (some ⟨x.2.1, 0, none⟩) 2 2, fun (x : Ix) W => NewRow (highB (u64n I) 2) W x.2.1, fun _ _ _ hr _ h => h.keep hr⟩
        | 9 => some ⟨fun (x : Ix) => .slice (some ⟨x.2.1, 0, none⟩) 4 4, fun (x : Ix) W => ∃ b1 b2, Arr W x.2.1 57 #[.slice (some ⟨w.heap.size, 0, none⟩) 32 32, .slice (some ⟨b1, 0, none⟩) 2 2, .slice (some ⟨b2, 0, none⟩) 2 2, .slice (some ⟨w.heap.size + 1, 0, none⟩) 32 32] ∧ NewRow (highB (u64n chain) 2) W b1 ∧ NewRow (highB (u64n I) 2) W b2, fun _ _ _ hr _ ⟨b1, b2, h0, h1, h2⟩ => ⟨b1, b2, h0.below hr, h1.keep hr, h2.keep hr⟩⟩
        | _ => none) ⟨(none, 0, 0)⟩ (none, 0, 0) (by kernel_rfl) (by kernel_rfl) (grew_stays wr) (Below.refl _ _).drew ?_
      simp only [List.take_succ_cons, List.take_zero, List.drop_succ_cons, List.drop_zero]
      refine wpGrow_pure rfl rfl fun K hK => ?_
      apply Exists.intro
      constructor
      · intro W hS
        go_simp
        try with_reducible rfl
      go_simp
      refine hK _ ?_
      clear hK K
      refine wpGrow_pure rfl rfl fun K hK => ?_
      apply Exists.intro
      constructor
      · intro W hS
        go_simp
        try with_reducible rfl
      go_simp
      refine hK _ ?_
      clear hK K
      refine wpGrow_pure rfl rfl fun K hK => ?_
      apply Exists.intro
      constructor
      · intro W hS
        go_simp
        try with_reducible rfl
      go_simp
      refine hK _ ?_
      clear hK K
      refine wpGrow_pure rfl rfl fun K hK => ?_
      apply Exists.intro
      constructor
      · intro W hS
        go_simp
        try with_reducible rfl
      go_simp
      refine hK _ ?_
      clear hK K
      refine wpGrow_told rfl rfl (fun W hS hD => ?_) (fun x4 K hK => ?_)
      · simp [KnowsAll, Knows, Region.binds, upd] at hD
        go_simp
        rw [wrap_u64n]
        refine ⟨Below.refl _ _, (High_any W (u64n chain) 2 (by decide) (by decide)).mono ?_⟩
        rintro e w' ⟨b, rfl, _, ha, hw⟩
        exact ⟨_, rfl, hw, b, rfl, ha⟩
      go_simp
      refine hK _ ?_
      clear hK K
      refine wpGrow_pure rfl rfl fun K hK => ?_
      apply Exists.intro
      constructor
      · intro W hS
        go_simp
        try with_reducible rfl
      go_simp
      refine hK _ ?_
      clear hK K
      refine wpGrow_pure rfl rfl fun K hK => ?_
      apply Exists.intro
      constructor
      · intro W hS
        go_simp
        try with_reducible rfl
      go_simp
      refine hK _ ?_
      clear hK K
      refine wpGrow_told rfl rfl (fun W hS hD => ?_) (fun x7 K hK => ?_)
      · simp [KnowsAll, Knows, Region.binds, upd] at hD
        go_simp
        rw [wrap_u64n]
        refine ⟨Below.refl _ _, (High_any W (u64n I) 2 (by decide) (by decide)).mono ?_⟩
        rintro e w' ⟨b, rfl, _, ha, hw⟩
        exact ⟨_, rfl, hw, b, rfl, ha⟩
      go_simp
      refine hK _ ?_
      clear hK K
      refine wpGrow_pure rfl rfl fun K hK => ?_
      apply Exists.intro
      constructor
      · intro W hS
        go_simp
        try with_reducible rfl
      go_simp
      refine hK _ ?_
      clear hK K
      refine wpGrow_told rfl rfl (fun W hS hD => ?_) (fun x9 K hK => ?_)
      · simp [KnowsAll, Knows, Region.binds, upd] at hD
        go_simp
        have hg := grew_alloc W (.cells #[.slice (some ⟨w.heap.size, 0, none⟩) 32 32, .slice (some ⟨x4.2.1, 0, none⟩) 2 2, .slice (some ⟨x7.2.1, 0, none⟩) 2 2, .slice (some ⟨w.heap.size + 1, 0, none⟩) 32 32] 57)
        exact ⟨hg, _, _, Arr.new W 57 _, hD.1.keep hg, hD.2.keep hg⟩
      go_simp
      refine hK _ ?_
      clear hK K
      refine wpGrow_nil fun W hS hD => ?_
      have hD9 := hD 9 (by decide)
      simp [Knows, upd] at hD9
      clear hD
      obtain ⟨b1, b2, hb9, hb1, hb2⟩ := hD9
      have hS' : Grew wr W := hS
      have k1 := HE.out.1.below hS'
      have k2 := HE.out.2.1.below hS'
      have k3 := HE.out.2.2.1.below hS'
      have mm : Arr W m 90 (meterA (cntN c j)) := HE.out.2.2.2.1.below hS'
      have mt : Met W m := ⟨_, mm⟩
      have bw : Bel m w W := HE.out.2.2.2.2.1.trans (Bel.of hS')
      have sh : Shas W := H.out.1.gr ⟨_, H.out.2.1⟩ ⟨bw, mt⟩
      have r1 : RdM m W (some ⟨w.heap.size, 0, none⟩) 32 (tag.map byt) := by have := RdM.key k1 mt (by decide); rw [H.out.2.2.1] at this; exact this
      have r2 : RdM m W (some ⟨w.heap.size + 1, 0, none⟩) 32 (V.map byt) := by have := RdM.key k2 mt (by decide); rw [HE.out.2.2.2.2.2.2.2.1] at this; exact this
      have R : RowsM m W [.slice (some ⟨w.heap.size, 0, none⟩) 32 32, .slice (some ⟨b1, 0, none⟩) 2 2, .slice (some ⟨b2, 0, none⟩) 2 2, .slice (some ⟨w.heap.size + 1, 0, none⟩) 32 32] [tag, highB (u64n chain) 2, highB (u64n I) 2, V] :=
        .cons r1 (Nat.le_refl _) (.cons (hb1.rdm mt (by decide) (highB_len _ _)) (Nat.le_refl _) (.cons (hb2.rdm mt (by decide) (highB_len _ _)) (Nat.le_refl _) (.cons r2 (Nat.le_refl _) .nil_)))
      have hbb : ∀ ys ∈ [tag, highB (u64n chain) 2, highB (u64n I) 2, V], ∀ b ∈ ys, b < 256 := fun ys hy b hb => by
        simp only [List.mem_cons, List.not_mem_nil, or_false] at hy
        rcases hy with rfl | rfl | rfl | rfl
        · exact H.out.2.2.2.1 b hb
        · exact highB_lt _ _ b hb
        · exact highB_lt _ _ b hb
        · exact HE.out.2.2.2.2.2.2.2.2 b hb
      have hfl : [tag, highB (u64n chain) 2, highB (u64n I) 2, V].flatten.length = 68 := by simp [highB_len, H.out.2.2.1, HE.out.2.2.2.2.2.2.2.1]
      have HS := Lib.hid (And.intro k1 (And.intro k2 (And.intro k3 (And.intro mm (And.intro bw (And.intro sh (And.intro R (And.intro hbb (And.intro hfl (hb9.rdv (n := 4) rfl))))))))))
      clear hb9 hb1 hb2 hS' hS k1 k2 k3 mm mt bw sh r1 r2 R hbb hfl
      go_wp2_with fail
      refine (Sum_exact W m (cntN c j) HS.out.2.2.2.2.2.1 HS.out.2.2.2.1 _ 4 4 _ _ HS.out.2.2.2.2.2.2.2.2.2 HS.out.2.2.2.2.2.2.1 68 HS.out.2.2.2.2.2.2.2.2.1 (by decide) (by decide) HS.out.2.2.2.2.2.2.2.1).mono ?_
      rintro e W2 ⟨rfl, hg2, hm2⟩
      have mt : Met W m := ⟨_, HS.out.2.2.2.1⟩
      have gr2 : GrM m W W2 := ⟨hg2, _, hm2⟩
      obtain ⟨F, hF⟩ : ∃ F, F = digest [tag, highB (u64n chain) 2, highB (u64n I) 2, V].flatten := ⟨_, rfl⟩
      rw [← hF]
      have hFl : F.length = 32 := by rw [hF, digest_len]
      have hFs : (keyA F).size = 32 := by rw [keyA_size, hFl]
      have hFa : F = along tag chain src v (j + 1) := by rw [hF, along, stepK, ← HE.out.2.2.2.2.2.2.1, ← HE.out.2.2.2.2.2.1]; simp
      have v2 := HS.out.2.1.gr mt gr2 (by decide)
      have hst := v2.store (P := Tryd.prog) (V := keyA F) (by rw [keyA_size, hFs, HE.out.2.2.2.2.2.2.2.1]) (keyA_one _)
      have H2 : Hid (AlongRel w m c tag chain src v n (.int .i64 (I + 1)) (W2.setRow (w.heap.size + 1) (keyA F))) := by
        have hml := H.out.2.1.lt
        refine ⟨j + 1, hjn, by rw [HE.out.2.2.2.2.2.1]; congr 1; omega, (HS.out.1.gr mt gr2 (by decide)).setRowOther (by omega) _, by rw [← hFa]; exact v2.setRow _, (HS.out.2.2.1.gr mt gr2 (by decide)).setRowOther (by omega) _,
          hm2.setRowOther (by omega) _, (gr_setRow ⟨HS.out.2.2.2.2.1.trans hg2, _, hm2⟩ (by omega) hml _).bel⟩
      clear hF hFl hFa v2 gr2 mt hg2 hm2
      go_simp
      go_wp2_with fail
      clear hst
      go_roundw
      case rel => exact H2.out
      case measure => simp [intOf]; omega
    · have hjn : j = n := by omega
      obtain ⟨F, hF⟩ : ∃ F, F = along tag chain src v j := ⟨_, rfl⟩
      rw [← hF] at h2
      have hFs : (keyA F).size = 32 := by rw [keyA_size, hF]; exact along_len H.out.2.2.2.2.1 j
      have hl := h2.load (P := Tryd.prog) (n := 32) hFs
      have hst := h3.store (P := Tryd.prog) (V := keyA F) (by rw [keyA_size, hFs]; rfl) (keyA_one _)
      have hl2 := (h3.setRow (keyA F)).load (P := Tryd.prog) (n := 32) hFs
      have hml := H.out.2.1.lt
      have HE := Lib.hid (And.intro h4 (And.intro h5 (And.intro hF hjn)))
      clear h1 h2 h3 h4 h5 hF hjn hn
      go_wp2
      refine bodyPost_ret (v := .agg (keyA F)) (by simp [results, Tryd.results18, go_sem, hl2, hFs]) rfl ⟨?_, ?_, ?_⟩
      · rw [HE.out.2.2.1, HE.out.2.2.2, HN.out]
      · exact (gr_setRow (f := meterA) (t := 90) ⟨HE.out.2.1, _, HE.out.1⟩ (by omega) hml _).bel
      · rw [← HN.out, ← HE.out.2.2.2]
        exact HE.out.1.setRowOther (by omega) _
theorem Along_any (w : World) (m : Nat) (hg : Shas w) (hm : Met w m) (tag v : List Nat) (ht : tag.length = 32) (htb : ∀ b ∈ tag, b < 256) (hv : v.length = 32) (hvb : ∀ b ∈ v, b < 256) (chain src dst : Int)
    (hs0 : -9223372036854775808 ≤ src) (hs1 : src ≤ 9223372036854775807) (hd0 : -9223372036854775808 ≤ dst) (hd1 : dst ≤ 9223372036854775807) :
    Calls Tryd.prog 18 #[.pointer (some ⟨m, 0, none⟩), .agg (keyA tag), .int .i64 chain, .int .i64 src, .int .i64 dst, .agg (keyA v)] w fun e w' =>
      e = .returned (.agg (keyA (along tag chain src v (dst - src).toNat))) ∧ GrM m w w' := by
  obtain ⟨c, hm⟩ := hm
  exact (Along_exact w m c hg hm tag v ht htb hv hvb chain src dst hs0 hs1 hd0 hd1).mono fun e w' h => ⟨h.1, h.2.1, _, h.2.2⟩
end Go.Proofs.YtejifhdkgfilgaaDoor
