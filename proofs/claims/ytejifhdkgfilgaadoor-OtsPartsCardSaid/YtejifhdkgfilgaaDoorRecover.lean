/- What a signature says the key is. -/
import Derived.Test.YtejifhdkgfilgaaDoorSign
namespace Go.Proofs.YtejifhdkgfilgaaDoor
open Go.RowKit
/-- the i-th chain's end, from a signature's key -/
def recK (tag ds : List Nat) (KS : List (List Nat)) (i : Nat) : List Nat := along tag i (ds.getD i 0) (KS.getD i []) (15 - ds.getD i 0)
def recs (tag ds : List Nat) (KS : List (List Nat)) (n : Nat) : List (List Nat) := (List.range n).map (recK tag ds KS)
def recoverK (tag d : List Nat) (KS : List (List Nat)) : List Nat := digest (tag ++ (recs tag (digits d) KS 67).flatten)
theorem recs_succ (tag ds : List Nat) (KS : List (List Nat)) (n : Nat) : recs tag ds KS (n + 1) = recs tag ds KS n ++ [recK tag ds KS n] := by simp [recs, List.range_succ]
theorem recs_len (tag ds : List Nat) (KS : List (List Nat)) (n : Nat) : (recs tag ds KS n).length = n := by simp [recs]
theorem recK_len {tag ds : List Nat} {KS : List (List Nat)} (h : KeysB KS) {i : Nat} (hi : i < KS.length) : (recK tag ds KS i).length = 32 := along_len (by rw [show KS.getD i [] = KS[i] from by simp [List.getD, hi]]; exact (h _ (List.getElem_mem _)).1) _
theorem recK_lt {tag ds : List Nat} {KS : List (List Nat)} (h : KeysB KS) {i : Nat} (hi : i < KS.length) : ∀ b ∈ recK tag ds KS i, b < 256 := along_lt (by rw [show KS.getD i [] = KS[i] from by simp [List.getD, hi]]; exact (h _ (List.getElem_mem _)).2) _
theorem recs_keys {tag ds : List Nat} {KS : List (List Nat)} (h : KeysB KS) {n : Nat} (hn : n ≤ KS.length) : KeysB (recs tag ds KS n) := by
  intro k hk
  obtain ⟨i, hi, rfl⟩ := List.mem_map.1 hk
  have := List.mem_range.1 hi
  exact ⟨recK_len h (by omega), recK_lt h (by omega)⟩
theorem zeros32L : ([Value.int IntKind.u8 0, Value.int IntKind.u8 0, Value.int IntKind.u8 0, Value.int IntKind.u8 0, Value.int IntKind.u8 0, Value.int IntKind.u8 0, Value.int IntKind.u8 0, Value.int IntKind.u8 0, Value.int IntKind.u8 0, Value.int IntKind.u8 0, Value.int IntKind.u8 0, Value.int IntKind.u8 0, Value.int IntKind.u8 0, Value.int IntKind.u8 0, Value.int IntKind.u8 0, Value.int IntKind.u8 0, Value.int IntKind.u8 0, Value.int IntKind.u8 0, Value.int IntKind.u8 0, Value.int IntKind.u8 0, Value.int IntKind.u8 0, Value.int IntKind.u8 0, Value.int IntKind.u8 0, Value.int IntKind.u8 0, Value.int IntKind.u8 0, Value.int IntKind.u8 0, Value.int IntKind.u8 0, Value.int IntKind.u8 0, Value.int IntKind.u8 0, Value.int IntKind.u8 0, Value.int IntKind.u8 0, Value.int IntKind.u8 0] : List Value) = (keyA (List.replicate 32 0)).toList := rfl
attribute [-go_sem] loadCellsFrom storeCells Instr.buildSlice
attribute [local go_sem] storeCells_one growAt growUpon
set_option maxRecDepth 100000 in
set_option maxHeartbeats 1000000 in
theorem Recover_bad (w : World) (D tag d : List Nat) (m : Nat) (A : Option Addr) (n c : Nat) (hn : n ≠ 67) (hm : Met w m) :
    Calls Tryd.prog 26 #[.pointer (some ⟨m, 0, none⟩), .agg (keyA tag), .agg (keyA d), .slice A n c] w fun e w' => e = .returned (.tuple #[.agg (keyA (List.replicate 32 0)), .int .i64 40]) ∧ GrM m w w' := by
  have H := Lib.hid hm
  have hd : ((n : Int) != 67) = true := by simp; omega
  clear hm hn
  go_enter Tryd.func26, Tryd.ntmps26
  go_wp2_with fail
  rw [zeros32, zeros32L]
  obtain ⟨W0, hW0⟩ : ∃ W0, W0 = (w.alloc (.cells (keyA tag) 23)).alloc (.cells (keyA d) 23) := ⟨_, rfl⟩
  have g0 : Grew w W0 := by rw [hW0]; exact (grew_alloc w _).trans ((grew_alloc _ _).mono (grew_alloc w _).size)
  have hsz : W0.heap.size = w.heap.size + 1 + 1 := by rw [hW0]; simp
  rw [← hW0, ← hsz]
  have hst := store_new (P := Tryd.prog) W0 23 (keyA (List.replicate 32 0)) (keyA (List.replicate 32 0)) rfl (keyA_one _)
  have hl2 := (Arr.new W0 23 (keyA (List.replicate 32 0))).load (P := Tryd.prog) (n := 32) rfl
  have hsz2 : (keyA (List.replicate 32 0)).size = 32 := rfl
  have HH := Lib.hid (And.intro g0 hsz)
  clear g0 hsz hW0
  generalize hK : keyA (List.replicate 32 0) = K at *
  have HK := Lib.hid hK
  clear hK
  go_simp
  go_wp2
  refine bodyPost_ret (v := .tuple #[.agg K, .int .i64 40]) (by simp [results, Tryd.results26, go_sem, hl2, hsz2]) rfl ⟨by rw [HK.out], Gr.of H.out (HH.out.1.trans ((grew_alloc W0 _).mono HH.out.1.size))⟩
def RecRel (w : World) (m : Nat) (tag ds : List Nat) (KS : List (List Nat)) (v i : Value) (wr : World) : Prop :=
  ∃ k : Nat, k ≤ 67 ∧ i = .int .i64 k ∧ KRow wr w.heap.size v (recs tag ds KS k) ∧ GrM m w wr
theorem grew_z (w : World) (m : Nat) (hm : Met w m) (tag d : List Nat) : ∃ (Z : Array Value) (W0 : World), Z = keyA (List.replicate 32 0) ∧ W0 = ((w.alloc (.cells (keyA tag) 23)).alloc (.cells (keyA d) 23)).alloc (.cells Z 23) ∧ GrM m w W0 ∧ W0.heap.size = w.heap.size + 1 + 1 + 1 ∧
    Arr W0 w.heap.size 23 (keyA tag) ∧ Arr W0 (w.heap.size + 1) 23 (keyA d) ∧ Arr W0 (w.heap.size + 1 + 1) 23 Z := by
  have g1 := grew_alloc w (.cells (keyA tag) 23)
  have a1 := Arr.new w 23 (keyA tag)
  have s1 : (w.alloc (.cells (keyA tag) 23)).heap.size = w.heap.size + 1 := by simp
  generalize w.alloc (.cells (keyA tag) 23) = w1 at *
  have g2 := grew_alloc w1 (.cells (keyA d) 23)
  have a2 := Arr.new w1 23 (keyA d)
  have s2 : (w1.alloc (.cells (keyA d) 23)).heap.size = w.heap.size + 1 + 1 := by simp [s1]
  have b2 := a1.below g2
  generalize w1.alloc (.cells (keyA d) 23) = w2 at *
  have g3 := grew_alloc w2 (.cells (keyA (List.replicate 32 0)) 23)
  have a3 := Arr.new w2 23 (keyA (List.replicate 32 0))
  have s3 : (w2.alloc (.cells (keyA (List.replicate 32 0)) 23)).heap.size = w.heap.size + 1 + 1 + 1 := by simp [s2]
  have b3 := b2.below g3
  have c3 := a2.below g3
  rw [s1] at c3
  rw [s2] at a3
  exact ⟨_, _, rfl, rfl, Gr.of hm ((g1.trans (g2.mono (by omega))).trans (g3.mono (by omega))), s3, b3, c3, a3⟩
set_option maxRecDepth 100000 in
set_option maxHeartbeats 1000000 in
theorem Recover_any (w : World) (m : Nat) (hg : Shas w) (hm : Met w m) (tag d : List Nat) (ht : tag.length = 32) (htb : ∀ b ∈ tag, b < 256) (hd : d.length = 32) (hdb : ∀ b ∈ d, b < 256) (Al : Option Addr) (cl : Nat) (KS : List (List Nat)) (hn : KS.length = 67) (hKS : KeysB KS) (hr : RdM m w Al (32 * 67) (KS.flatten.map byt)) :
    Calls Tryd.prog 26 #[.pointer (some ⟨m, 0, none⟩), .agg (keyA tag), .agg (keyA d), .slice Al 67 cl] w fun e w' => e = .returned (.tuple #[.agg (keyA (recoverK tag d KS)), .int .i64 0]) ∧ GrM m w w' := by
  have H := Lib.hid (And.intro ht (And.intro htb (And.intro hd (And.intro hdb (And.intro hn hKS)))))
  have hm0 : m < w.heap.size := hm.lt
  obtain ⟨Z, W0, hZ, hW0, g0, hsz, a0, a1, a2⟩ := grew_z w m hm tag d
  have hl := a1.load (P := Tryd.prog) (n := 32) (by rw [keyA_size, hd])
  have hrd := hr.gr g0
  have hsha := hg.gr hm g0
  have H0 := Lib.hid (And.intro g0 (And.intro hsz (And.intro a0 (And.intro a2 (And.intro hrd hsha)))))
  clear hg hm ht htb hd hdb hn hKS hr g0 hsz a0 a1 a2 hrd hsha
  go_enter Tryd.func26, Tryd.ntmps26
  go_wp2_with fail
  rw [zeros32, ← hZ, ← hW0]
  have HZ := Lib.hid hZ
  clear hZ hW0
  go_simp
  go_wp2_with fail
  clear hl
  refine (Digits_any W0 d H.out.2.2.1 H.out.2.2.2.1).mono ?_
  rintro e W1 ⟨Ad, cd, rfl, hqd, hcd, hgw⟩
  obtain ⟨ds, hds⟩ : ∃ ds, ds = digits d := ⟨_, rfl⟩
  have hdl : ds.length = 67 := by rw [hds, digits_len H.out.2.2.1]
  have hd16 : ∀ x ∈ ds, x < 16 := by rw [hds]; exact digits_lt H.out.2.2.2.1 H.out.2.2.1
  have g1 : GrM m W0 W1 := Gr.of H0.out.1.cnt hgw
  have hrd : RdM m W1 Ad 67 (ds.map num) := by rw [hds]; exact RdM.row hqd g1.cnt (by decide)
  obtain ⟨a, rfl, hab, ham, hac⟩ := hrd.at_ (by decide)
  have hrl := H0.out.2.2.2.2.1.gr g1
  obtain ⟨al, rfl, _, _, _⟩ := hrl.at_ (by decide)
  have H1 := Lib.hid (And.intro (H0.out.1.trans g1) (And.intro (H0.out.2.2.2.2.2.gr H0.out.1.cnt g1) (And.intro hdl (And.intro hd16 (And.intro hab (And.intro ham (And.intro hac (And.intro hds (And.intro (H0.out.2.2.1.gr H0.out.1.cnt g1 (by decide)) (And.intro (H0.out.2.2.2.1.gr H0.out.1.cnt g1 (by decide)) hrl))))))))))
  clear H0 hqd hcd hgw hds hdl hd16 g1 hrd hab ham hac hrl
  go_wp2_with fail
  go_loopw [10, 20] (fun v i wr => RecRel W1 m tag ds KS v i wr) (fun _ i _ => 67 - (intOf i).toNat)
  case atStart => exact ⟨0, Nat.zero_le _, rfl, KRow.nil_ _ _, Gr.refl H1.out.1.cnt⟩
  case round =>
    obtain ⟨k, hk, rfl, ⟨A, c, rfl, hq, hle⟩, hgr⟩ := hrel
    rw [recs_len] at hq hle ⊢
    by_cases hlt : k < 67
    · have hkd : k < ds.length := by rw [H1.out.2.2.1]; exact hlt
      have hkk : k < KS.length := by rw [H.out.2.2.2.2.1]; exact hlt
      obtain ⟨x, hx⟩ : ∃ x, x = ds[k] := ⟨_, rfl⟩
      have hx16 : x < 16 := by rw [hx]; exact H1.out.2.2.2.1 _ (List.getElem_mem _)
      have hcell : wr.cell? (a.add k) = some (.int .i64 x) := (World.cell?_of_block (w := W1) (by rw [add_block]; exact hgr.bel.block _ H1.out.2.2.2.2.1 H1.out.2.2.2.2.2.1)).trans (H1.out.2.2.2.2.2.2.1 k _ (by simp [hkd, num, hx]))
      obtain ⟨K, hK⟩ : ∃ K, K = recK tag ds KS k := ⟨_, rfl⟩
      have hK2 : K = along tag k x KS[k] (15 - x) := by rw [hK, recK, show ds.getD k 0 = x from by simp [List.getD, hkd, hx], show KS.getD k [] = KS[k] from by simp [List.getD, hkk]]
      have hKl : K.length = 32 := by rw [hK, recK_len H.out.2.2.2.2.2 hkk]
      have hkr : KRow wr W1.heap.size (.slice A k c) (recs tag ds KS k) := ⟨A, c, by rw [recs_len], by rw [recs_len]; exact hq, by rw [recs_len]; exact hle⟩
      have HQ := Lib.hid (And.intro hkr (And.intro hgr (And.intro hK (And.intro hKl (And.intro hK2 hx16)))))
      clear hq hle hgr hK hKl hkr hK2 hx hx16
      go_wp2_with fail
      refine wp_region_grow (R := GrM m) (S := fun W => KRow W W1.heap.size (.slice A k c) (recs tag ds KS k) ∧ GrM m W1 W) 11 (fun opk => match opk with
        | 9 => some ⟨fun (x : Ix) => .agg (keyA K), fun (x : Ix) W => True, fun _ _ _ _ _ _ => trivial⟩
        | 10 => some ⟨fun (x : Ix) => .slice (some ⟨x.2.1, 0, none⟩) 1 1, fun (x : Ix) W => Arr W x.2.1 23 (keyA K), fun _ _ _ hr hS h => h.gr hS.2.cnt hr (by decide)⟩
        | _ => none) ⟨(none, 0, 0)⟩ (none, 0, 0) (by kernel_rfl) (by kernel_rfl) (fun _ _ hr hS => ⟨hS.1.gr hS.2.cnt hr (by decide), hS.2.trans hr⟩) ⟨HQ.out.1.drew, HQ.out.2.1.drew⟩ ?_
      simp only [List.take_succ_cons, List.take_zero, List.drop_succ_cons, List.drop_zero]
      refine wpGrow_pure rfl rfl fun opK hopK => ?_
      apply Exists.intro
      constructor
      · intro W hS
        go_simp
        try with_reducible rfl
      go_simp
      refine hopK _ ?_
      clear hopK opK
      refine wpGrow_pure rfl rfl fun opK hopK => ?_
      apply Exists.intro
      constructor
      · intro W hS
        go_simp
        try with_reducible rfl
      go_simp
      refine hopK _ ?_
      clear hopK opK
      refine wpGrow_pure rfl rfl fun opK hopK => ?_
      apply Exists.intro
      constructor
      · intro W hS
        have hl := (H1.out.2.2.2.2.2.2.2.2.1.gr H1.out.1.cnt hS.2 (by decide)).load (P := Tryd.prog) (n := 32) (by rw [keyA_size, H.out.1])
        go_simp
        try with_reducible rfl
      go_simp
      refine hopK _ ?_
      clear hopK opK
      refine wpGrow_pure rfl rfl fun opK hopK => ?_
      apply Exists.intro
      constructor
      · intro W hS
        go_simp
        try with_reducible rfl
      go_simp
      refine hopK _ ?_
      clear hopK opK
      refine wpGrow_pure rfl rfl fun opK hopK => ?_
      apply Exists.intro
      constructor
      · intro W hS
        go_simp
        try with_reducible rfl
      go_simp
      refine hopK _ ?_
      clear hopK opK
      refine wpGrow_pure rfl rfl fun opK hopK => ?_
      apply Exists.intro
      constructor
      · intro W hS
        go_simp
        try with_reducible rfl
      go_simp
      refine hopK _ ?_
      clear hopK opK
      refine wpGrow_pure rfl rfl fun opK hopK => ?_
      apply Exists.intro
      constructor
      · intro W hS
        go_simp
        try with_reducible rfl
      go_simp
      refine hopK _ ?_
      clear hopK opK
      refine wpGrow_pure rfl rfl fun opK hopK => ?_
      apply Exists.intro
      constructor
      · intro W hS
        go_simp
        try with_reducible rfl
      go_simp
      refine hopK _ ?_
      clear hopK opK
      refine wpGrow_pure rfl rfl fun opK hopK => ?_
      apply Exists.intro
      constructor
      · intro W hS
        have hl := run_load_key (P := Tryd.prog) H.out.2.2.2.2.2 (H1.out.2.2.2.2.2.2.2.2.2.2.gr hS.2) hkk
        go_simp
        try with_reducible rfl
      go_simp
      refine hopK _ ?_
      clear hopK opK
      refine wpGrow_told rfl rfl (fun W hS hD => ?_) (fun x9 opK hopK => ?_)
      · simp [KnowsAll, Knows, Region.binds, upd] at hD
        go_simp
        refine ⟨Gr.refl hS.2.cnt, (Along_any W m (H1.out.2.1.gr H1.out.1.cnt hS.2) hS.2.cnt tag KS[k] H.out.1 H.out.2.1 (H.out.2.2.2.2.2 _ (List.getElem_mem _)).1 (H.out.2.2.2.2.2 _ (List.getElem_mem _)).2 k x 15 (by omega) (by have := HQ.out.2.2.2.2.2; omega) (by omega) (by omega)).mono ?_⟩
        rintro e w' ⟨rfl, hw⟩
        exact ⟨by rw [HQ.out.2.2.2.2.1, show ((15 : Int) - x).toNat = 15 - x from by have := HQ.out.2.2.2.2.2; omega], hw⟩
      go_simp
      refine hopK _ ?_
      clear hopK opK
      refine wpGrow_told rfl rfl (fun W hS hD => ?_) (fun x10 opK hopK => ?_)
      · simp [KnowsAll, Knows, Region.binds, upd] at hD
        have hb := run_key_row W K HQ.out.2.2.2.1
        go_simp
        exact ⟨Gr.of hS.2.cnt (grew_alloc W _), Arr.new W 23 _⟩
      go_simp
      refine hopK _ ?_
      clear hopK opK
      refine wpGrow_nil fun W hS hD => ?_
      have hD10 := hD 10 (by decide)
      simp [Knows, upd] at hD10
      clear hD
      obtain ⟨A2, c2, w2, hrun, hk2, hgr, hown⟩ := run_append_key W 39 W1.heap.size k c A (recs tag ds KS k) K (recs_len _ _ _ _) hS.1 hS.2.bel.size x10.2.1 hD10 HQ.out.2.2.2.1 (by omega)
      have H2 : Hid (RecRel W1 m tag ds KS (.slice A2 (k + 1) c2) (.int .i64 ((k : Int) + 1)) w2) := by
        refine ⟨k + 1, by omega, by go_num, by rw [recs_succ, ← HQ.out.2.2.1]; exact hk2, hS.2.grown hgr fun g e => ⟨(hown g e).1, ?_⟩⟩
        obtain ⟨cs, hc⟩ := (hown g e).2
        exact hS.2.cnt.ne (E := 23) (V := cs) hc (by decide)
      clear hk2 hgr hown hS hD10
      go_wp2_with (at_builtin; refine Lib.wpList_append_run _ rfl _ _ _ _ rfl _ _ rfl rfl _ _ hrun ?_)
      go_roundw
      case rel => exact H2.out
      case measure => simp [intOf]; omega
    · obtain rfl : k = 67 := by omega
      rw [show ((67 : Nat) : Int) = 67 from rfl]
      have HK : RdM m wr A (32 * 67) ((recs tag ds KS 67).flatten.map byt) := KRow.rdm (n := 67) (c := c) ⟨A, c, by rw [recs_len], by rw [recs_len]; exact hq, by rw [recs_len]; exact hle⟩ hgr.cnt (by decide)
      have HH := Lib.hid (And.intro HK hgr)
      clear HK hq hle hgr
      have hl := (H1.out.2.2.2.2.2.2.2.2.1.gr H1.out.1.cnt HH.out.2 (by decide)).load (P := Tryd.prog) (n := 32) (by rw [keyA_size, H.out.1])
      go_wp2_with fail
      clear hl
      refine (Ends_any wr m (H1.out.2.1.gr H1.out.1.cnt HH.out.2) HH.out.2.cnt tag H.out.1 H.out.2.1 A 67 c (recs tag ds KS 67) (recs_len _ _ _ _) (recs_keys H.out.2.2.2.2.2 (by rw [H.out.2.2.2.2.1]; exact Nat.le_refl _)) HH.out.1 (by decide)).mono ?_
      rintro e W ⟨rfl, hw⟩
      have hS := HH.out.2.trans hw
      have z0 := H1.out.2.2.2.2.2.2.2.2.2.1.gr H1.out.1.cnt hS (by decide)
      obtain ⟨F, hF⟩ : ∃ F, F = digest (tag ++ (recs tag ds KS 67).flatten) := ⟨_, rfl⟩
      rw [← hF]
      have hFl : F.length = 32 := by rw [hF]; exact digest_len _
      have hFs : (keyA F).size = 32 := by rw [keyA_size, hFl]
      have hst := z0.store (P := Tryd.prog) (V := keyA F) (by rw [hFs, HZ.out]; rfl) (keyA_one _)
      have hl2 := (z0.setRow (keyA F)).load (P := Tryd.prog) (n := 32) hFs
      have HK := Lib.hid (And.intro hF (H1.out.1.trans hS))
      clear hF hFl z0 hS hw
      go_wp2
      refine bodyPost_ret (v := .tuple #[.agg (keyA F), .int .i64 0]) (by simp [results, Tryd.results26, go_sem, hl2, hFs]) rfl ⟨by rw [HK.out.1, recoverK, ← H1.out.2.2.2.2.2.2.2.1], gr_setRow HK.out.2 (by omega) hm0 _⟩
end Go.Proofs.YtejifhdkgfilgaaDoor
