/- A signer's public key, made. -/
import Derived.Test.YtejifhdkgfilgaaDoorKeyRow
namespace Go.Proofs.YtejifhdkgfilgaaDoor
open Go.RowKit
/-- the i-th chain's end -/
def topK (seed tag : List Nat) (i : Nat) : List Nat := along tag i 0 (beginK seed i) 15
def tops (seed tag : List Nat) (n : Nat) : List (List Nat) := (List.range n).map (topK seed tag)
def publicK (seed tag : List Nat) : List Nat := digest (tag ++ (tops seed tag 67).flatten)
theorem topK_len (seed tag : List Nat) (i : Nat) : (topK seed tag i).length = 32 := along_len (derive_len _ _ _) _
theorem topK_lt (seed tag : List Nat) (i : Nat) : ∀ b ∈ topK seed tag i, b < 256 := along_lt (derive_lt _ _ _) _
theorem tops_succ (seed tag : List Nat) (n : Nat) : tops seed tag (n + 1) = tops seed tag n ++ [topK seed tag n] := by simp [tops, List.range_succ]
theorem tops_keys (seed tag : List Nat) (n : Nat) : KeysB (tops seed tag n) := by
  intro k hk
  obtain ⟨i, _, rfl⟩ := List.mem_map.1 hk
  exact ⟨topK_len _ _ _, topK_lt _ _ _⟩
theorem tops_len (seed tag : List Nat) (n : Nat) : (tops seed tag n).length = n := by simp [tops]
theorem publicK_len (seed tag : List Nat) : (publicK seed tag).length = 32 := digest_len _
theorem publicK_lt (seed tag : List Nat) : ∀ b ∈ publicK seed tag, b < 256 := digest_lt _
/-- what a signer's functions find -/
structure Sig (w : World) (m pb sb : Nat) (seed tag pub : List Nat) (done lock : Int) : Prop where
  shas : Shas w
  met : Met w m
  box : Arr w pb 36 #[.pointer (some ⟨sb, 0, none⟩)]
  sig : Arr w sb 101 (sigA m seed tag pub done lock)
theorem Sig.gr {w w' : World} {m pb sb : Nat} {seed tag pub : List Nat} {done lock : Int} (h : Sig w m pb sb seed tag pub done lock) (hr : GrM m w w') : Sig w' m pb sb seed tag pub done lock :=
  ⟨h.shas.gr h.met hr, hr.cnt, h.box.gr h.met hr (by decide), h.sig.gr h.met hr (by decide)⟩
theorem Sig.drew {w : World} {m pb sb : Nat} {seed tag pub : List Nat} {done lock : Int} (h : Sig w m pb sb seed tag pub done lock) : Sig w.drew m pb sb seed tag pub done lock := ⟨⟨h.shas.start, h.shas.tab⟩, h.met, h.box, h.sig⟩
theorem Gr.drew {t : TypeId} {f : Int → Array Value} {m : Nat} {w w' : World} (h : Gr t f m w w') : Gr t f m w w'.drew := ⟨⟨h.bel.os, h.bel.tape, h.bel.output, h.bel.size, h.bel.block⟩, h.cnt⟩
/-- slices of keys that are the call's own -/
def KRow (w : World) (base : Nat) (v : Value) (KS : List (List Nat)) : Prop := ∃ A c, v = .slice A KS.length c ∧ QRow w base 23 32 v KS.length (KS.flatten.map byt) ∧ KS.length ≤ c
theorem KRow.gr {t : TypeId} {f : Int → Array Value} {m base : Nat} {w w' : World} {v : Value} {KS : List (List Nat)} (h : KRow w base v KS) (hc : Cnt t f w m) (hr : Gr t f m w w') (ht : 23 ≠ t) : KRow w' base v KS := by
  obtain ⟨A, c, e, hq, hl⟩ := h
  exact ⟨A, c, e, hq.gr hc hr ht, hl⟩
theorem KRow.drew {base : Nat} {w : World} {v : Value} {KS : List (List Nat)} (h : KRow w base v KS) : KRow w.drew base v KS := by
  obtain ⟨A, c, e, hq, hl⟩ := h
  exact ⟨A, c, e, hq.drew, hl⟩
theorem KRow.nil_ (w : World) (base : Nat) : KRow w base (.slice none 0 0) [] := ⟨none, 0, rfl, QRow.nil_, Nat.le_refl _⟩
/-- a key appended -/
theorem run_append_key (w : World) (ty : TypeId) (base n c : Nat) (A : Option Addr) (KS : List (List Nat)) (K : List Nat) (hn : KS.length = n) (h : KRow w base (.slice A n c) KS) (hbase : base ≤ w.heap.size) (b : Nat) (hb : Arr w b 23 (keyA K)) (hK : K.length = 32) (hl : n ≤ 1000) :
    ∃ A' c' w', (Builtin.append_ #[39, 39] ty #[.slice A n c, .slice (some ⟨b, 0, none⟩) 1 1]).run Tryd.prog w = .ok (.slice A' (n + 1) c') w' ∧ KRow w' base (.slice A' (n + 1) c') (KS ++ [K]) ∧ w.grownBy w' (Value.slice A n c).ownBlock ∧
      ∀ g, (Value.slice A n c).ownBlock = some g → base ≤ g ∧ ∃ cs, w.heap[g]? = some (.cells cs 23 (0, 0)) := by
  obtain ⟨A0, c0, e, hq, hlc⟩ := h
  injection e with e1 e2 e3
  subst e1 e3 hn
  obtain ⟨i0, hi, hz0, hz1, hz2⟩ := info_parts info23k
  obtain ⟨g, off, cap, w', r0, r1, r2, _⟩ := run_append_q' (P := Tryd.prog) w 39 ty 23 i0 (.agg (keyA (List.replicate 32 0))) 32 32 Tryd.underlying39 hi hz0 hz1 hz2 rfl (by decide) base KS.length _ _ hq hbase ⟨b, 0, none⟩ 1 1 (K.map byt) (by rw [List.length_map, hK])
    (fun j u hu => by rw [Addr.add_lit, Nat.zero_add, hb.cell]; simpa [keyA] using hu) (by simp [byt, Value.oneCell']) (by decide) (by unfold maxLen; omega) (by omega)
  refine ⟨some ⟨g, off, none⟩, cap, w', r0, ⟨some ⟨g, off, none⟩, cap, by simp, ?_, ?_⟩, r2, fun g' e => ?_⟩
  · have ef : (KS ++ [K]).flatten.map byt = KS.flatten.map byt ++ K.map byt := by simp
    rw [ef, List.length_append]
    exact r1
  · rcases r1.form with ⟨_, e⟩ | ⟨_, _, _, _, e, _, _, hle, _⟩
    · omega
    · injection e with _ _ e3; rw [List.length_append]; simp; omega
  · rcases hq.form with ⟨e1, _⟩ | ⟨g2, off2, cap2, cur, hv, hb2, hh, _⟩
    · injection e1 with e1; subst e1; simp [Value.ownBlock] at e
    · rw [hv] at e; simp [Value.ownBlock] at e; subst e; exact ⟨hb2, cur, hh⟩
theorem Gr.grown {t : TypeId} {f : Int → Array Value} {m : Nat} {a w w' : World} {row : Option Nat} (h : Gr t f m a w) (hg : w.grownBy w' row) (hr : ∀ g, row = some g → a.heap.size ≤ g ∧ g ≠ m) : Gr t f m a w' := by
  obtain ⟨hb, c, hc⟩ := h
  refine ⟨⟨hg.os.trans hb.os, hg.tape.trans hb.tape, hg.output.trans hb.output, Nat.le_trans hb.size hg.size, fun k hk hn => ?_⟩, c, hc.keep (hg.block _ hc.lt fun e => (hr _ e.symm).2 rfl)⟩
  exact (hg.block k (Nat.lt_of_lt_of_le hk hb.size) fun e => by have := (hr _ e.symm).1; omega).trans (hb.block k hk hn)
theorem Arr.grownE {w w' : World} {b : Nat} {t E : TypeId} {V : Array Value} {row : Option Nat} (h : Arr w b t V) (hg : w.grownBy w' row) (hr : ∀ g, row = some g → ∃ cs, w.heap[g]? = some (.cells cs E (0, 0))) (ht : t ≠ E) : Arr w' b t V :=
  h.keep (hg.block b h.lt fun e => by
    obtain ⟨cs, hc⟩ := hr b e.symm
    exact Cells.ne (w := w) ⟨V, h⟩ ⟨cs, hc⟩ ht rfl)
theorem Sig.grown {w w' : World} {m pb sb : Nat} {seed tag pub : List Nat} {done lock : Int} {row : Option Nat} (h : Sig w m pb sb seed tag pub done lock) (hg : w.grownBy w' row) (hr : ∀ g, row = some g → ∃ cs, w.heap[g]? = some (.cells cs 23 (0, 0))) : Sig w' m pb sb seed tag pub done lock :=
  ⟨⟨h.shas.start.grownE hg hr (by decide), h.shas.tab.grownE hg hr (by decide)⟩, ⟨_, h.met.choose_spec.grownE hg hr (by decide)⟩, h.box.grownE hg hr (by decide), h.sig.grownE hg hr (by decide)⟩
/-- a signer's public key, laid -/
theorem sig_setpub {m : Nat} {seed tag pub pub' : List Nat} {done lock : Int} (hs : seed.length = 32) (ht : tag.length = 32) (hp : pub.length = 32) (hp' : pub'.length = 32) :
    ((sigA m seed tag pub done lock).toList.take (68 + 0) ++ (keyA pub').toList ++ (sigA m seed tag pub done lock).toList.drop (68 + 0 + (keyA pub').toList.length)).toArray = sigA m seed tag pub' done lock := by
  have h : ∀ P : List Nat, (sigA m seed tag P done lock).toList = (Value.pointer (some ⟨m, 0, none⟩) :: (seed.map byt ++ (tag.map byt ++ [Value.int .u32 done, Value.int .i32 lock, Value.int .u32 0]))) ++ P.map byt := by
    intro P; simp [sigA]
  have hl : (Value.pointer (some ⟨m, 0, none⟩) :: (seed.map byt ++ (tag.map byt ++ [Value.int .u32 done, Value.int .i32 lock, Value.int .u32 0]))).length = 68 := by simp [hs, ht]
  have hk : (keyA pub').toList = pub'.map byt := by simp [keyA]
  rw [h pub, hk, Nat.add_zero, List.take_append_of_le_length (by rw [hl]; exact Nat.le_refl _), List.take_of_length_le (by rw [hl]; exact Nat.le_refl _), List.drop_of_length_le (by rw [List.length_append, hl, List.length_map, List.length_map, hp, hp']; exact Nat.le_refl _), List.append_nil, ← h pub']
theorem KRow.rdm {t : TypeId} {f : Int → Array Value} {m base n c : Nat} {w : World} {A : Option Addr} {KS : List (List Nat)} (h : KRow w base (.slice A n c) KS) (hc : Cnt t f w m) (ht : 23 ≠ t) : RdM m w A (32 * n) (KS.flatten.map byt) := by
  obtain ⟨A0, c0, e, hq, _⟩ := h
  injection e with e1 e2 e3
  subst e1 e2 e3
  refine ⟨by have := hq.len; omega, fun hn => ?_⟩
  rcases hq.form with ⟨_, e⟩ | ⟨g, off, cap, cur, hv, hb, hh, _, _, _, hcu⟩
  · omega
  · injection hv with e1
    subst e1
    exact ⟨_, rfl, (Array.getElem?_eq_some_iff.1 hh).1, hc.ne (E := 23) (V := cur) hh ht, fun j u hu => by rw [Addr.add_lit, cell_of_row w g (off + j) cur 23 (0, 0) hh]; exact hcu j u hu⟩
def PubRel (w : World) (m pb sb : Nat) (seed tag pub : List Nat) (done lock : Int) (v i : Value) (wr : World) : Prop :=
  ∃ k : Nat, k ≤ 67 ∧ i = .int .i64 k ∧ KRow wr w.heap.size v (tops seed tag k) ∧ Sig wr m pb sb seed tag pub done lock ∧ GrM m w wr
attribute [-go_sem] loadCellsFrom storeCells Instr.buildSlice
attribute [local go_sem] storeCells_one growAt growUpon
set_option maxRecDepth 100000 in
set_option maxHeartbeats 1000000 in
theorem PubMake (w : World) (m pb sb : Nat) (seed tag pub : List Nat) (done lock : Int) (hs : seed.length = 32) (ht : tag.length = 32) (hp : pub.length = 32) (hsb : ∀ b ∈ seed, b < 256) (htb : ∀ b ∈ tag, b < 256) (hg : Sig w m pb sb seed tag pub done lock) :
    Calls Tryd.prog 53 #[.pointer (some ⟨pb, 0, none⟩)] w fun e w' => e = .returned (.tuple #[]) ∧ ∃ W, GrM m w W ∧ Sig W m pb sb seed tag pub done lock ∧ w' = W.setRow sb (sigA m seed tag (publicK seed tag) done lock) := by
  have H := Lib.hid (And.intro hs (And.intro ht (And.intro hp (And.intro hsb (And.intro htb hg)))))
  clear hs ht hp hsb htb hg
  go_enter Tryd.func53, Tryd.ntmps53
  go_wp2_with fail
  go_loopw [1, 3] (fun v i wr => PubRel w m pb sb seed tag pub done lock v i wr) (fun _ i _ => 67 - (intOf i).toNat)
  case atStart => exact ⟨0, Nat.zero_le _, rfl, KRow.nil_ _ _, H.out.2.2.2.2.2, Gr.refl H.out.2.2.2.2.2.met⟩
  case round =>
    obtain ⟨k, hk, rfl, ⟨A, c, rfl, hq, hle⟩, hsig, hgr⟩ := hrel
    rw [tops_len] at hq hle ⊢
    by_cases hlt : k < 67
    · obtain ⟨K, hK⟩ : ∃ K, K = topK seed tag k := ⟨_, rfl⟩
      have hKl : K.length = 32 := by rw [hK, topK_len]
      have hkr : KRow wr w.heap.size (.slice A k c) (tops seed tag k) := ⟨A, c, by rw [tops_len], by rw [tops_len]; exact hq, by rw [tops_len]; exact hle⟩
      have HQ := Lib.hid (And.intro hkr (And.intro hsig (And.intro hgr (And.intro hK hKl))))
      clear hq hle hsig hgr hK hKl hkr
      go_wp2_with fail
      refine wp_region_grow (R := GrM m) (S := fun W => Sig W m pb sb seed tag pub done lock ∧ KRow W w.heap.size (.slice A k c) (tops seed tag k) ∧ GrM m w W) 15 (fun opk => match opk with
        | 12 => some ⟨fun (x : Ix) => .agg (keyA (beginK seed k)), fun (x : Ix) W => True, fun _ _ _ _ _ _ => trivial⟩
        | 13 => some ⟨fun (x : Ix) => .agg (keyA K), fun (x : Ix) W => True, fun _ _ _ _ _ _ => trivial⟩
        | 14 => some ⟨fun (x : Ix) => .slice (some ⟨x.2.1, 0, none⟩) 1 1, fun (x : Ix) W => Arr W x.2.1 23 (keyA K), fun _ _ _ hr hS h => h.gr hS.1.met hr (by decide)⟩
        | _ => none) ⟨(none, 0, 0)⟩ (none, 0, 0) (by kernel_rfl) (by kernel_rfl) (fun _ _ hr hS => ⟨hS.1.gr hr, hS.2.1.gr hS.1.met hr (by decide), hS.2.2.trans hr⟩) ⟨HQ.out.2.1.drew, HQ.out.1.drew, HQ.out.2.2.1.drew⟩ ?_
      simp only [List.take_succ_cons, List.take_zero, List.drop_succ_cons, List.drop_zero]
      refine wpGrow_pure rfl rfl fun opK hopK => ?_
      apply Exists.intro
      constructor
      · intro W hS
        go_simp
        try with_reducible rfl
      go_simp
      refine hopK _ ?_
      clear hopK opK
      refine wpGrow_pure rfl rfl fun opK hopK => ?_
      apply Exists.intro
      constructor
      · intro W hS
        have hl := hS.1.box.cell 0
        go_simp
        try with_reducible rfl
      go_simp
      refine hopK _ ?_
      clear hopK opK
      refine wpGrow_pure rfl rfl fun opK hopK => ?_
      apply Exists.intro
      constructor
      · intro W hS
        go_simp
        try with_reducible rfl
      go_simp
      refine hopK _ ?_
      clear hopK opK
      refine wpGrow_pure rfl rfl fun opK hopK => ?_
      apply Exists.intro
      constructor
      · intro W hS
        go_simp
        try with_reducible rfl
      go_simp
      refine hopK _ ?_
      clear hopK opK
      refine wpGrow_pure rfl rfl fun opK hopK => ?_
      apply Exists.intro
      constructor
      · intro W hS
        have hl := sig_m hS.1.sig
        go_simp
        try with_reducible rfl
      go_simp
      refine hopK _ ?_
      clear hopK opK
      refine wpGrow_pure rfl rfl fun opK hopK => ?_
      apply Exists.intro
      constructor
      · intro W hS
        have hl := hS.1.box.cell 0
        go_simp
        try with_reducible rfl
      go_simp
      refine hopK _ ?_
      clear hopK opK
      refine wpGrow_pure rfl rfl fun opK hopK => ?_
      apply Exists.intro
      constructor
      · intro W hS
        go_simp
        try with_reducible rfl
      go_simp
      refine hopK _ ?_
      clear hopK opK
      refine wpGrow_pure rfl rfl fun opK hopK => ?_
      apply Exists.intro
      constructor
      · intro W hS
        go_simp
        try with_reducible rfl
      go_simp
      refine hopK _ ?_
      clear hopK opK
      refine wpGrow_pure rfl rfl fun opK hopK => ?_
      apply Exists.intro
      constructor
      · intro W hS
        have hl := run_load_mid (P := Tryd.prog) (n := 32) (tag.map byt) (by rw [List.length_map]; exact H.out.2.1) (sig_tag hS.1.sig H.out.1 H.out.2.1 H.out.2.2.1)
        go_simp
        try with_reducible rfl
      go_simp
      refine hopK _ ?_
      clear hopK opK
      refine wpGrow_pure rfl rfl fun opK hopK => ?_
      apply Exists.intro
      constructor
      · intro W hS
        go_simp
        try with_reducible rfl
      go_simp
      refine hopK _ ?_
      clear hopK opK
      refine wpGrow_pure rfl rfl fun opK hopK => ?_
      apply Exists.intro
      constructor
      · intro W hS
        have hl := hS.1.box.cell 0
        go_simp
        try with_reducible rfl
      go_simp
      refine hopK _ ?_
      clear hopK opK
      refine wpGrow_pure rfl rfl fun opK hopK => ?_
      apply Exists.intro
      constructor
      · intro W hS
        go_simp
        try with_reducible rfl
      go_simp
      refine hopK _ ?_
      clear hopK opK
      refine wpGrow_told rfl rfl (fun W hS hD => ?_) (fun x12 opK hopK => ?_)
      · simp [KnowsAll, Knows, Region.binds, upd] at hD
        go_simp
        refine ⟨Gr.refl hS.1.met, (Begin_any W m sb hS.1.shas hS.1.met seed tag pub H.out.1 H.out.2.1 H.out.2.2.1 H.out.2.2.2.1 done lock hS.1.sig k).mono ?_⟩
        rintro e w' ⟨rfl, hw⟩
        exact ⟨rfl, hw⟩
      go_simp
      refine hopK _ ?_
      clear hopK opK
      refine wpGrow_told rfl rfl (fun W hS hD => ?_) (fun x13 opK hopK => ?_)
      · simp [KnowsAll, Knows, Region.binds, upd] at hD
        go_simp
        refine ⟨Gr.refl hS.1.met, (Along_any W m hS.1.shas hS.1.met tag (beginK seed k) H.out.2.1 H.out.2.2.2.2.1 (derive_len _ _ _) (derive_lt _ _ _) k 0 15 (by decide) (by decide) (by decide) (by decide)).mono ?_⟩
        rintro e w' ⟨rfl, hw⟩
        exact ⟨by rw [HQ.out.2.2.2.1]; rfl, hw⟩
      go_simp
      refine hopK _ ?_
      clear hopK opK
      refine wpGrow_told rfl rfl (fun W hS hD => ?_) (fun x14 opK hopK => ?_)
      · simp [KnowsAll, Knows, Region.binds, upd] at hD
        have hb := run_key_row W K HQ.out.2.2.2.2
        go_simp
        exact ⟨Gr.of hS.1.met (grew_alloc W _), Arr.new W 23 _⟩
      go_simp
      refine hopK _ ?_
      clear hopK opK
      refine wpGrow_nil fun W hS hD => ?_
      have hD14 := hD 14 (by decide)
      simp [Knows, upd] at hD14
      clear hD
      obtain ⟨A2, c2, w2, hrun, hk2, hgr, hown⟩ := run_append_key W 39 w.heap.size k c A (tops seed tag k) K (tops_len _ _ _) hS.2.1 hS.2.2.bel.size x14.2.1 hD14 HQ.out.2.2.2.2 (by omega)
      have H2 : Hid (PubRel w m pb sb seed tag pub done lock (.slice A2 (k + 1) c2) (.int .i64 ((k : Int) + 1)) w2) := by
        refine ⟨k + 1, by omega, by go_num, by rw [tops_succ, ← HQ.out.2.2.2.1]; exact hk2, hS.1.grown hgr fun g e => (hown g e).2, hS.2.2.grown hgr fun g e => ⟨(hown g e).1, ?_⟩⟩
        obtain ⟨cs, hc⟩ := (hown g e).2
        exact hS.1.met.ne (E := 23) (V := cs) hc (by decide)
      clear hk2 hgr hown hS hD14
      go_wp2_with (at_builtin; refine Lib.wpList_append_run _ rfl _ _ _ _ rfl _ _ rfl rfl _ _ hrun ?_)
      go_roundw
      case rel => exact H2.out
      case measure => simp [intOf]; omega
    · obtain rfl : k = 67 := by omega
      rw [show ((67 : Nat) : Int) = 67 from rfl]
      obtain ⟨KS, hKS⟩ : ∃ KS, KS = tops seed tag 67 := ⟨_, rfl⟩
      rw [← hKS] at hq
      have HQ := Lib.hid (And.intro hq (And.intro hsig (And.intro hgr hKS)))
      have hlc : (tops seed tag 67).length ≤ c := by rw [tops_len]; exact hle
      have hlc : KS.length ≤ c := by rw [hKS]; exact hlc
      clear hq hle hsig hgr hKS
      go_wp2_with fail
      refine wp_region_grow (R := GrM m) (S := fun W => Sig W m pb sb seed tag pub done lock ∧ GrM m w W ∧ RdM m W A (32 * 67) (KS.flatten.map byt)) 13 (fun opk => match opk with
        | 10 => some ⟨fun (x : Ix) => .agg (keyA (publicK seed tag)), fun (x : Ix) W => True, fun _ _ _ _ _ _ => trivial⟩
        | _ => none) ⟨(none, 0, 0)⟩ (none, 0, 0) (by kernel_rfl) (by kernel_rfl) (fun _ _ hr hS => ⟨hS.1.gr hr, hS.2.1.trans hr, hS.2.2.gr hr⟩) ⟨HQ.out.2.1.drew, HQ.out.2.2.1.drew, ((KRow.rdm ⟨A, c, by rw [HQ.out.2.2.2, tops_len], by rw [HQ.out.2.2.2, tops_len, ← HQ.out.2.2.2]; exact HQ.out.1, hlc⟩ HQ.out.2.1.met (by decide)) : RdM m wr A (32 * 67) (KS.flatten.map byt)).bel (w' := wr.drew) (Gr.refl HQ.out.2.1.met).drew.bel⟩ ?_
      simp only [List.take_succ_cons, List.take_zero, List.drop_succ_cons, List.drop_zero]
      refine wpGrow_pure rfl rfl fun opK hopK => ?_
      apply Exists.intro
      constructor
      · intro W hS
        have hl := hS.1.box.cell 0
        go_simp
        try with_reducible rfl
      go_simp
      refine hopK _ ?_
      clear hopK opK
      refine wpGrow_pure rfl rfl fun opK hopK => ?_
      apply Exists.intro
      constructor
      · intro W hS
        have hl := hS.1.box.cell 0
        go_simp
        try with_reducible rfl
      go_simp
      refine hopK _ ?_
      clear hopK opK
      refine wpGrow_pure rfl rfl fun opK hopK => ?_
      apply Exists.intro
      constructor
      · intro W hS
        go_simp
        try with_reducible rfl
      go_simp
      refine hopK _ ?_
      clear hopK opK
      refine wpGrow_pure rfl rfl fun opK hopK => ?_
      apply Exists.intro
      constructor
      · intro W hS
        go_simp
        try with_reducible rfl
      go_simp
      refine hopK _ ?_
      clear hopK opK
      refine wpGrow_pure rfl rfl fun opK hopK => ?_
      apply Exists.intro
      constructor
      · intro W hS
        have hl := sig_m hS.1.sig
        go_simp
        try with_reducible rfl
      go_simp
      refine hopK _ ?_
      clear hopK opK
      refine wpGrow_pure rfl rfl fun opK hopK => ?_
      apply Exists.intro
      constructor
      · intro W hS
        have hl := hS.1.box.cell 0
        go_simp
        try with_reducible rfl
      go_simp
      refine hopK _ ?_
      clear hopK opK
      refine wpGrow_pure rfl rfl fun opK hopK => ?_
      apply Exists.intro
      constructor
      · intro W hS
        go_simp
        try with_reducible rfl
      go_simp
      refine hopK _ ?_
      clear hopK opK
      refine wpGrow_pure rfl rfl fun opK hopK => ?_
      apply Exists.intro
      constructor
      · intro W hS
        go_simp
        try with_reducible rfl
      go_simp
      refine hopK _ ?_
      clear hopK opK
      refine wpGrow_pure rfl rfl fun opK hopK => ?_
      apply Exists.intro
      constructor
      · intro W hS
        have hl := run_load_mid (P := Tryd.prog) (n := 32) (tag.map byt) (by rw [List.length_map]; exact H.out.2.1) (sig_tag hS.1.sig H.out.1 H.out.2.1 H.out.2.2.1)
        go_simp
        try with_reducible rfl
      go_simp
      refine hopK _ ?_
      clear hopK opK
      refine wpGrow_pure rfl rfl fun opK hopK => ?_
      apply Exists.intro
      constructor
      · intro W hS
        go_simp
        try with_reducible rfl
      go_simp
      refine hopK _ ?_
      clear hopK opK
      refine wpGrow_told rfl rfl (fun W hS hD => ?_) (fun x10 opK hopK => ?_)
      · simp [KnowsAll, Knows, Region.binds, upd] at hD
        go_simp
        refine ⟨Gr.refl hS.1.met, (Ends_any W m hS.1.shas hS.1.met tag H.out.2.1 H.out.2.2.2.2.1 A 67 c KS (by rw [HQ.out.2.2.2, tops_len]) (by rw [HQ.out.2.2.2]; exact tops_keys _ _ _) hS.2.2 (by decide)).mono ?_⟩
        rintro e w' ⟨rfl, hw⟩
        exact ⟨by rw [HQ.out.2.2.2]; rfl, hw⟩
      go_simp
      refine hopK _ ?_
      clear hopK opK
      refine wpGrow_pure rfl rfl fun opK hopK => ?_
      apply Exists.intro
      constructor
      · intro W hS
        go_simp
        try with_reducible rfl
      go_simp
      refine hopK _ ?_
      clear hopK opK
      refine wpGrow_pure rfl rfl fun opK hopK => ?_
      apply Exists.intro
      constructor
      · intro W hS
        go_simp
        try with_reducible rfl
      go_simp
      refine hopK _ ?_
      clear hopK opK
      refine wpGrow_nil fun W hS hD => ?_
      clear hD
      have hsz : (sigA m seed tag pub done lock).size = 100 := sigA_size H.out.1 H.out.2.1 H.out.2.2.1
      have hks : (keyA (publicK seed tag)).toList.length = 32 := by rw [Array.length_toList, keyA_size, publicK_len]
      have hst := run_storeCells_at Tryd.prog sb 68 101 (keyA (publicK seed tag)).toList 0 (sigA m seed tag pub done lock) W hS.1.sig (by rw [hsz, hks]; decide) (keyA_one _)
      rw [sig_setpub H.out.1 H.out.2.1 H.out.2.2.1 (publicK_len _ _)] at hst
      have hks2 : (keyA (publicK seed tag)).size = 32 := by rw [keyA_size, publicK_len]
      have HS := Lib.hid hS
      clear hS hsz hks
      go_wp2
      go_end0
      exact ⟨rfl, W, HS.out.2.1, HS.out.1, rfl⟩
end Go.Proofs.YtejifhdkgfilgaaDoor
