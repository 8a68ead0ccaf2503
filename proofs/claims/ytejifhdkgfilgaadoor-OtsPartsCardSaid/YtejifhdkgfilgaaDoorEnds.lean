/- The public key of chains' ends. -/
import Derived.Test.YtejifhdkgfilgaaDoorBegin
namespace Go.Proofs.YtejifhdkgfilgaaDoor
open Go.RowKit
/-- a slice of bytes of the call's own, or a whole array that is full -/
def Buf (w : World) (base : Nat) (A : Option Addr) (T c : Nat) (xs : List Value) : Prop :=
  QRow w base 5 1 (.slice A T c) T xs ∨ (c = T ∧ 0 < T ∧ xs.length = T ∧ ∃ b t, A = some ⟨b, 0, none⟩ ∧ b = base ∧ Arr w b t xs.toArray ∧ t = 23)
theorem Buf.below {w w' : World} {base : Nat} {A : Option Addr} {T c : Nat} {xs : List Value} (h : Buf w base A T c xs) (hr : Grew w w') : Buf w' base A T c xs := by
  rcases h with h | ⟨h1, h2, h3, b, t, h4, h5, h6, h7⟩
  · exact .inl (h.grew hr)
  · exact .inr ⟨h1, h2, h3, b, t, h4, h5, h6.below hr, h7⟩
theorem Buf.rdm {t : TypeId} {f : Int → Array Value} {m : Nat} {w : World} {base : Nat} {A : Option Addr} {T c : Nat} {xs : List Value} (h : Buf w base A T c xs) (hc : Cnt t f w m) (h5 : 5 ≠ t) (h23 : 23 ≠ t) : RdM m w A T xs := by
  rcases h with h | ⟨_, _, h3, b, t', rfl, _, h6, h7⟩
  · exact RdM.row h hc h5
  · subst h7
    have := RdM.arr (n := T) h6 hc h23 (by simpa using h3)
    simpa using this
theorem grown_weak {w w' : World} {row : Option Nat} (h : w.grownBy w' none) : w.grownBy w' row := ⟨h.os, h.tape, h.output, h.size, fun k hk _ => h.block k hk (by simp)⟩
theorem run_append_buf {P : Program} (w : World) (t ty : TypeId) (i : TypeInfo) (ht : P.underlying t = some (.slice 5)) (hi : P.info? 5 = some i) (hz : i.zero = some (.int .u8 0)) (hsize : i.size = 1) (hby : i.bytes = 1)
    (base T c : Nat) (A : Option Addr) (xs : List Value) (hb : Buf w base A T c xs) (hbase : base ≤ w.heap.size) (B : Nat) (A0 : Option Addr) (m c0 : Nat) (news : List Value) (hr : Rd w B A0 m news) (h1 : ∀ u ∈ news, u.oneCell' = true) (hm : 0 < m) (hT : T + m ≤ 140737488355328) :
    ∃ A' cap w', (Builtin.append_ #[t, t] ty #[.slice A T c, .slice A0 m c0]).run P w = .ok (.slice A' (T + m) cap) w' ∧ QRow w' base 5 1 (.slice A' (T + m) cap) (T + m) (xs ++ news) ∧ w.grownBy w' (Value.slice A T c).ownBlock ∧ T + m ≤ cap := by
  rcases hb with hq | ⟨rfl, h0, hx, b, tb, rfl, hbb, ha, _⟩
  · exact run_append_bytes w t ty 5 i (.int .u8 0) 1 ht hi hz hsize hby rfl base T _ _ hq hbase B A0 m c0 news hr h1 (by unfold maxLen; omega) (by omega)
  · obtain ⟨a, rfl, _, hc⟩ := hr.at_ hm
    obtain ⟨v', w', r0, r1, r2⟩ := run_append_arg_grows (P := P) w t ty 5 i (.int .u8 0) 1 1 ht hi hz hsize hby rfl (by decide) ⟨b, 0, none⟩ c c xs (by omega) (fun j u hu => by rw [Addr.add_lit, Nat.zero_add, ha.cell]; simpa using hu) a m c0 news (by rw [hr.len]; omega) hc (by omega) (by unfold maxLen; omega) (by omega)
    have hq := (QRow.of_own r1).base hbase
    rcases hq.form with ⟨_, e⟩ | ⟨g, off, cap, cur, hv, hg, hh, hn, r⟩
    · omega
    · subst hv
      exact ⟨_, cap, w', r0, hq, grown_weak r2, hn⟩
/-- keys, one behind the other -/
def KeysB (KS : List (List Nat)) : Prop := ∀ k ∈ KS, k.length = 32 ∧ ∀ b ∈ k, b < 256
theorem keys_len {KS : List (List Nat)} (h : KeysB KS) : KS.flatten.length = 32 * KS.length := by
  induction KS with
  | nil => rfl
  | cons k KS ih =>
    rw [List.flatten_cons, List.length_append, (h k (List.mem_cons_self ..)).1, ih fun x hx => h x (List.mem_cons_of_mem _ hx), List.length_cons]
    omega
theorem keys_get {KS : List (List Nat)} (h : KeysB KS) {k : Nat} (hk : k < KS.length) (j : Nat) (hj : j < 32) : KS.flatten[k * 32 + j]? = KS[k][j]? := by
  induction KS generalizing k with
  | nil => simp at hk
  | cons x KS ih =>
    have hx := (h x (List.mem_cons_self ..)).1
    rw [List.flatten_cons]
    cases k with
    | zero => rw [List.getElem?_append_left (by omega)]; simp
    | succ k =>
      rw [List.getElem?_append_right (by omega), show (k + 1) * 32 + j - x.length = k * 32 + j from by omega, ih (fun y hy => h y (List.mem_cons_of_mem _ hy)) (by simpa using hk)]
      simp
theorem keys_lt {KS : List (List Nat)} (h : KeysB KS) : ∀ b ∈ KS.flatten, b < 256 := fun b hb => by
  obtain ⟨k, hk, hb⟩ := List.mem_flatten.1 hb
  exact (h k hk).2 b hb
/-- the k-th key of a slice of keys, read -/
theorem run_load_key {P : Program} {m : Nat} {w : World} {a : Addr} {n : Nat} {KS : List (List Nat)} (hKS : KeysB KS) (hr : RdM m w (some a) n (KS.flatten.map byt)) {k : Nat} (hk : k < KS.length) : (loadCellsFrom (a.add (k * 32)) 0 32 #[]).run P w = .ok (keyA KS[k]) w := by
  have hl := keys_len hKS
  have hn : 0 < n := by rw [← hr.len, List.length_map, hl]; omega
  obtain ⟨a', e, _, _, hc⟩ := hr.at_ hn
  cases e
  have h32 := (hKS _ (List.getElem_mem hk)).1
  have := run_loadCells_list (P := P) (w := w) (a.add (k * 32)) (KS[k].map byt) (fun j v hv => by
    have hj := (List.getElem?_eq_some_iff.1 hv).1
    rw [List.length_map, h32] at hj
    rw [add_add_]
    refine hc (k * 32 + j) v ?_
    rw [List.getElem?_map, keys_get hKS hk j hj]
    simpa using hv)
  rw [List.length_map, h32] at this
  simpa [loadCells, keyA] using this
def EndsRel (w : World) (tag : List Nat) (KS : List (List Nat)) (n : Nat) (v i : Value) (wr : World) : Prop :=
  ∃ (k : Nat) (A : Option Addr) (c : Nat), k ≤ n ∧ i = .int .i64 k ∧ v = .slice A (32 + 32 * k) c ∧ Buf wr w.heap.size A (32 + 32 * k) c ((tag ++ (KS.take k).flatten).map byt) ∧ 32 + 32 * k ≤ c ∧ Arr wr (w.heap.size + 1) 23 (keyA (List.replicate 32 0)) ∧ Below w.heap.size w wr
attribute [-go_sem] loadCellsFrom storeCells
attribute [local go_sem] storeCells_one
set_option maxRecDepth 100000 in
set_option maxHeartbeats 1000000 in
theorem Ends_any (w : World) (m : Nat) (hg : Shas w) (hm : Met w m) (tag : List Nat) (ht : tag.length = 32) (htb : ∀ b ∈ tag, b < 256) (Ak : Option Addr) (n ck : Nat) (KS : List (List Nat)) (hn : KS.length = n) (hKS : KeysB KS) (hr : RdM m w Ak (32 * n) (KS.flatten.map byt)) (hn1 : n ≤ 1000) :
    Calls Tryd.prog 55 #[.pointer (some ⟨m, 0, none⟩), .agg (keyA tag), .slice Ak n ck] w fun e w' => e = .returned (.agg (keyA (digest (tag ++ KS.flatten)))) ∧ GrM m w w' := by
  have H := Lib.hid (And.intro hg (And.intro hm (And.intro ht (And.intro htb (And.intro hn (And.intro hKS hr))))))
  clear hg hm ht htb hn hKS hr
  go_enter Tryd.func55, Tryd.ntmps55
  go_wp2_with fail
  rw [zeros32]
  obtain ⟨W0, hW0⟩ : ∃ W0, W0 = (w.alloc (.cells (keyA tag) 23)).alloc (.cells (keyA (List.replicate 32 0)) 23) := ⟨_, rfl⟩
  rw [← hW0]
  have H0 : Hid (EndsRel w tag KS n (.slice (some ⟨w.heap.size, 0, none⟩) 32 32) (.int .i64 ((0 : Nat) : Int)) W0) := by
    refine ⟨0, _, 32, Nat.zero_le _, rfl, rfl, .inr ⟨rfl, by decide, by simp [H.out.2.2.1], w.heap.size, 23, rfl, rfl, ?_, rfl⟩, by decide, ?_, ?_⟩
    · rw [hW0]
      have : (tag ++ (KS.take 0).flatten).map byt = tag.map byt := by simp
      rw [this]
      exact (Arr.new w 23 _).alloc _
    · rw [hW0]; exact Arr.new_at _ 23 _ (by simp)
    · rw [hW0]; exact ((Below.refl _ w).alloc (Nat.le_refl _) _).alloc (by simp) _
  clear hW0
  go_loopw [7, 13] (fun v i wr => EndsRel w tag KS n v i wr) (fun _ i _ => n - (intOf i).toNat)
  case atStart => exact H0.out
  case round =>
    obtain ⟨k, A, c, hk, rfl, rfl, hq, hle, hz, hbw⟩ := hrel
    by_cases hlt : k < n
    · have hkK : k < KS.length := by rw [H.out.2.2.2.2.1]; exact hlt
      have hrw : RdM m wr Ak (32 * n) (KS.flatten.map byt) := by
        refine ⟨H.out.2.2.2.2.2.2.len, fun h0 => ?_⟩
        obtain ⟨a, e, hal, hne, hc⟩ := H.out.2.2.2.2.2.2.at_ h0
        exact ⟨a, e, Nat.lt_of_lt_of_le hal hbw.size, hne, fun j u hu => (hbw.cell (p := a.add j) (by rw [add_block]; exact hal)).trans (hc j u hu)⟩
      obtain ⟨a, rfl, _, _, _⟩ := H.out.2.2.2.2.2.2.at_ (by omega)
      have hl := run_load_key (P := Tryd.prog) H.out.2.2.2.2.2.1 hrw hkK
      obtain ⟨K, hK⟩ : ∃ K, K = KS[k] := ⟨_, rfl⟩
      rw [← hK] at hl
      have hKl : K.length = 32 := by rw [hK]; exact (H.out.2.2.2.2.2.1 _ (List.getElem_mem _)).1
      have hKs : (keyA K).size = 32 := by rw [keyA_size, hKl]
      have hst := fun z (hzz : Array.size z = 32) => store_new (P := Tryd.prog) wr 23 z (keyA K) (by rw [hzz, hKs]) (keyA_one K)
      obtain ⟨i0, hi, hz0, hz1, hz2⟩ := info_parts info5
      obtain ⟨W1, hW1⟩ : ∃ W1, W1 = wr.alloc (.cells (keyA K) 23) := ⟨_, rfl⟩
      have g1 : Grew wr W1 := by rw [hW1]; exact grew_alloc wr _
      have rK : Rd W1 W1.heap.size (some ⟨wr.heap.size, 0, none⟩) 32 (K.map byt) := by
        rw [hW1]
        have := (Arr.new wr 23 (keyA K)).rdv (n := 32) hKs
        simpa [keyA] using this
      obtain ⟨A2, c2, w2, hrun, hq2, hgr, hle2⟩ := run_append_buf (P := Tryd.prog) W1 57 57 i0 Tryd.underlying57 hi hz0 hz1 hz2 w.heap.size (32 + 32 * k) c A _ (hq.below g1) (Nat.le_trans hbw.size g1.size) _ _ 32 32 (K.map byt) rK (by simp [byt, Value.oneCell']) (by decide) (by omega)
      have H2 : Hid (EndsRel w tag KS n (.slice A2 (32 + 32 * k + 32) c2) (.int .i64 ((k : Int) + 1)) w2) := by
        have hown : ∀ g, (Value.slice A (32 + 32 * k) c).ownBlock = some g → w.heap.size ≤ g ∧ g < W1.heap.size ∧ g ≠ w.heap.size + 1 := by
          intro g e
          have hz1 := (hz.below g1)
          rcases hq.below g1 with h | ⟨_, _, _, b, t, rfl, h5, h6, h7⟩
          · have := h.lt g e
            refine ⟨this.1, this.2, ?_⟩
            rcases h.form with ⟨e1, _⟩ | ⟨g', off, cap', cur, hv, hb, hh, _⟩
            · injection e1 with e1; subst e1; simp [Value.ownBlock] at e
            · rw [hv] at e; simp [Value.ownBlock] at e; subst e
              exact Cells.ne (w := W1) ⟨cur, hh⟩ ⟨_, hz1⟩ (by decide)
          · simp [Value.ownBlock] at e
            subst e
            have := h6.lt
            omega
        have hb2 : Below w.heap.size w w2 := (hbw.trans (g1.mono hbw.size)).grown hgr (Nat.le_trans hbw.size g1.size) fun g e => (hown g e).1
        refine ⟨k + 1, A2, c2, by omega, by go_num, by congr 1, ?_, by omega, ?_, hb2⟩
        · left
          rw [List.take_succ_eq_append_getElem hkK, List.flatten_append, ← hK]
          have e : (tag ++ ((KS.take k).flatten ++ [K].flatten)).map byt = (tag ++ (KS.take k).flatten).map byt ++ K.map byt := by simp
          rw [e]
          exact hq2
        · exact (hz.below g1).keep (hgr.block _ (hz.below g1).lt fun e => (hown _ e.symm).2.2 rfl)
      clear hi hz0 hz1 hz2 hq hle hz hbw hK hKl hrw g1 rK hq2 hgr hle2
      go_wp2_with (at_builtin; (try rw [← hW1]); refine Lib.wpList_append_run _ rfl _ _ _ _ rfl _ _ rfl rfl _ _ hrun ?_)
      go_roundw
      case rel => exact H2.out
      case measure => simp [intOf]; omega
    · obtain rfl : k = n := by omega
      have hKt : KS.take k = KS := by rw [← H.out.2.2.2.2.1, List.take_length]
      obtain ⟨T, hT⟩ : ∃ T, T = 32 + 32 * k := ⟨_, rfl⟩
      rw [hKt, ← hT] at hq
      rw [← hT] at hle ⊢
      have hTb : T ≤ 40000 := by omega
      obtain ⟨W1, hW1⟩ : ∃ W1, W1 = wr.alloc (.cells #[.slice A T c] 57) := ⟨_, rfl⟩
      have g1 : Grew wr W1 := by rw [hW1]; exact grew_alloc wr _
      have gw : Grew w W1 := hbw.trans (g1.mono hbw.size)
      have mt : Met W1 m := H.out.2.1.grew gw
      have hr1 : RdM m W1 (some ⟨wr.heap.size, 0, none⟩) 1 [.slice A T c] := by
        have h : Arr W1 wr.heap.size 57 #[.slice A T c] := by rw [hW1]; exact Arr.new wr 57 _
        exact RdM.arr h mt (by decide) rfl
      have R1 : RowsM m W1 [.slice A T c] [tag ++ KS.flatten] := .cons ((hq.below g1).rdm mt (by decide) (by decide)) hle .nil_
      have hbb : ∀ ys ∈ [tag ++ KS.flatten], ∀ b ∈ ys, b < 256 := fun ys hy b hb => by
        simp only [List.mem_singleton] at hy
        subst hy
        rcases List.mem_append.1 hb with h | h
        · exact H.out.2.2.2.1 b h
        · exact keys_lt H.out.2.2.2.2.2.1 b h
      have hfl : [tag ++ KS.flatten].flatten.length ≤ 140737488000000 := by
        simp only [List.flatten_cons, List.flatten_nil, List.append_nil, List.length_append, H.out.2.2.1, keys_len H.out.2.2.2.2.2.1, H.out.2.2.2.2.1]; omega
      have HQ := Lib.hid (And.intro hr1 (And.intro R1 (And.intro hbb (And.intro hfl (And.intro gw (And.intro mt (And.intro (hz.below g1) hW1)))))))
      have HT := Lib.hid hT
      clear hq hle hz hbw hr1 R1 hbb hfl gw mt g1 hW1 hKt hT
      go_wp2_with fail
      rw [← HQ.out.2.2.2.2.2.2.2]
      refine (Sum_any W1 m (H.out.1.below HQ.out.2.2.2.2.1) HQ.out.2.2.2.2.2.1 _ 1 1 _ _ HQ.out.1.rd HQ.out.2.1 HQ.out.2.2.2.1 (by decide) HQ.out.2.2.1).mono ?_
      rintro e W2 ⟨rfl, hg2⟩
      have zK := HQ.out.2.2.2.2.2.2.1.gr HQ.out.2.2.2.2.2.1 hg2 (by decide)
      obtain ⟨F, hF⟩ : ∃ F, F = digest [tag ++ KS.flatten].flatten := ⟨_, rfl⟩
      rw [← hF]
      have hFl : F.length = 32 := by rw [hF]; exact digest_len _
      have hFs : (keyA F).size = 32 := by rw [keyA_size, hFl]
      have hst := zK.store (P := Tryd.prog) (V := keyA F) (by rw [keyA_size, hFs]; rfl) (keyA_one _)
      have hl2 := (zK.setRow (keyA F)).load (P := Tryd.prog) (n := 32) hFs
      have HK := Lib.hid (And.intro hF ((Gr.of H.out.2.1 HQ.out.2.2.2.2.1).trans hg2))
      clear hF hFl zK
      go_simp
      go_wp2
      refine bodyPost_ret (v := .agg (keyA F)) (by simp [results, Tryd.results55, go_sem, hl2, hFs]) rfl ⟨?_, gr_setRow HK.out.2 (Nat.le_succ _) (H.out.2.1.lt) _⟩
      rw [HK.out.1]
      simp
end Go.Proofs.YtejifhdkgfilgaaDoor
