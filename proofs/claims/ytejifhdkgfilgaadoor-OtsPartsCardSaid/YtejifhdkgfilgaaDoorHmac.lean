/- A keyed digest. -/
import Derived.Test.YtejifhdkgfilgaaDoorPadded
namespace Go.Proofs.YtejifhdkgfilgaaDoor
open Go.RowKit
def hmac (k b : List Nat) : List Nat := digest (mixB k 0x5c ++ digest (mixB k 0x36 ++ b))
theorem hmac_len (k b : List Nat) : (hmac k b).length = 32 := digest_len _
theorem hmac_lt (k b : List Nat) : ∀ x ∈ hmac k b, x < 256 := digest_lt _
theorem NewRow.rdm {t : TypeId} {f : Int → Array Value} {m : Nat} {w : World} {b n : Nat} {xs : List Nat} (h : NewRow xs w b) (hc : Cnt t f w m) (ht : 5 ≠ t) (hn : xs.length = n) : RdM m w (some ⟨b, 0, none⟩) n (xs.map byt) := by
  have := RdM.arr (n := n) h hc ht (by simpa using hn)
  simpa using this
theorem bel_alloc (m : Nat) (w : World) (o : Obj) : Bel m w (w.alloc o) := Bel.of ((Below.refl _ _).alloc (Nat.le_refl _) _)
theorem grew_alloc (w : World) (o : Obj) : Grew w (w.alloc o) := (Below.refl _ _).alloc (Nat.le_refl _) _
theorem gr_setRow {t : TypeId} {f : Int → Array Value} {m b : Nat} {w w' : World} (h : Gr t f m w w') (hb : w.heap.size ≤ b) (hm : m < w.heap.size) (V : Array Value) : Gr t f m w (w'.setRow b V) := by
  obtain ⟨⟨h1, h2, h4, h5, h6⟩, c, hc⟩ := h
  refine ⟨⟨h1, h2, h4, by rw [setRow_size]; exact h5, fun k hk hn => ?_⟩, c, hc.setRowOther (by omega) _⟩
  rw [heap_setRow_other _ _ _ _ (by omega)]
  exact h6 k hk hn
theorem Cnt.lt {t : TypeId} {f : Int → Array Value} {m : Nat} {w : World} (h : Cnt t f w m) : m < w.heap.size := h.choose_spec.lt
theorem store_new {P : Program} (W : World) (t : TypeId) (z V : Array Value) (hz : z.size = V.size) (h1 : ∀ v ∈ V.toList, v.oneCell' = true) :
    (storeCells ⟨W.heap.size, 0, none⟩ V.toList 0).run P (W.alloc (.cells z t)) = .ok () (W.alloc (.cells V t)) := by
  rw [(Arr.new W t z).store hz h1, World.setRow_alloc_new]
theorem zeros32 : (#[Value.int IntKind.u8 0, Value.int IntKind.u8 0, Value.int IntKind.u8 0, Value.int IntKind.u8 0, Value.int IntKind.u8 0, Value.int IntKind.u8 0, Value.int IntKind.u8 0, Value.int IntKind.u8 0,
    Value.int IntKind.u8 0, Value.int IntKind.u8 0, Value.int IntKind.u8 0, Value.int IntKind.u8 0, Value.int IntKind.u8 0, Value.int IntKind.u8 0, Value.int IntKind.u8 0, Value.int IntKind.u8 0,
    Value.int IntKind.u8 0, Value.int IntKind.u8 0, Value.int IntKind.u8 0, Value.int IntKind.u8 0, Value.int IntKind.u8 0, Value.int IntKind.u8 0, Value.int IntKind.u8 0, Value.int IntKind.u8 0,
    Value.int IntKind.u8 0, Value.int IntKind.u8 0, Value.int IntKind.u8 0, Value.int IntKind.u8 0, Value.int IntKind.u8 0, Value.int IntKind.u8 0, Value.int IntKind.u8 0, Value.int IntKind.u8 0] : Array Value) = keyA (List.replicate 32 0) := rfl
attribute [-go_sem] loadCellsFrom storeCells
attribute [local go_sem] storeCells_one
set_option maxRecDepth 100000 in
set_option maxHeartbeats 400000 in
theorem Hmac_any (w : World) (m : Nat) (hg : Shas w) (hm : Met w m) (Ak Ar : Option Addr) (nk ck nr cr : Nat) (xs : List Nat) (us : List Value) (L : List (List Nat)) (hk : RdM m w Ak nk (xs.map byt)) (hr : RdM m w Ar nr us) (hR : RowsM m w us L)
    (hnk : nk ≤ 64) (hT : L.flatten.length ≤ 140737487000000) (hnr : nr ≤ 140737487000000) (hbk : ∀ b ∈ xs, b < 256) (hb : ∀ xs ∈ L, ∀ b ∈ xs, b < 256) :
    Calls Tryd.prog 95 #[.pointer (some ⟨m, 0, none⟩), .slice Ak nk ck, .slice Ar nr cr] w fun e w' => e = .returned (.agg (keyA (hmac xs L.flatten))) ∧ GrM m w w' := by
  have H := Lib.hid (And.intro hg (And.intro hm (And.intro hk (And.intro hr (And.intro hR (And.intro hbk hb))))))
  have hxl : xs.length ≤ 64 := by have := hk.len; simp at this; omega
  clear hg hm hk hr hR hbk hb
  go_enter Tryd.func95, Tryd.ntmps95
  go_wp2_with fail
  rw [zeros32]
  generalize hW0 : World.alloc _ _ = W0
  have a0 : Arr W0 w.heap.size 23 (keyA (List.replicate 32 0)) := by rw [← hW0]; exact Arr.new w 23 _
  have b0 : Grew w W0 := by rw [← hW0]; exact grew_alloc w _
  have H0 := Lib.hid (And.intro a0 (And.intro b0 (H.out.2.1.grew b0)))
  clear a0 b0 hW0
  go_wp2_with fail
  refine (padded_any W0 m _ Ak nk ck 92 xs (H.out.2.2.1.grew H0.out.2.1).rd hnk H.out.2.2.2.2.2.1 (by decide)).mono ?_
  rintro e W1 ⟨bo, rfl, ho, hb1⟩
  have H1 := Lib.hid (And.intro ho (And.intro (H0.out.2.1.trans (hb1.mono H0.out.2.1.size)) (H0.out.1.below hb1)))
  clear ho hb1
  go_wp2_with fail
  refine (padded_any W1 m _ Ak nk ck 54 xs (H.out.2.2.1.grew H1.out.2.1).rd hnk H.out.2.2.2.2.2.1 (by decide)).mono ?_
  rintro e W2 ⟨bi, rfl, hi, hb2⟩
  have H2 := Lib.hid (And.intro hi (And.intro (H1.out.1.keep hb2) (And.intro (H1.out.2.1.trans (hb2.mono H1.out.2.1.size)) (H1.out.2.2.below hb2))))
  clear hi hb2
  obtain ⟨T, hT2⟩ : ∃ T, L.flatten.length = T := ⟨_, rfl⟩
  have HT := Lib.hid hT2
  rw [hT2] at hT
  clear hT2
  go_wp2_with fail
  refine (Join_any W2 _ Ar nr cr us L (Nat.le_refl _) (H.out.2.2.2.1.grew H2.out.2.2.1).rd (H.out.2.2.2.2.1.bel (Bel.of H2.out.2.2.1)).rows T HT.out (by omega) (by omega)).mono ?_
  rintro e W3 ⟨A3, c3, rfl, hq, hc3, hb3⟩
  have g3 : Grew w W3 := H2.out.2.2.1.trans (hb3.mono H2.out.2.2.1.size)
  have m3 : Met W3 m := H.out.2.1.grew g3
  obtain ⟨W4, hW4⟩ : ∃ W4, W4 = W3.alloc (.cells #[.slice (some ⟨bi, 0, none⟩) 64 64, .slice A3 T c3] 57) := ⟨_, rfl⟩
  have g34 : Grew W3 W4 := by rw [hW4]; exact grew_alloc W3 _
  have r4 : Rd W4 W4.heap.size (some ⟨W3.heap.size, 0, none⟩) 2 [.slice (some ⟨bi, 0, none⟩) 64 64, .slice A3 T c3] := by rw [hW4]; exact (Arr.new W3 57 _).rdv rfl
  have R4 : RowsM m W4 [.slice (some ⟨bi, 0, none⟩) 64 64, .slice A3 T c3] [mixB xs 54, L.flatten] :=
    .cons (((H2.out.1.keep hb3).keep g34).rdm (m3.grew g34) (by decide) (mixB_len hxl _)) (Nat.le_refl _) (.cons (RdM.row (hq.grew g34) (m3.grew g34) (by decide)) hc3 .nil_)
  have hbb : ∀ ys ∈ [mixB xs 54, L.flatten], ∀ b ∈ ys, b < 256 := fun ys hy b hb => by
    simp only [List.mem_cons, List.not_mem_nil, or_false] at hy
    rcases hy with rfl | rfl
    · exact mixB_lt H.out.2.2.2.2.2.1 (by decide) b hb
    · obtain ⟨zs, hz, hb⟩ := List.mem_flatten.1 hb
      exact H.out.2.2.2.2.2.2 zs hz b hb
  have hl4 : [mixB xs 54, L.flatten].flatten.length ≤ 140737488000000 := by simp only [List.flatten_cons, List.flatten_nil, List.append_nil, List.length_append, mixB_len hxl, HT.out]; omega
  have ho3 := (H2.out.2.1.keep hb3).keep g34
  have a4 := (H2.out.2.2.2.below hb3).below g34
  have H4 := Lib.hid (And.intro hl4 (And.intro r4 (And.intro R4 (And.intro hbb (And.intro ho3 (And.intro a4 (And.intro (g3.trans (g34.mono g3.size)) hW4)))))))
  clear hl4 r4 R4 hbb ho3 a4 g34 hW4 hq hc3 hb3 g3 m3
  go_wp2_with fail
  rw [← H4.out.2.2.2.2.2.2.2]
  refine (Sum_any W4 m (H.out.1.below H4.out.2.2.2.2.2.2.1) (H.out.2.1.grew H4.out.2.2.2.2.2.2.1) _ 2 2 _ _ H4.out.2.1 H4.out.2.2.1 H4.out.1 (by decide) H4.out.2.2.2.1).mono ?_
  rintro e W5 ⟨rfl, hg5⟩
  obtain ⟨D, hD⟩ : ∃ D, D = digest [mixB xs 54, L.flatten].flatten := ⟨_, rfl⟩
  rw [← hD]
  have hDl : D.length = 32 := by rw [hD, digest_len]
  have hDb : ∀ b ∈ D, b < 256 := by rw [hD]; exact digest_lt _
  have hDs : (keyA D).size = 32 := by rw [keyA_size, hDl]
  have hst := fun z (hz : Array.size z = 32) => store_new (P := Tryd.prog) W5 23 z (keyA D) (by rw [hz, hDs]) (keyA_one D)
  have g5 : GrM m w W5 := (Gr.of H.out.2.1 H4.out.2.2.2.2.2.2.1).trans hg5
  have m4 : Met W4 m := H.out.2.1.grew H4.out.2.2.2.2.2.2.1
  have o5 : NewRow (mixB xs 92) W5 bo := Arr.gr H4.out.2.2.2.2.1 m4 hg5 (by decide)
  have a5 := H4.out.2.2.2.2.2.1.gr m4 hg5 (by decide)
  have H5 := Lib.hid (And.intro hD (And.intro hDl (And.intro hDb (And.intro g5 (And.intro o5 a5)))))
  clear hD hDl hDb hg5 g5 m4 o5 a5
  go_simp
  go_wp2_with fail
  obtain ⟨W6, hW6⟩ : ∃ W6, W6 = (W5.alloc (.cells (keyA D) 23)).alloc (.cells #[.slice (some ⟨bo, 0, none⟩) 64 64, .slice (some ⟨W5.heap.size, 0, none⟩) 32 32] 57) := ⟨_, rfl⟩
  have g56 : Grew W5 W6 := by rw [hW6]; exact ((Below.refl _ _).alloc (Nat.le_refl _) _).alloc (by simp) _
  have m6 : Met W6 m := H5.out.2.2.2.1.cnt.grew g56
  have k6 : Arr W6 W5.heap.size 23 (keyA D) := by rw [hW6]; exact (Arr.new W5 23 _).alloc _
  have r6 : Rd W6 W6.heap.size (some ⟨W5.heap.size + 1, 0, none⟩) 2 [.slice (some ⟨bo, 0, none⟩) 64 64, .slice (some ⟨W5.heap.size, 0, none⟩) 32 32] := by rw [hW6]; exact (Arr.new_at _ 57 _ (by simp)).rdv rfl
  have R6 : RowsM m W6 [.slice (some ⟨bo, 0, none⟩) 64 64, .slice (some ⟨W5.heap.size, 0, none⟩) 32 32] [mixB xs 92, D] :=
    .cons ((H5.out.2.2.2.2.1.keep g56).rdm m6 (by decide) (mixB_len hxl _)) (Nat.le_refl _) (.cons (by have := RdM.key k6 m6 (by decide); rw [H5.out.2.1] at this; exact this) (Nat.le_refl _) .nil_)
  have hbb : ∀ ys ∈ [mixB xs 92, D], ∀ b ∈ ys, b < 256 := fun ys hy b hb => by
    simp only [List.mem_cons, List.not_mem_nil, or_false] at hy
    rcases hy with rfl | rfl
    · exact mixB_lt H.out.2.2.2.2.2.1 (by decide) b hb
    · exact H5.out.2.2.1 b hb
  have hl6 : [mixB xs 92, D].flatten.length ≤ 140737488000000 := by simp only [List.flatten_cons, List.flatten_nil, List.append_nil, List.length_append, mixB_len hxl, H5.out.2.1]; omega
  have H6 := Lib.hid (And.intro r6 (And.intro R6 (And.intro hbb (And.intro hl6 (And.intro g56 hW6)))))
  clear r6 R6 hbb hl6 g56 hW6 m6 k6
  rw [← H6.out.2.2.2.2.2]
  refine (Sum_any W6 m ((H.out.1.gr H.out.2.1 H5.out.2.2.2.1).below H6.out.2.2.2.2.1) (H5.out.2.2.2.1.cnt.grew H6.out.2.2.2.2.1) _ 2 2 _ _ H6.out.1 H6.out.2.1 H6.out.2.2.2.1 (by decide) H6.out.2.2.1).mono ?_
  rintro e W7 ⟨rfl, hg7⟩
  have h7 : Arr W7 w.heap.size 23 (keyA (List.replicate 32 0)) := (H5.out.2.2.2.2.2.below H6.out.2.2.2.2.1).gr (H5.out.2.2.2.1.cnt.grew H6.out.2.2.2.2.1) hg7 (by decide)
  obtain ⟨F, hF⟩ : ∃ F, F = digest [mixB xs 92, D].flatten := ⟨_, rfl⟩
  rw [← hF]
  have hFl : F.length = 32 := by rw [hF, digest_len]
  have hFs : (keyA F).size = 32 := by rw [keyA_size, hFl]
  have hst := h7.store (P := Tryd.prog) (V := keyA F) (by rw [keyA_size, hFs]; rfl) (keyA_one _)
  have hl2 := (h7.setRow (keyA F)).load (P := Tryd.prog) (n := 32) hFs
  have H7 := Lib.hid (And.intro hF ((H5.out.2.2.2.1.trans (Gr.of H5.out.2.2.2.1.cnt H6.out.2.2.2.2.1)).trans hg7))
  clear hF hFl h7 hg7
  go_simp
  go_wp2
  refine bodyPost_ret (v := .agg (keyA F)) (by simp [results, Tryd.results95, go_sem, hl2, hFs]) rfl ⟨?_, gr_setRow H7.out.2 (Nat.le_refl _) H.out.2.1.lt _⟩
  rw [H7.out.1, H5.out.1, hmac]
  simp
end Go.Proofs.YtejifhdkgfilgaaDoor
