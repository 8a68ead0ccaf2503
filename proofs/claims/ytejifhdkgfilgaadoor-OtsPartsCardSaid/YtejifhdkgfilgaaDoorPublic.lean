/- A signer's public key. -/
import Derived.Test.YtejifhdkgfilgaaDoorPubK
namespace Go.Proofs.YtejifhdkgfilgaaDoor
open Go.RowKit
/-- but for two blocks all that was there is as it was -/
structure Bel2 (m b : Nat) (w w' : World) : Prop where
  os : w'.os = w.os
  tape : w'.tape = w.tape
  output : w'.output = w.output
  size : w.heap.size ≤ w'.heap.size
  block : ∀ k, k < w.heap.size → k ≠ m → k ≠ b → w'.heap[k]? = w.heap[k]?
theorem Bel2.of {m b : Nat} {w w' : World} (h : Bel m w w') : Bel2 m b w w' := ⟨h.os, h.tape, h.output, h.size, fun k hk hn _ => h.block k hk hn⟩
theorem Bel2.trans {m b : Nat} {a c d : World} (h : Bel2 m b a c) (k : Bel2 m b c d) : Bel2 m b a d :=
  ⟨k.os.trans h.os, k.tape.trans h.tape, k.output.trans h.output, Nat.le_trans h.size k.size, fun i hi hn hb => (k.block i (Nat.lt_of_lt_of_le hi h.size) hn hb).trans (h.block i hi hn hb)⟩
theorem Bel2.setRow {m b : Nat} (w : World) (V : Array Value) : Bel2 m b w (w.setRow b V) := ⟨rfl, rfl, rfl, by rw [setRow_size]; exact Nat.le_refl _, fun k _ _ hb => heap_setRow_other w b V k hb⟩
theorem Bel2.setCell {m b o : Nat} (w : World) (v : Value) : Bel2 m b w (w.setCell ⟨b, o, none⟩ v) := ⟨rfl, rfl, rfl, by simp [World.setCell], fun k _ _ hb => Below.heap_setCell w _ v k hb⟩
theorem Bel2.drew {m b : Nat} (w : World) : Bel2 m b w w.drew := ⟨rfl, rfl, rfl, Nat.le_refl _, fun _ _ _ _ => rfl⟩
/-- what is made anew, and one block besides -/
theorem Bel2.bel {m b : Nat} {w w' : World} (h : Bel2 m b w w') (hb : w.heap.size ≤ b) : Bel m w w' := ⟨h.os, h.tape, h.output, h.size, fun k hk hn => h.block k hk hn (by omega)⟩
theorem Arr.bel2 {w w' : World} {m b k : Nat} {E : TypeId} {V : Array Value} (h : Arr w k E V) (hr : Bel2 m b w w') (hm : k ≠ m) (hb : k ≠ b) : Arr w' k E V := h.keep (hr.block k h.lt hm hb)
theorem sig_done {w : World} {sb m : Nat} {seed tag pub : List Nat} {done lock : Int} (h : Arr w sb 101 (sigA m seed tag pub done lock)) (hs : seed.length = 32) (ht : tag.length = 32) (hp : pub.length = 32) (d : Int) : Arr (w.setCell ⟨sb, 65, none⟩ (.int .u32 d)) sb 101 (sigA m seed tag pub d lock) := by
  have e : (sigA m seed tag pub done lock).setIfInBounds 65 (.int .u32 d) = sigA m seed tag pub d lock := by
    apply Array.ext_getElem?
    intro i
    rw [Array.getElem?_setIfInBounds, sig_get hs ht hp, sig_get hs ht hp, sigA_size hs ht hp]
    by_cases h1 : 65 = i
    · subst h1; rfl
    · rw [if_neg h1]
      by_cases h2 : i < 65
      · rw [if_pos h2, if_pos h2]
      · rw [if_neg h2, if_neg h2]
        by_cases h3 : i = 66 ∨ i = 67
        · rcases h3 with rfl | rfl <;> rfl
        · rw [if_neg (show ¬ i < 68 by omega), if_neg (show ¬ i < 68 by omega)]
  have := heap_setCell_same w sb 65 (.int .u32 d) (sigA m seed tag pub done lock) 101 (0, 0) h
  rw [e] at this
  exact this
theorem sig_lock {w : World} {sb m : Nat} {seed tag pub : List Nat} {done lock : Int} (h : Arr w sb 101 (sigA m seed tag pub done lock)) (hs : seed.length = 32) (ht : tag.length = 32) (hp : pub.length = 32) (d : Int) : Arr (w.setCell ⟨sb, 66, none⟩ (.int .i32 d)) sb 101 (sigA m seed tag pub done d) := by
  have e : (sigA m seed tag pub done lock).setIfInBounds 66 (.int .i32 d) = sigA m seed tag pub done d := by
    apply Array.ext_getElem?
    intro i
    rw [Array.getElem?_setIfInBounds, sig_get hs ht hp, sig_get hs ht hp, sigA_size hs ht hp]
    by_cases h1 : 66 = i
    · subst h1; rfl
    · rw [if_neg h1]
      by_cases h2 : i < 65
      · rw [if_pos h2, if_pos h2]
      · rw [if_neg h2, if_neg h2]
        by_cases h3 : i = 65 ∨ i = 67
        · rcases h3 with rfl | rfl <;> rfl
        · rw [if_neg (show ¬ i < 68 by omega), if_neg (show ¬ i < 68 by omega)]
  have := heap_setCell_same w sb 66 (.int .i32 d) (sigA m seed tag pub done lock) 101 (0, 0) h
  rw [e] at this
  exact this
theorem sig_c65 {w : World} {sb m : Nat} {seed tag pub : List Nat} {done lock : Int} (h : Arr w sb 101 (sigA m seed tag pub done lock)) (hs : seed.length = 32) (ht : tag.length = 32) (hp : pub.length = 32) : w.cell? ⟨sb, 65, none⟩ = some (.int .u32 done) := by rw [h.cell, sig_get hs ht hp]; rfl
theorem sig_c66 {w : World} {sb m : Nat} {seed tag pub : List Nat} {done lock : Int} (h : Arr w sb 101 (sigA m seed tag pub done lock)) (hs : seed.length = 32) (ht : tag.length = 32) (hp : pub.length = 32) : w.cell? ⟨sb, 66, none⟩ = some (.int .i32 lock) := by rw [h.cell, sig_get hs ht hp]; rfl
attribute [-go_sem] loadCellsFrom storeCells
attribute [local go_sem] storeCells_one
set_option maxRecDepth 100000 in
set_option maxHeartbeats 1000000 in
theorem Public_first (w : World) (m sb : Nat) (hg : Shas w) (hm : Met w m) (seed tag pub : List Nat) (hs : seed.length = 32) (ht : tag.length = 32) (hp : pub.length = 32) (hsb : ∀ b ∈ seed, b < 256) (htb : ∀ b ∈ tag, b < 256) (ha : Arr w sb 101 (sigA m seed tag pub 0 0)) :
    Calls Tryd.prog 21 #[.pointer (some ⟨sb, 0, none⟩)] w fun e w' => e = .returned (.agg (keyA (publicK seed tag))) ∧ Bel2 m sb w w' ∧ Met w' m ∧ Arr w' sb 101 (sigA m seed tag (publicK seed tag) 1 0) := by
  have H := Lib.hid (And.intro hs (And.intro ht (And.intro hp (And.intro hsb (And.intro htb (And.intro hg (And.intro hm ha)))))))
  clear hs ht hp hsb htb hg hm ha
  have hmf : ∀ (fn : Fn) (first cap : Array Value) (w : World), (Instr.makeFunc fn first cap).run Tryd.prog w = .ok (.func fn first cap) w := fun _ _ _ _ => rfl
  have hbx := fun z => ((Arr.new w 36 #[Value.pointer (some ⟨sb, 0, none⟩)]).alloc (.cells z 23)).cell 0
  go_enter Tryd.func21, Tryd.ntmps21
  go_wp2_with fail
  rw [zeros32]
  obtain ⟨W1, hW1⟩ : ∃ W1, W1 = (w.alloc (.cells #[Value.pointer (some ⟨sb, 0, none⟩)] 36)).alloc (.cells (keyA (List.replicate 32 0)) 23) := ⟨_, rfl⟩
  rw [← hW1]
  have g1 : Grew w W1 := by rw [hW1]; exact ((Below.refl _ w).alloc (Nat.le_refl _) _).alloc (by simp) _
  have bx : Arr W1 w.heap.size 36 #[.pointer (some ⟨sb, 0, none⟩)] := by rw [hW1]; exact (Arr.new w 36 _).alloc _
  have z1 : Arr W1 (w.heap.size + 1) 23 (keyA (List.replicate 32 0)) := by rw [hW1]; exact Arr.new_at _ 23 _ (by simp)
  have sg := H.out.2.2.2.2.2.2.2.below g1
  have hsl := H.out.2.2.2.2.2.2.2.lt
  have hmb : m ≠ sb := Ne.symm (H.out.2.2.2.2.2.2.1.ne H.out.2.2.2.2.2.2.2 (by decide))
  have hml := H.out.2.2.2.2.2.2.1.lt
  obtain ⟨W2, hW2⟩ : ∃ W2, W2 = W1.setCell ⟨sb, 66, none⟩ (.int .i32 1) := ⟨_, rfl⟩
  have hp0 : (List.replicate 32 0).length = 32 := rfl
  have sig2 : Sig W2 m w.heap.size sb seed tag pub 0 1 := by
    have b12 : Bel2 m sb W1 W2 := by rw [hW2]; exact Bel2.setCell W1 _
    obtain ⟨c, hc⟩ := H.out.2.2.2.2.2.2.1
    refine ⟨⟨(H.out.2.2.2.2.2.1.start.below g1).bel2 b12 ?_ ?_, (H.out.2.2.2.2.2.1.tab.below g1).bel2 b12 ?_ ?_⟩, ⟨c, (hc.below g1).keep ?_⟩, bx.bel2 b12 (by omega) (by omega), by rw [hW2]; exact sig_lock sg H.out.1 H.out.2.1 H.out.2.2.1 1⟩
    · exact H.out.2.2.2.2.2.2.1.ne H.out.2.2.2.2.2.1.start (by decide)
    · exact Cells.ne (w := w) ⟨_, H.out.2.2.2.2.2.1.start⟩ ⟨_, H.out.2.2.2.2.2.2.2⟩ (by decide)
    · exact H.out.2.2.2.2.2.2.1.ne H.out.2.2.2.2.2.1.tab (by decide)
    · exact Cells.ne (w := w) ⟨_, H.out.2.2.2.2.2.1.tab⟩ ⟨_, H.out.2.2.2.2.2.2.2⟩ (by decide)
    · rw [hW2]; exact Below.heap_setCell W1 _ _ m hmb
  have hmk := PubMake W2 m w.heap.size sb seed tag pub 0 1 H.out.1 H.out.2.1 H.out.2.2.1 H.out.2.2.2.1 H.out.2.2.2.2.1 sig2
  rw [hW2] at hmk
  have hf0 : ∀ W : World, (∃ V, GrM m W2 V ∧ Sig V m w.heap.size sb seed tag pub 0 1 ∧ W = V.setRow sb (sigA m seed tag (publicK seed tag) 0 1)) → W.cell? ⟨sb, 65, none⟩ = some (.int .u32 0) ∧ W.cell? ⟨sb, 65 + 1, none⟩ = some (.int .i32 1) ∧ W.frozen? ⟨sb, 65, none⟩ = false ∧ W.frozen? ⟨sb, 65 + 1, none⟩ = false := by
    rintro W ⟨V, _, hV, rfl⟩
    have := hV.sig.setRow (sigA m seed tag (publicK seed tag) 0 1)
    exact ⟨sig_c65 this H.out.1 H.out.2.1 (publicK_len _ _), sig_c66 this H.out.1 H.out.2.1 (publicK_len _ _), this.frozen 65, this.frozen 66⟩
  have hdo := do_first_53 sb 65 #[.pointer (some ⟨w.heap.size, 0, none⟩)] W1 _ (sig_c65 sg H.out.1 H.out.2.1 H.out.2.2.1) (sig_c66 sg H.out.1 H.out.2.1 H.out.2.2.1) hf0 (sg.frozen 66) (by rw [hW2]; exact hmk)
  refine hdo.mono ?_
  rintro e w' ⟨rfl, w2, ⟨V, hV, hVs, rfl⟩, rfl⟩
  obtain ⟨W5, hW5⟩ : ∃ W5, W5 = ((V.setRow sb (sigA m seed tag (publicK seed tag) 0 1)).drew.setCell ⟨sb, 65, none⟩ (.int .u32 1)).setCell ⟨sb, 65 + 1, none⟩ (.int .i32 0) := ⟨_, rfl⟩
  rw [← hW5]
  have bV5 : Bel2 m sb V W5 := by
    rw [hW5]
    exact (((Bel2.setRow V _).trans (Bel2.drew _)).trans (Bel2.setCell _ _)).trans (Bel2.setCell _ _)
  have b12 : Bel2 m sb W1 W2 := by rw [hW2]; exact Bel2.setCell W1 _
  have b15 : Bel2 m sb W1 W5 := (b12.trans (Bel2.of hV.bel)).trans bV5
  have bw5 : Bel2 m sb w W5 := (Bel2.of (Bel.of g1)).trans b15
  have sg5 : Arr W5 sb 101 (sigA m seed tag (publicK seed tag) 1 0) := by
    rw [hW5]
    have := hVs.sig.setRow (sigA m seed tag (publicK seed tag) 0 1)
    exact sig_lock (sig_done this.drew H.out.1 H.out.2.1 (publicK_len _ _) 1) H.out.1 H.out.2.1 (publicK_len _ _) 0
  have m5 : Met W5 m := by
    obtain ⟨c, hc⟩ := hV.cnt
    refine ⟨c, hc.keep ?_⟩
    rw [hW5, Below.heap_setCell _ _ _ m hmb, Below.heap_setCell _ _ _ m hmb]
    exact heap_setRow_other V sb _ m hmb
  have z5 : Arr W5 (w.heap.size + 1) 23 (keyA (List.replicate 32 0)) := z1.bel2 b15 (by omega) (by omega)
  have hbox := (bx.bel2 b15 (by omega) (by omega)).cell 0
  have hbox' : W5.cell? ⟨w.heap.size, 0, none⟩ = some (.pointer (some ⟨sb, 0, none⟩)) := hbox
  have hPs : (keyA (publicK seed tag)).size = 32 := by rw [keyA_size, publicK_len]
  have hl := run_load_mid (P := Tryd.prog) (n := 32) ((publicK seed tag).map byt) (by rw [List.length_map, publicK_len]) (sig_pub sg5 H.out.1 H.out.2.1 (publicK_len _ _))
  have hst := z5.store (P := Tryd.prog) (V := keyA (publicK seed tag)) (by rw [keyA_size, hPs]; rfl) (keyA_one _)
  have hl2 := (z5.setRow (keyA (publicK seed tag))).load (P := Tryd.prog) (n := 32) hPs
  have sg6 : Arr (W5.setRow (w.heap.size + 1) (keyA (publicK seed tag))) sb 101 (sigA m seed tag (publicK seed tag) 1 0) := sg5.setRowOther (by omega) _
  have m6 : Met (W5.setRow (w.heap.size + 1) (keyA (publicK seed tag))) m := ⟨_, m5.choose_spec.setRowOther (by omega) _⟩
  have b6 : Bel2 m sb w (W5.setRow (w.heap.size + 1) (keyA (publicK seed tag))) := by
    obtain ⟨h1, h2, h3, h4, h5⟩ := bw5
    exact ⟨h1, h2, h3, by rw [setRow_size]; exact h4, fun k hk hm hb => by rw [heap_setRow_other _ _ _ _ (by omega)]; exact h5 k hk hm hb⟩
  have HK := Lib.hid (And.intro b6 (And.intro m6 sg6))
  obtain ⟨P, hP⟩ : ∃ P, P = publicK seed tag := ⟨_, rfl⟩
  have ek : (List.map byt P).toArray = keyA P := rfl
  rw [← hP, ek] at hl
  rw [← hP] at hPs hst hl2
  rw [← hP] at HK
  have HP := Lib.hid hP
  clear hdo hf0 hmk sig2 hW5 hW2 hW1 bV5 b12 b15 bw5 sg5 m5 z5 hbox sg6 m6 b6 hV hVs g1 bx z1 sg ek hP hbx hp0
  go_wp2
  refine bodyPost_ret (v := .agg (keyA P)) (by simp [results, Tryd.results21, go_sem, hl2, hPs]) rfl ⟨by rw [HP.out], ?_⟩
  rw [← HP.out]
  exact HK.out
/-- asked again -/
theorem Public_again (w : World) (m sb : Nat) (seed tag : List Nat) (hs : seed.length = 32) (ht : tag.length = 32) (ha : Arr w sb 101 (sigA m seed tag (publicK seed tag) 1 0)) :
    Calls Tryd.prog 21 #[.pointer (some ⟨sb, 0, none⟩)] w fun e w' => e = .returned (.agg (keyA (publicK seed tag))) ∧ Grew w w' := by
  obtain ⟨P, hP⟩ : ∃ P, P = publicK seed tag := ⟨_, rfl⟩
  have hPl : P.length = 32 := by rw [hP, publicK_len]
  rw [← hP] at ha ⊢
  have hmf : ∀ (fn : Fn) (first cap : Array Value) (w : World), (Instr.makeFunc fn first cap).run Tryd.prog w = .ok (.func fn first cap) w := fun _ _ _ _ => rfl
  have H := Lib.hid (And.intro hs (And.intro ht (And.intro ha hPl)))
  clear hP hPl hs ht ha
  go_enter Tryd.func21, Tryd.ntmps21
  go_wp2_with fail
  rw [zeros32]
  obtain ⟨W1, hW1⟩ : ∃ W1, W1 = (w.alloc (.cells #[Value.pointer (some ⟨sb, 0, none⟩)] 36)).alloc (.cells (keyA (List.replicate 32 0)) 23) := ⟨_, rfl⟩
  rw [← hW1]
  have g1 : Grew w W1 := by rw [hW1]; exact ((Below.refl _ w).alloc (Nat.le_refl _) _).alloc (by simp) _
  have bx : Arr W1 w.heap.size 36 #[.pointer (some ⟨sb, 0, none⟩)] := by rw [hW1]; exact (Arr.new w 36 _).alloc _
  have z1 : Arr W1 (w.heap.size + 1) 23 (keyA (List.replicate 32 0)) := by rw [hW1]; exact Arr.new_at _ 23 _ (by simp)
  have sg := H.out.2.2.1.below g1
  refine (do_done ⟨sb, 65, none⟩ _ W1 (sig_c65 sg H.out.1 H.out.2.1 H.out.2.2.2)).mono ?_
  rintro e W1 ⟨rfl, rfl⟩
  have hbox' : W1.cell? ⟨w.heap.size, 0, none⟩ = some (.pointer (some ⟨sb, 0, none⟩)) := bx.cell 0
  have hPs : (keyA P).size = 32 := by rw [keyA_size, H.out.2.2.2]
  have hl := run_load_mid (P := Tryd.prog) (n := 32) (P.map byt) (by rw [List.length_map, H.out.2.2.2]) (sig_pub sg H.out.1 H.out.2.1 H.out.2.2.2)
  have hst := z1.store (P := Tryd.prog) (V := keyA P) (by rw [keyA_size, hPs]; rfl) (keyA_one _)
  have hl2 := (z1.setRow (keyA P)).load (P := Tryd.prog) (n := 32) hPs
  have ek : (List.map byt P).toArray = keyA P := rfl
  rw [ek] at hl
  have HK := Lib.hid (Below.setRow_ (b := w.heap.size + 1) g1 (by omega) (keyA P))
  clear g1 bx z1 sg ek hW1
  go_wp2
  exact bodyPost_ret (v := .agg (keyA P)) (by simp [results, Tryd.results21, go_sem, hl2, hPs]) rfl ⟨rfl, HK.out⟩
end Go.Proofs.YtejifhdkgfilgaaDoor
