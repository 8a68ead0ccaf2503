/- The meter: what makes digests, and counts them. -/
import Derived.Test.YtejifhdkgfilgaaDoorDigest
import Derived.Laws.LoneSync
namespace Go.Proofs.YtejifhdkgfilgaaDoor
open Go.RowKit
/-- but for one block all that was there is as it was -/
structure Bel (m : Nat) (w w' : World) : Prop where
  os : w'.os = w.os
  tape : w'.tape = w.tape
  output : w'.output = w.output
  size : w.heap.size ≤ w'.heap.size
  block : ∀ k, k < w.heap.size → k ≠ m → w'.heap[k]? = w.heap[k]?
theorem Bel.refl (m : Nat) (w : World) : Bel m w w := ⟨rfl, rfl, rfl, Nat.le_refl _, fun _ _ _ => rfl⟩
theorem Bel.trans {m : Nat} {a b c : World} (h : Bel m a b) (k : Bel m b c) : Bel m a c :=
  ⟨k.os.trans h.os, k.tape.trans h.tape, k.output.trans h.output, Nat.le_trans h.size k.size, fun i hi hn => (k.block i (Nat.lt_of_lt_of_le hi h.size) hn).trans (h.block i hi hn)⟩
theorem Bel.of {m : Nat} {w w' : World} (h : Grew w w') : Bel m w w' := ⟨h.os, h.tape, h.output, h.size, fun k hk _ => h.block k hk⟩
theorem Bel.below {m B : Nat} {w w' : World} (h : Bel m w w') (hB : B ≤ w.heap.size) (hm : B ≤ m) : Below B w w' := ⟨h.os, h.tape, h.output, h.size, fun k hk => h.block k (by omega) (by omega)⟩
/-- a counter lies in block m -/
def Cnt (t : TypeId) (f : Int → Array Value) (w : World) (m : Nat) : Prop := ∃ c, Arr w m t (f c)
/-- a step that only adds to memory, and counts -/
structure Gr (t : TypeId) (f : Int → Array Value) (m : Nat) (w w' : World) : Prop where
  bel : Bel m w w'
  cnt : Cnt t f w' m
section
variable {t E : TypeId} {f : Int → Array Value} {m b n size base : Nat} {w w' w'' : World} {V : Array Value} {v : Value} {xs : List Value} {A : Option Addr}
theorem Gr.refl (h : Cnt t f w m) : Gr t f m w w := ⟨Bel.refl _ _, h⟩
theorem Gr.trans (h : Gr t f m w w') (k : Gr t f m w' w'') : Gr t f m w w'' := ⟨h.bel.trans k.bel, k.cnt⟩
theorem Cnt.grew (h : Cnt t f w m) (hr : Grew w w') : Cnt t f w' m := ⟨h.choose, h.choose_spec.below hr⟩
theorem Cnt.drew (h : Cnt t f w m) : Cnt t f w.drew m := h
theorem Gr.of (h : Cnt t f w m) (hr : Grew w w') : Gr t f m w w' := ⟨Bel.of hr, h.grew hr⟩
theorem Cnt.ne (h : Cnt t f w m) (ha : Arr w b E V) (ht : E ≠ t) : b ≠ m := Cells.ne (w := w) ⟨_, ha⟩ ⟨_, h.choose_spec⟩ ht
theorem Arr.gr (h : Arr w b E V) (hc : Cnt t f w m) (hr : Gr t f m w w') (ht : E ≠ t) : Arr w' b E V := h.keep (hr.bel.block b h.lt (hc.ne h ht))
theorem QRow.gr (h : QRow w base E size v n xs) (hc : Cnt t f w m) (hr : Gr t f m w w') (ht : E ≠ t) : QRow w' base E size v n xs := h.keep fun g e => by
  rcases h.form with ⟨rfl, _⟩ | ⟨g', off, cap, cur, hv, hb, hh, _⟩
  · simp [Value.ownBlock] at e
  · rw [hv] at e
    simp [Value.ownBlock] at e
    subst e
    exact hr.bel.block _ (h.lt _ (by rw [hv]; rfl)).2 (hc.ne (E := E) (V := cur) hh ht)
/-- a slice that reads as xs, and does not lie in the counter -/
structure RdM (m : Nat) (w : World) (A : Option Addr) (n : Nat) (xs : List Value) : Prop where
  len : xs.length = n
  at_ : 0 < n → ∃ a, A = some a ∧ a.block < w.heap.size ∧ a.block ≠ m ∧ ∀ j u, xs[j]? = some u → w.cell? (a.add j) = some u
theorem RdM.rd (h : RdM m w A n xs) : Rd w w.heap.size A n xs := ⟨h.len, fun hn => by
  obtain ⟨a, e, hl, _, hc⟩ := h.at_ hn
  exact ⟨a, e, hl, hc⟩⟩
theorem RdM.bel (h : RdM m w A n xs) (hr : Bel m w w') : RdM m w' A n xs := ⟨h.len, fun hn => by
  obtain ⟨a, e, hl, hne, hc⟩ := h.at_ hn
  exact ⟨a, e, Nat.lt_of_lt_of_le hl hr.size, hne, fun j u hu => (World.cell?_of_block (w := w) (by rw [add_block]; exact hr.block _ hl hne)).trans (hc j u hu)⟩⟩
theorem RdM.gr (h : RdM m w A n xs) (hr : Gr t f m w w') : RdM m w' A n xs := h.bel hr.bel
theorem RdM.grew (h : RdM m w A n xs) (hr : Grew w w') : RdM m w' A n xs := h.bel (Bel.of hr)
theorem RdM.of_rd {B : Nat} (h : Rd w B A n xs) (hB : B ≤ w.heap.size) (hm : B ≤ m) : RdM m w A n xs := ⟨h.len, fun hn => by
  obtain ⟨a, e, hl, hc⟩ := h.at_ hn
  exact ⟨a, e, by omega, by omega, hc⟩⟩
theorem RdM.nil_ : RdM m w A 0 [] := ⟨rfl, fun h => absurd h (by omega)⟩
theorem RdM.arr (h : Arr w b E V) (hc : Cnt t f w m) (ht : E ≠ t) (hn : V.size = n) : RdM m w (some ⟨b, 0, none⟩) n V.toList :=
  ⟨by simpa using hn, fun _ => ⟨_, rfl, h.lt, hc.ne h ht, fun j u hu => by rw [Addr.add_lit, Nat.zero_add, h.cell]; simpa using hu⟩⟩
theorem RdM.row {cap : Nat} (h : QRow w base E 1 (.slice A n cap) n xs) (hc : Cnt t f w m) (ht : E ≠ t) : RdM m w A n xs := by
  refine ⟨by have := h.len; omega, fun hn => ?_⟩
  obtain ⟨g, off, rfl, _, hg, _, _, hcl, cs, hcs⟩ := h.open_ hn
  exact ⟨_, rfl, hg, hc.ne (V := cs) hcs ht, fun j u hu => by rw [Addr.add_lit]; exact hcl j u hu⟩
end
theorem RdM.key {t : TypeId} {f : Int → Array Value} {m b : Nat} {w : World} {E : TypeId} {xs : List Nat} (h : Arr w b E (keyA xs)) (hc : Cnt t f w m) (ht : E ≠ t) : RdM m w (some ⟨b, 0, none⟩) xs.length (xs.map byt) := by
  have := RdM.arr h hc ht (keyA_size xs)
  simpa [keyA] using this
/-- slice values that read as lists of bytes -/
def RowsM (m : Nat) (w : World) (us : List Value) (L : List (List Nat)) : Prop :=
  us.length = L.length ∧ ∀ (k : Nat) (u : Value), us[k]? = some u → ∃ (A : Option Addr) (n c : Nat) (xs : List Nat), u = .slice A n c ∧ L[k]? = some xs ∧ n ≤ c ∧ RdM m w A n (xs.map byt)
theorem RowsM.rows {m : Nat} {w : World} {us : List Value} {L : List (List Nat)} (h : RowsM m w us L) : Rows w w.heap.size us L := ⟨h.1, fun k u hu => by
  obtain ⟨A, n, c, xs, e, hx, hn, hr⟩ := h.2 k u hu
  exact ⟨A, n, c, xs, e, hx, hn, hr.rd⟩⟩
theorem RowsM.bel {m : Nat} {w w' : World} {us : List Value} {L : List (List Nat)} (h : RowsM m w us L) (hr : Bel m w w') : RowsM m w' us L := ⟨h.1, fun k u hu => by
  obtain ⟨A, n, c, xs, e, hx, hn, hr'⟩ := h.2 k u hu
  exact ⟨A, n, c, xs, e, hx, hn, hr'.bel hr⟩⟩
theorem RowsM.nil_ {m : Nat} {w : World} : RowsM m w [] [] := ⟨rfl, fun k u hu => by simp at hu⟩
theorem RowsM.cons {m : Nat} {w : World} {us : List Value} {L : List (List Nat)} {A : Option Addr} {n c : Nat} {xs : List Nat} (h : RdM m w A n (xs.map byt)) (hn : n ≤ c) (hs : RowsM m w us L) : RowsM m w (.slice A n c :: us) (xs :: L) :=
  ⟨by simp [hs.1], fun k u hu => by
    cases k with
    | zero => simp at hu; subst hu; exact ⟨A, n, c, xs, rfl, rfl, hn, h⟩
    | succ k => simpa using hs.2 k u (by simpa using hu)⟩
/-- the meter as it lies in memory -/
def meterA (c : Int) : Array Value := #[.int .i64 c, .bool false, .int .i32 0, .int .u32 0, .slice none 0 0]
abbrev Met (w : World) (m : Nat) : Prop := Cnt 90 meterA w m
abbrev GrM (m : Nat) (w w' : World) : Prop := Gr 90 meterA m w w'
theorem Shas.gr {m : Nat} {w w' : World} (h : Shas w) (hc : Met w m) (hr : GrM m w w') : Shas w' := ⟨h.start.gr hc hr (by decide), h.tab.gr hc hr (by decide)⟩
theorem New_any (w : World) : Calls Tryd.prog 17 #[.bool false] w fun e w' => e = .returned (.pointer (some ⟨w.heap.size, 0, none⟩)) ∧ w' = w.alloc (.cells (meterA 0) 90) := by
  go_enter Tryd.func17, Tryd.ntmps17
  go_wp2
  go_ret
  exact ⟨rfl, rfl⟩
theorem Add_any (w : World) (b : Nat) (c : Int) (h : Arr w b 90 (meterA c)) : Calls Tryd.prog 79 #[.pointer (some ⟨b, 0, none⟩), .int .i64 1] w fun e w' => (∃ v, e = .returned v) ∧ w' = w.setCell ⟨b, 0, none⟩ (.int .i64 (IntKind.i64.wrap (c + 1))) := by
  have hc : w.cell? ⟨b, 0, none⟩ = some (.int .i64 c) := h.cell 0
  have hadd := run_call_add (P := Tryd.prog) Tryd.func104 (by kernel_rfl) (by kernel_rfl) (by kernel_rfl) .i64 (by kernel_rfl) (y := 1) (s := IntKind.i64.wrap (c + 1)) hc (h.frozen 0) (by simp [go_sem])
  obtain ⟨s, hs⟩ : ∃ s, s = IntKind.i64.wrap (c + 1) := ⟨_, rfl⟩
  rw [← hs] at hadd ⊢
  clear hs hc
  go_enter Tryd.func79, Tryd.ntmps79
  go_wp2
  go_ret
  exact ⟨⟨_, rfl⟩, rfl⟩
theorem meter_set {w : World} {m : Nat} {c d : Int} (h : Arr w m 90 (meterA c)) : Arr (w.setCell ⟨m, 0, none⟩ (.int .i64 d)) m 90 (meterA d) := heap_setCell_same w m 0 (.int .i64 d) (meterA c) 90 (0, 0) h
theorem bel_setCell {m o : Nat} (w : World) (v : Value) : Bel m w (w.setCell ⟨m, o, none⟩ v) := ⟨rfl, rfl, rfl, by simp [World.setCell], fun k _ hn => Below.heap_setCell w _ v k hn⟩
attribute [-go_sem] loadCellsFrom storeCells
attribute [local go_sem] storeCells_one
set_option maxRecDepth 100000 in
set_option maxHeartbeats 400000 in
/-- Meter.Sum: the digest of what is joined; it counts one -/
theorem Sum_exact (w : World) (m : Nat) (c : Int) (hg : Shas w) (hm : Arr w m 90 (meterA c)) (Ao : Option Addr) (n k : Nat) (us : List Value) (L : List (List Nat)) (hr : Rd w w.heap.size Ao n us) (hR : RowsM m w us L)
    (T : Nat) (hTd : L.flatten.length = T) (hT : T ≤ 140737488000000) (hn : n ≤ 140737488000000) (hb : ∀ xs ∈ L, ∀ b ∈ xs, b < 256) :
    Calls Tryd.prog 47 #[.pointer (some ⟨m, 0, none⟩), .slice Ao n k] w fun e w' => e = .returned (.agg (keyA (digest L.flatten))) ∧ Bel m w w' ∧ Arr w' m 90 (meterA (IntKind.i64.wrap (c + 1))) := by
  have H := Lib.hid (And.intro hg (And.intro hm (And.intro hr (And.intro hR (And.intro hTd hb)))))
  clear hg hm hr hR hTd hb
  go_enter Tryd.func47, Tryd.ntmps47
  go_wp2_with fail
  generalize hW0 : World.alloc _ _ = W0
  have a0 : Arr W0 w.heap.size 23 (keyA (List.replicate 32 0)) := by rw [← hW0]; exact Arr.new w 23 _
  have b0 : Grew w W0 := by rw [← hW0]; exact (Below.refl _ _).alloc (Nat.le_refl _) _
  have H0 := Lib.hid (And.intro a0 b0)
  clear a0 b0 hW0
  go_wp2_with (go_at_call 77; go_must (refine (Join_any W0 _ Ao n k us L (Nat.le_refl _) ((H.out.2.2.1.below H0.out.2 (Nat.le_refl _)).more H0.out.2.size) (H.out.2.2.2.1.bel (Bel.of H0.out.2)).rows T H.out.2.2.2.2.1 (by omega) (by omega)).mono ?_); rintro e W1 ⟨A1, c1, rfl, hq1, hc1, hb1⟩; have H1 := Lib.hid (And.intro hq1 (And.intro hc1 hb1)); clear hq1 hc1 hb1)
  have g1 : Grew w W1 := H0.out.2.trans (H1.out.2.2.mono H0.out.2.size)
  have m1 : Arr W1 m 90 (meterA c) := H.out.2.1.below g1
  refine (Add_any W1 m c m1).mono ?_
  rintro e W2 ⟨⟨v, rfl⟩, hW2⟩
  have m2 : Arr W2 m 90 (meterA (IntKind.i64.wrap (c + 1))) := by rw [hW2]; exact meter_set m1
  have e2 : Bel m W1 W2 := by rw [hW2]; exact bel_setCell W1 _
  have k2 : W2.cell? ⟨m, 1, none⟩ = some (.bool false) := m2.cell 1
  have c2 : Met W1 m := ⟨c, m1⟩
  have q2 : QRow W2 W0.heap.size 5 1 (.slice A1 T c1) T (L.flatten.map byt) := H1.out.1.gr c2 ⟨e2, ⟨_, m2⟩⟩ (by decide)
  have a2 : Arr W2 w.heap.size 23 (keyA (List.replicate 32 0)) := (H0.out.1.below H1.out.2.2).gr c2 ⟨e2, ⟨_, m2⟩⟩ (by decide)
  have s2 : Shas W2 := (H.out.1.below g1).gr c2 ⟨e2, ⟨_, m2⟩⟩
  have b2 : Bel m w W2 := (Bel.of g1).trans e2
  have H2 := Lib.hid (And.intro m2 (And.intro q2 (And.intro a2 (And.intro s2 b2))))
  have hcm : c1 ≤ 9223372036854775807 := by
    rcases q2.form with ⟨e, _⟩ | ⟨_, _, _, _, e, _, _, _, hm, _⟩
    · injection e with _ _ e3; omega
    · injection e with _ _ e3; rw [e3]; unfold maxLen at hm; exact hm
  have hbs : ∀ b ∈ L.flatten, b < 256 := fun b hb => by
    obtain ⟨xs, hx, hb⟩ := List.mem_flatten.1 hb
    exact H.out.2.2.2.2.2 xs hx b hb
  have HB := Lib.hid hbs
  clear g1 m1 hW2 m2 e2 c2 q2 a2 s2 b2 hbs
  go_wp2_with (go_at_call 78; go_must (refine (sum_any W2 H2.out.2.2.2.1 A1 T c1 L.flatten H2.out.2.1.rd (by omega) HB.out H1.out.2.1 hcm).mono ?_); rintro e W3 ⟨rfl, hb3⟩)
  have h3 := (H2.out.2.2.1.below hb3)
  obtain ⟨D, hD⟩ : ∃ D, D = digest L.flatten := ⟨_, rfl⟩
  rw [← hD]
  have hDl : D.length = 32 := by rw [hD, digest_len]
  have hst := h3.store (P := Tryd.prog) (V := keyA D) (by rw [keyA_size, keyA_size, hDl]; rfl) (keyA_one _)
  have hl2 := (h3.setRow (keyA D)).load (P := Tryd.prog) (n := 32) (by rw [keyA_size, hDl])
  have hDs : (keyA D).size = 32 := by rw [keyA_size, hDl]
  have hne : m ≠ w.heap.size := by have := H.out.2.1.lt; omega
  have HE := Lib.hid (And.intro (H2.out.1.below hb3) (H2.out.2.2.2.2.trans (Bel.of hb3)))
  have HD := Lib.hid hD
  clear h3 hb3 hD
  go_simp
  go_wp2
  refine bodyPost_ret (v := .agg (keyA D)) (by simp [results, Tryd.results47, go_sem, hl2, hDs]) rfl ⟨by rw [HD.out], ?_, ?_⟩
  · obtain ⟨h1, h2, h4, h5, h6⟩ := HE.out.2
    refine ⟨h1, h2, h4, by rw [setRow_size]; exact h5, fun k hk hn => ?_⟩
    rw [heap_setRow_other _ _ _ _ (by omega)]
    exact h6 k hk hn
  · exact HE.out.1.setRowOther hne _
theorem Sum_any (w : World) (m : Nat) (hg : Shas w) (hm : Met w m) (Ao : Option Addr) (n k : Nat) (us : List Value) (L : List (List Nat)) (hr : Rd w w.heap.size Ao n us) (hR : RowsM m w us L)
    (hT : L.flatten.length ≤ 140737488000000) (hn : n ≤ 140737488000000) (hb : ∀ xs ∈ L, ∀ b ∈ xs, b < 256) :
    Calls Tryd.prog 47 #[.pointer (some ⟨m, 0, none⟩), .slice Ao n k] w fun e w' => e = .returned (.agg (keyA (digest L.flatten))) ∧ GrM m w w' := by
  obtain ⟨c, hm⟩ := hm
  exact (Sum_exact w m c hg hm Ao n k us L hr hR _ rfl hT hn hb).mono fun e w' h => ⟨h.1, h.2.1, _, h.2.2⟩
end Go.Proofs.YtejifhdkgfilgaaDoor
