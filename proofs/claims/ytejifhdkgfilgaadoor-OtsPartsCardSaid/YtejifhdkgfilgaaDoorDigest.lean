/- The digest of bytes. -/
import Derived.Test.YtejifhdkgfilgaaDoorPad
import Derived.Laws.CopyOwn
import Derived.Laws.Cover3
import Derived.IntWalk
namespace Go.Proofs.YtejifhdkgfilgaaDoor
open Go.RowKit
theorem stA_size (s : St) : (stA s).size = 8 := rfl
theorem stA_one (s : St) : ∀ v ∈ (stA s).toList, v.oneCell' = true := by simp [stA, Value.oneCell']
def startS : St := ⟨0x6a09e667, 0xbb67ae85, 0x3c6ef372, 0xa54ff53a, 0x510e527f, 0x9b05688c, 0x1f83d9ab, 0x5be0cd19⟩
/-- the k-th block of bytes -/
def blk (p : List Nat) (k : Nat) : List Nat := (p.drop (64 * k)).take 64
def stAfter (p : List Nat) : Nat → St
  | 0 => startS
  | k + 1 => compress (stAfter p k) (blk p k)
def padded (xs : List Nat) : List Nat := xs ++ padB xs.length
def stBytes (s : St) (k : Nat) : List Nat := (List.range k).flatMap fun i => highB (s.get i).toNat 4
/-- the digest, 32 bytes -/
def digest (xs : List Nat) : List Nat := stBytes (stAfter (padded xs) ((padded xs).length / 64)) 8
theorem padded_len (xs : List Nat) : ∃ m, (padded xs).length = 64 * m ∧ 0 < m := by
  refine ⟨(xs.length + 9 + (119 - xs.length % 64) % 64) / 64, ?_, ?_⟩
  · rw [padded, List.length_append, padB_len]; omega
  · omega
theorem padded_le (xs : List Nat) : (padded xs).length ≤ xs.length + 72 := by rw [padded, List.length_append, padB_len]; omega
theorem highB_lt (n size : Nat) : ∀ b ∈ highB n size, b < 256 := by
  intro b hb
  simp only [highB, List.mem_map, List.mem_range] at hb
  obtain ⟨i, _, rfl⟩ := hb
  exact Nat.mod_lt _ (by decide)
theorem padB_lt (n : Nat) : ∀ b ∈ padB n, b < 256 := by
  intro b hb
  simp only [padB, List.flatten_cons, List.flatten_nil, List.append_nil, List.mem_append, List.mem_singleton, List.mem_replicate] at hb
  rcases hb with rfl | ⟨_, rfl⟩ | hb
  · decide
  · decide
  · exact highB_lt _ _ b hb
theorem stBytes_len (s : St) (k : Nat) : (stBytes s k).length = 4 * k := by
  induction k with
  | zero => rfl
  | succ k ih =>
    rw [stBytes, List.range_succ, List.flatMap_append, List.length_append]
    rw [stBytes] at ih
    rw [ih]
    simp [highB_len]
    omega
theorem stBytes_succ (s : St) (k : Nat) : stBytes s (k + 1) = stBytes s k ++ highB (s.get k).toNat 4 := by
  rw [stBytes, List.range_succ, List.flatMap_append]
  simp [stBytes]
theorem digest_len (xs : List Nat) : (digest xs).length = 32 := stBytes_len _ _
theorem digest_lt (xs : List Nat) : ∀ b ∈ digest xs, b < 256 := by
  intro b hb
  simp only [digest, stBytes, List.mem_flatMap] at hb
  obtain ⟨i, _, hb⟩ := hb
  exact highB_lt _ _ b hb
/-- a key as an array -/
def keyA (xs : List Nat) : Array Value := (xs.map byt).toArray
theorem keyA_size (xs : List Nat) : (keyA xs).size = xs.length := by simp [keyA]
theorem keyA_one (xs : List Nat) : ∀ v ∈ (keyA xs).toList, v.oneCell' = true := by simp [keyA, byt, Value.oneCell']
/-- the tables of the digest lie where the program laid them -/
structure Shas (w : World) : Prop where
  start : Arr w 0 157 (stA startS)
  tab : Arr w 1 181 tabK
theorem Shas.below {w w' : World} (h : Shas w) (hb : Grew w w') : Shas w' := ⟨h.start.below hb, h.tab.below hb⟩
theorem QRow.drop {w : World} {base n k : Nat} {E : TypeId} {g off cap : Nat} {xs : List Value} (h : QRow w base E 1 (.slice (some ⟨g, off, none⟩) n cap) n xs) (hk : k ≤ n) (A : Option Addr)
    (hA : A = if cap = k then some ⟨g, off, none⟩ else some ⟨g, off + k, none⟩) : QRow w base E 1 (.slice A (n - k) (cap - k)) (n - k) (xs.drop k) := by
  subst hA
  have hl := h.len
  refine ⟨by simp; omega, ?_⟩
  rcases h.form with ⟨e, _⟩ | ⟨g', off', cap', cur, hv, hb, hh, hn, hm, ho, hc⟩
  · cases e
  · injection hv with e1 e2 e3
    injection e1 with e1
    injection e1 with e4 e5
    subst e3 e4 e5
    by_cases h1 : cap = k
    · rw [if_pos h1]
      refine .inr ⟨g, off, cap - k, cur, rfl, hb, hh, by omega, by omega, by omega, fun j u hu => ?_⟩
      rw [List.getElem?_drop, List.getElem?_eq_none (by omega)] at hu
      cases hu
    · rw [if_neg h1]
      refine .inr ⟨g, off + k, cap - k, cur, rfl, hb, hh, by omega, by omega, by omega, fun j u hu => ?_⟩
      rw [List.getElem?_drop] at hu
      rw [show off + k + j = off + (k + j) from by omega]
      exact hc (k + j) u hu
theorem QRow.open_ {w : World} {base n : Nat} {E : TypeId} {A : Option Addr} {cap : Nat} {xs : List Value} (h : QRow w base E 1 (.slice A n cap) n xs) (hn : 0 < n) : ∃ g off, A = some ⟨g, off, none⟩ ∧ base ≤ g ∧ g < w.heap.size ∧ n ≤ cap ∧ cap ≤ maxLen ∧ (∀ j u, xs[j]? = some u → w.cell? ⟨g, off + j, none⟩ = some u) ∧ Cells w E g := by
  rcases h.form with ⟨_, e⟩ | ⟨g, off, cap', cur, hv, hb, hh, hn', hm, ho, hc⟩
  · omega
  · injection hv with e1 e2 e3
    subst e3
    exact ⟨g, off, e1, hb, (Array.getElem?_eq_some_iff.1 hh).1, hn', hm, fun j u hu => by rw [cell_of_row w g (off + j) cur E (0, 0) hh]; exact hc j u hu, ⟨cur, hh⟩⟩
/-- an array of cells in the midst of a block, read -/
theorem run_load_mid {P : Program} {w : World} {g off n : Nat} (vs : List Value) (hn : vs.length = n) (h : ∀ j u, vs[j]? = some u → w.cell? ⟨g, off + j, none⟩ = some u) :
    (loadCellsFrom ⟨g, off, none⟩ 0 n #[]).run P w = .ok vs.toArray w := by
  subst hn
  have := run_loadCells_list (P := P) (w := w) ⟨g, off, none⟩ vs (fun j v hv => by rw [Addr.add_lit]; exact h j v hv)
  simpa [loadCells] using this
theorem QRow.setRowOther {w : World} {base n size k : Nat} {E : TypeId} {v : Value} {xs : List Value} (h : QRow w base E size v n xs) (hk : ∀ g, v.ownBlock = some g → g ≠ k) (U : Array Value) : QRow (w.setRow k U) base E size v n xs :=
  h.keep fun g e => heap_setRow_other w k U g (hk g e)
theorem own_if {p : Prop} [Decidable p] {g g' o1 o2 n k : Nat} (h : (Value.slice (if p then some ⟨g, o1, none⟩ else some ⟨g, o2, none⟩) n k).ownBlock = some g') : g = g' := by
  split at h <;> simpa [Value.ownBlock] using h
theorem wide32 (x : W32) : IntKind.u64.wrap (x.toNat : Int) = (x.toNat : Int) := by
  have := x.isLt
  simp [IntKind.wrap, IntKind.signed, IntKind.bits]
  omega
def lenV : Value → Nat
  | .slice _ n _ => n
  | _ => 0
theorem rows2 {w : World} {B : Nat} {xs ys : List Nat} {A1 A2 : Option Addr} {n1 n2 c1 c2 : Nat} (h1 : Rd w B A1 n1 (xs.map byt)) (h2 : Rd w B A2 n2 (ys.map byt)) (f1 : n1 ≤ c1) (f2 : n2 ≤ c2) : Rows w B [.slice A1 n1 c1, .slice A2 n2 c2] [xs, ys] := by
  refine ⟨rfl, fun k u hu => ?_⟩
  match k, hu with
  | 0, hu => simp at hu; subst hu; exact ⟨_, _, _, xs, rfl, rfl, f1, h1⟩
  | 1, hu => simp at hu; subst hu; exact ⟨_, _, _, ys, rfl, rfl, f2, h2⟩
theorem QRow.rd {w : World} {base n : Nat} {E : TypeId} {A : Option Addr} {cap : Nat} {xs : List Value} (h : QRow w base E 1 (.slice A n cap) n xs) : Rd w w.heap.size A n xs := by
  refine ⟨by have := h.len; omega, fun hn => ?_⟩
  obtain ⟨g, off, rfl, _, hg, _, _, hc, _⟩ := h.open_ hn
  exact ⟨_, rfl, hg, fun j u hu => by rw [Addr.add_lit]; exact hc j u hu⟩
/-- k blocks have been digested -/
def SumRel (w : World) (b : Nat) (p : List Nat) (m : Nat) (v : Value) (wr : World) : Prop :=
  ∃ (k : Nat) (A' : Option Addr) (c' : Nat), k ≤ m ∧ v = .slice A' (64 * (m - k)) c' ∧ QRow wr w.heap.size 5 1 (.slice A' (64 * (m - k)) c') (64 * (m - k)) ((p.drop (64 * k)).map byt) ∧
    Arr wr b 157 (stA (stAfter p k)) ∧ Arr wr w.heap.size 23 (keyA (List.replicate 32 0)) ∧ Below w.heap.size w wr
/-- k words have been laid -/
def outB (s : St) (k : Nat) : List Nat := stBytes s k ++ List.replicate (32 - 4 * k) 0
theorem outB_len (s : St) {k : Nat} (h : k ≤ 8) : (outB s k).length = 32 := by rw [outB, List.length_append, stBytes_len, List.length_replicate]; omega
theorem outB_splice (s : St) {k : Nat} (h : k < 8) : splice ((outB s k).map byt) (4 * k) ((highB (s.get k).toNat 4).map byt) = (outB s (k + 1)).map byt := by
  have h1 : (outB s k).take (4 * k) = stBytes s k := by rw [outB, List.take_append_of_le_length (by rw [stBytes_len]; omega), List.take_of_length_le (by rw [stBytes_len]; omega)]
  have h2 : (outB s k).drop (4 * k + 4) = List.replicate (32 - 4 * (k + 1)) 0 := by
    rw [outB, List.drop_append, List.drop_of_length_le (by rw [stBytes_len]; omega), List.nil_append, List.drop_replicate, stBytes_len]
    congr 1; omega
  rw [splice, List.length_map, highB_len, ← List.map_take, ← List.map_drop, h1, h2, outB, stBytes_succ]
  simp
def Sum2Rel (w : World) (b : Nat) (s : St) (v : Value) (wr : World) : Prop :=
  ∃ k : Nat, k ≤ 8 ∧ v = .int .i64 k ∧ Arr wr b 23 (keyA (outB s k)) ∧ Arr wr w.heap.size 23 (keyA (List.replicate 32 0)) ∧ Below w.heap.size w wr ∧ w.heap.size < b
theorem info23 : (Tryd.prog.info? 5).map (·.size) = some 1 := by kernel_rfl
attribute [-go_sem] loadCellsFrom storeCells
attribute [local go_sem] storeCells_one growAt growUpon
set_option maxRecDepth 100000 in
set_option maxHeartbeats 1000000 in
theorem sum_any (w : World) (hg : Shas w) (A : Option Addr) (n c : Nat) (xs : List Nat) (hr : Rd w w.heap.size A n (xs.map byt)) (hn : n ≤ 140737488355000) (hb : ∀ b ∈ xs, b < 256) (hc : n ≤ c) (hcm : c ≤ 9223372036854775807) :
    Calls Tryd.prog 78 #[.slice A n c] w fun e w' => e = .returned (.agg (keyA (digest xs))) ∧ Below w.heap.size w w' := by
  have hl : xs.length = n := by simpa using hr.len
  have H := Lib.hid (And.intro hg (And.intro hr (And.intro hb hl)))
  clear hg hr hb hl
  go_enter Tryd.func78, Tryd.ntmps78
  go_wp2_with fail
  generalize hW0 : World.alloc _ _ = W0
  have a0 : Arr W0 w.heap.size 23 (keyA (List.replicate 32 0)) := by rw [← hW0]; exact Arr.new w 23 _
  have b0 : Below w.heap.size w W0 := by rw [← hW0]; exact (Below.refl _ _).alloc (Nat.le_refl _) _
  have s0 : W0.heap.size = w.heap.size + 1 := by rw [← hW0]; simp
  clear hW0
  obtain ⟨Tp, hTp⟩ : ∃ Tp, (padB n).length = Tp := ⟨_, rfl⟩
  obtain ⟨T, hT⟩ : ∃ T, T = n + Tp := ⟨_, rfl⟩
  have hTpl : Tp ≤ 200 := by rw [← hTp, padB_len]; omega
  have H0 := Lib.hid (And.intro a0 (And.intro b0 (And.intro s0 (And.intro hTp hT))))
  clear a0 b0 s0 hTp hT
  go_wp2_with (go_at_call 102; go_must (refine (Pad_any W0 n (by omega) Tp H0.out.2.2.2.1).mono ?_); rintro e W1 ⟨Ap, cp, rfl, hqp, hcp, hb1⟩; have H1 := Lib.hid (And.intro hqp (And.intro hcp hb1)); clear hqp hcp hb1)
  obtain ⟨W1', hW1'⟩ : ∃ W1', W1' = W1.alloc (.cells #[.slice A n c, .slice Ap Tp cp] 57) := ⟨_, rfl⟩
  rw [← hW1']
  have bw : Below w.heap.size w W1' := by
    rw [hW1']
    exact (H0.out.2.1.trans (H1.out.2.2.mono (by have := H0.out.2.2.1; omega))).alloc (by have := H1.out.2.2.size; have := H0.out.2.2.1; omega) _
  have aw : Arr W1' w.heap.size 23 (keyA (List.replicate 32 0)) := by
    rw [hW1']
    exact (H0.out.1.below H1.out.2.2).alloc _
  have hrow : Rd W1' W1'.heap.size (some ⟨W1.heap.size, 0, none⟩) 2 [.slice A n c, .slice Ap Tp cp] := by
    rw [hW1']
    exact (Arr.new W1 57 _).rdv rfl
  have hrows : Rows W1' W1'.heap.size [.slice A n c, .slice Ap Tp cp] [xs, padB n] := by
    have h2 : Rd W1' W1'.heap.size Ap Tp ((padB n).map byt) := by rw [hW1']; exact (H1.out.1.alloc _).rd
    refine rows2 ((H.out.2.1.below bw (Nat.le_refl _)).more bw.size) h2 hc H1.out.2.1
  have hfl : [xs, padB n].flatten.length = T := by rw [H0.out.2.2.2.2, ← H0.out.2.2.2.1, ← H.out.2.2.2]; simp
  have HW1 := Lib.hid (And.intro hrow (And.intro hrows (And.intro hfl (And.intro bw (And.intro aw hW1')))))
  clear hrow hrows hfl bw aw hW1'
  go_wp2_with (go_at_call 76; go_must (refine (Concat_any W1' _ _ 2 2 _ _ (Nat.le_refl _) HW1.out.1 HW1.out.2.1 T HW1.out.2.2.1 (by have := H0.out.2.2.2.2; omega) (by decide)).mono ?_); rintro e W2 ⟨A2, c2, rfl, hq2, hc2, hb2⟩; have H2 := Lib.hid (And.intro hq2 (And.intro hc2 hb2)); clear hq2 hc2 hb2)
  have b2 : Below w.heap.size w W2 := HW1.out.2.2.2.1.trans (H2.out.2.2.mono HW1.out.2.2.2.1.size)
  have hl := (H.out.1.below b2).start.load (P := Tryd.prog) (n := 8) rfl
  have hst := fun z (hz : Array.size z = 8) => (Arr.new W2 157 z).store (P := Tryd.prog) (V := stA startS) (by rw [hz, stA_size]) (stA_one _)
  have hs8 : (stA startS).size = 8 := rfl
  have B2 := Lib.hid b2
  clear b2
  go_simp
  go_wp2_with fail
  clear hl hst hs8
  generalize hW3 : World.setRow _ _ _ = W3
  have a3 : Arr W3 W2.heap.size 157 (stA startS) := by rw [← hW3]; exact (Arr.new W2 157 _).setRow _
  have hs2 : w.heap.size < W2.heap.size := by have := H2.out.2.2.size; have := HW1.out.2.2.2.1.size; have := HW1.out.2.2.2.2.1.lt; omega
  have k3 : Arr W3 w.heap.size 23 (keyA (List.replicate 32 0)) := by rw [← hW3]; exact ((HW1.out.2.2.2.2.1.below H2.out.2.2).alloc _).setRowOther (by omega) _
  have b3 : Below w.heap.size w W3 := by rw [← hW3]; exact Below.setRow_ (B2.out.alloc B2.out.size _) (by omega) _
  have q3 : QRow W3 w.heap.size 5 1 (.slice A2 T c2) T ((padded xs).map byt) := by
    rw [← hW3]
    have hq := (H2.out.1.base HW1.out.2.2.2.1.size)
    rw [show [xs, padB n].flatten = padded xs from by simp [padded, H.out.2.2.2]] at hq
    exact (hq.alloc _).setRowOther (fun g e => by have := (hq.lt g e).2; omega) _
  have HC := Lib.hid (And.intro hs2 (And.intro a3 (And.intro k3 (And.intro b3 q3))))
  clear hs2 a3 k3 b3 q3 hW3
  obtain ⟨m, hm, hm0⟩ := padded_len xs
  have hTm : T = 64 * m := by rw [← hm, H0.out.2.2.2.2, padded, List.length_append, H.out.2.2.2, H0.out.2.2.2.1]
  have HTm := Lib.hid hTm
  clear hTm
  have HM := Lib.hid (And.intro hm hm0)
  clear hm hm0
  go_loopw [0] (fun v wr => SumRel w W2.heap.size (padded xs) m v wr) (fun v _ => lenV v)
  case atStart =>
    refine ⟨0, A2, c2, Nat.zero_le _, by rw [Nat.sub_zero, HTm.out], ?_, HC.out.2.1, HC.out.2.2.1, HC.out.2.2.2.1⟩
    rw [Nat.sub_zero, ← HTm.out, Nat.mul_zero, List.drop_zero]
    exact HC.out.2.2.2.2
  case round =>
    obtain ⟨k, A', c', hk, rfl, hq, ha, hkk, hbw⟩ := hrel
    by_cases hlt : k < m
    · obtain ⟨g, off, rfl, hgb, hgl, hnc, hcm', hcell, hcg⟩ := hq.open_ (by omega)
      have hgne : g ≠ W2.heap.size := hcg.ne ⟨_, ha⟩ (by decide)
      obtain ⟨N, hN⟩ : ∃ N, N = 64 * (m - k) := ⟨_, rfl⟩
      have hN64 : 64 ≤ N := by omega
      have hNN : N - 64 = 64 * (m - (k + 1)) := by omega
      rw [← hN] at hq hnc ⊢
      have hnci : (64 : Int) ≤ (c' : Int) := by omega
      have hNi : (64 : Int) ≤ (N : Int) := by omega
      have hcmx : c' ≤ 9223372036854775807 := by unfold maxLen at hcm'; exact hcm'
      have hbl : (blk (padded xs) k).length = 64 := by rw [blk, List.length_take, List.length_drop, HM.out.1]; omega
      have hbc : ∀ j u, ((blk (padded xs) k).map byt)[j]? = some u → wr.cell? ⟨g, off + j, none⟩ = some u := fun j u hu => hcell j u (by
        rw [blk, List.map_take, List.getElem?_take] at hu
        split at hu
        · exact hu
        · cases hu)
      have hblt : ∀ b ∈ blk (padded xs) k, b < 256 := fun b hb => by
        have := List.mem_of_mem_drop (List.mem_of_mem_take hb)
        rcases List.mem_append.1 this with h | h
        · exact H.out.2.2.1 b h
        · exact padB_lt _ b h
      obtain ⟨sk, hsk⟩ : ∃ sk, sk = stAfter (padded xs) k := ⟨_, rfl⟩
      have hsk1 : stAfter (padded xs) (k + 1) = compress sk (blk (padded xs) k) := by rw [hsk, stAfter]
      rw [← hsk] at ha
      have HD := Lib.hid (And.intro hq (And.intro ha (And.intro hkk (And.intro hbw (And.intro hbl (And.intro hblt (And.intro hN (And.intro hNN (And.intro hsk hsk1)))))))))
      obtain ⟨bs, hbs⟩ : ∃ bs, bs = blk (padded xs) k := ⟨_, rfl⟩
      rw [← hbs] at hbc
      have HBS := Lib.hid hbs
      have HBC := Lib.hid (And.intro hbc hcell)
      clear hq ha hkk hbw hbl hblt hN hNN hsk hsk1 hcell hbc hbs hcm' hcg
      go_wp2_with fail
      refine wp_region_grow (R := Grew) (S := fun W => Arr W W2.heap.size 157 (stA sk) ∧ (∀ j u, (bs.map byt)[j]? = some u → W.cell? ⟨g, off + j, none⟩ = some u) ∧ g < W.heap.size ∧ Below wr.heap.size wr W) 6 (fun k => match k with
        | 5 => some ⟨fun (x : Ix) => .agg (stA (compress sk bs)), fun (x : Ix) W => True, fun _ _ _ _ _ _ => trivial⟩
        | _ => none) ⟨(none, 0, 0)⟩ (none, 0, 0) (by kernel_rfl) (by kernel_rfl) (fun W W' hr hS => ⟨hS.1.below hr, fun j u hu => (hr.cell (p := ⟨g, off + j, none⟩) hS.2.2.1).trans (hS.2.1 j u hu), Nat.lt_of_lt_of_le hS.2.2.1 hr.size, hS.2.2.2.trans (hr.mono hS.2.2.2.size)⟩) ⟨HD.out.2.1, HBC.out.1, hgl, (Below.refl _ _).drew⟩ ?_
      simp only [List.take_succ_cons, List.take_zero, List.drop_succ_cons, List.drop_zero]
      refine wpGrow_pure rfl rfl fun K hK => ?_
      apply Exists.intro
      constructor
      · intro W hS
        have hl := hS.1.load (P := Tryd.prog) (n := 8) rfl
        go_simp
        try with_reducible rfl
      go_simp
      refine hK _ ?_
      clear hK K
      refine wpGrow_pure rfl rfl fun K hK => ?_
      apply Exists.intro
      constructor
      · intro W hS
        go_simp
        try with_reducible rfl
      go_simp
      refine hK _ ?_
      clear hK K
      refine wpGrow_pure rfl rfl fun K hK => ?_
      apply Exists.intro
      constructor
      · intro W hS
        go_simp
        try with_reducible rfl
      go_simp
      refine hK _ ?_
      clear hK K
      refine wpGrow_pure rfl rfl fun K hK => ?_
      apply Exists.intro
      constructor
      · intro W hS
        have hl := run_arrayAt (P := Tryd.prog) (w := W) 153 5 64 (some ⟨g, off, none⟩) 64 c' Tryd.underlying153 (Nat.le_refl _)
        go_simp
        try with_reducible rfl
      go_simp
      refine hK _ ?_
      clear hK K
      refine wpGrow_pure rfl rfl fun K hK => ?_
      apply Exists.intro
      constructor
      · intro W hS
        have hl := run_load_mid (P := Tryd.prog) (n := 64) (bs.map byt) (by rw [List.length_map, HBS.out]; exact HD.out.2.2.2.2.1) hS.2.1
        go_simp
        try with_reducible rfl
      go_simp
      refine hK _ ?_
      clear hK K
      refine wpGrow_told rfl rfl (fun W hS hD => ?_) (fun x5 K hK => ?_)
      · simp [KnowsAll, Knows, Region.binds, upd] at hD
        go_simp
        have htab : Arr W 1 181 tabK := ((H.out.1.below HD.out.2.2.2.1).tab.below hS.2.2.2)
        refine ⟨Below.refl _ _, (Block_any W htab sk bs (by rw [HBS.out]; exact HD.out.2.2.2.2.1) (by rw [HBS.out]; exact HD.out.2.2.2.2.2.1)).mono ?_⟩
        rintro e w' ⟨rfl, hw⟩
        exact ⟨rfl, hw⟩
      go_simp
      refine hK _ ?_
      clear hK K
      refine wpGrow_nil fun W hS hD => ?_
      have hD5 := hD 5 (by decide)
      simp [Knows, upd] at hD5
      clear hD
      have hst := hS.1.store (P := Tryd.prog) (V := stA (compress sk bs)) (by rw [stA_size, stA_size]) (stA_one _)
      have hs8 := stA_size (compress sk bs)
      have HS := Lib.hid hS
      clear hS
      go_wp2_with fail
      all_goals
        go_roundw
        case rel =>
          obtain ⟨h1, h2, h3, h4⟩ := HS.out
          obtain ⟨d1, d2, d3, d4, d5, d6, d7, d8, d9, d10⟩ := HD.out
          have hlt2 := HC.out.1
          refine ⟨k + 1, _, _, by omega, by rw [← d8], ?_, ?_, ?_, ?_⟩
          · rw [← d8, show 64 * (k + 1) = 64 * k + 64 from by omega, ← List.drop_drop, List.map_drop]
            have hq' := ((d1.below h4 fun g e => (d1.lt g e).2).drop hN64 _ rfl).setRowOther (fun g' e => by rw [← own_if e]; exact hgne) (stA (compress sk bs))
            simpa [*] using hq'
          · rw [d10, ← HBS.out]; exact h1.setRow _
          · exact (d3.below h4).setRowOther (by omega) _
          · exact Below.setRow_ (d4.trans (h4.mono d4.size)) (by omega) _
        case measure => simp [lenV]; omega
    · obtain rfl : k = m := by omega
      have hw2 := HC.out.1
      rw [Nat.sub_self, Nat.mul_zero] at hq ⊢
      obtain ⟨s, hs⟩ : ∃ s, s = stAfter (padded xs) k := ⟨_, rfl⟩
      rw [← hs] at ha
      have hl := ha.load (P := Tryd.prog) (n := 8) (stA_size s)
      have hld := fun z => (ha.alloc (.cells z 23)).load (P := Tryd.prog) (n := 8) (stA_size s)
      have hs8 := stA_size s
      have HD := Lib.hid (And.intro hq (And.intro ha (And.intro hkk (And.intro hbw hs))))
      clear hq ha hkk hbw hs hl
      go_wp2_with fail
      clear hld
      generalize hW4 : World.alloc _ _ = W4
      have a4 : Arr W4 wr.heap.size 23 (keyA (outB s 0)) := by rw [← hW4]; exact Arr.new wr 23 _
      have k4 : Arr W4 w.heap.size 23 (keyA (List.replicate 32 0)) := by rw [← hW4]; exact HD.out.2.2.1.alloc _
      have b4 : Below w.heap.size w W4 := by rw [← hW4]; exact HD.out.2.2.2.1.alloc HD.out.2.2.2.1.size _
      have l4 : w.heap.size < wr.heap.size := HD.out.2.2.1.lt
      have H4 := Lib.hid (And.intro a4 (And.intro k4 (And.intro b4 l4)))
      clear a4 k4 b4 l4 hW4
      have Hss := Lib.hid HD.out.2.2.2.2
      clear HD
      generalize wr.heap.size = b4 at *
      go_loopw [26] (fun v wr => Sum2Rel w b4 s v wr) (fun v _ => 8 - (intOf v).toNat)
      case atStart => exact ⟨0, Nat.zero_le _, rfl, H4.out⟩
      case round =>
        obtain ⟨j, hj, rfl, h1, h2, h3, h4⟩ := hrel
        by_cases hlt2 : j < 8
        · have hix : (Instr.index 157 (.agg (stA s)) (.int .i64 (j : Int))).run Tryd.prog wr = .ok (wrd (s.get j)) wr := by
            obtain ⟨i0, hi, hz0, hz1, hz2⟩ := info_parts info56
            exact run_index_arr Tryd.underlying157 Tryd.underlying56 rfl hi hz1 hlt2 (stA_cell s hlt2)
          have hq1 : (0 : Int) ≤ 4 * (j : Int) := by omega
          have hq2 : (4 : Int) * (j : Int) ≤ 32 := by omega
          have hq0 : IntKind.i64.wrap (4 * (j : Int)) = 4 * (j : Int) := IntWalk.i64_in _ (by omega)
          have hq3 : (4 * (j : Int)).toNat = 4 * j := by omega
          have hq4 : ¬ 32 = 4 * j := by omega
          obtain ⟨xw, hx⟩ : ∃ xw, xw = s.get j := ⟨_, rfl⟩
          rw [← hx] at hix
          have HE := Lib.hid (And.intro h1 (And.intro h2 (And.intro h3 (And.intro h4 hx))))
          clear h1 h2 h3 h4 hx
          go_wp2_with fail
          clear hix
          refine wp_region_grow (R := Grew) (S := fun W => Below wr.heap.size wr W) 6 (fun k => match k with
            | 5 => some ⟨fun (x : Ix) => .slice (some ⟨x.2.1, 0, none⟩) 4 4, fun (x : Ix) W => NewRow (highB xw.toNat 4) W x.2.1, fun _ _ _ hr _ h => h.keep hr⟩
            | _ => none) ⟨(none, 0, 0)⟩ (none, 0, 0) (by kernel_rfl) (by kernel_rfl) (grew_stays wr) (Below.refl _ _).drew ?_
          simp only [List.take_succ_cons, List.take_zero, List.drop_succ_cons, List.drop_zero]
          refine wpGrow_pure rfl rfl fun K hK => ?_
          apply Exists.intro
          constructor
          · intro W hS
            go_simp
            try with_reducible rfl
          go_simp
          refine hK _ ?_
          clear hK K
          refine wpGrow_pure rfl rfl fun K hK => ?_
          apply Exists.intro
          constructor
          · intro W hS
            go_simp
            try with_reducible rfl
          go_simp
          refine hK _ ?_
          clear hK K
          refine wpGrow_pure rfl rfl fun K hK => ?_
          apply Exists.intro
          constructor
          · intro W hS
            go_simp
            try with_reducible rfl
          go_simp
          refine hK _ ?_
          clear hK K
          refine wpGrow_pure rfl rfl fun K hK => ?_
          apply Exists.intro
          constructor
          · intro W hS
            go_simp
            try with_reducible rfl
          go_simp
          refine hK _ ?_
          clear hK K
          refine wpGrow_pure rfl rfl fun K hK => ?_
          apply Exists.intro
          constructor
          · intro W hS
            go_simp
            try with_reducible rfl
          go_simp
          refine hK _ ?_
          clear hK K
          refine wpGrow_told rfl rfl (fun W hS hD => ?_) (fun x5 K hK => ?_)
          · simp [KnowsAll, Knows, Region.binds, upd] at hD
            go_simp
            rw [wide32]
            refine ⟨Below.refl _ _, (High_any W xw.toNat 4 (by decide) (by decide)).mono ?_⟩
            rintro e w' ⟨b, rfl, _, ha, hw⟩
            exact ⟨_, rfl, hw, b, rfl, ha⟩
          go_simp
          refine hK _ ?_
          clear hK K
          refine wpGrow_nil fun W hS hD => ?_
          have hD5 := hD 5 (by decide)
          simp [Knows, upd] at hD5
          clear hD
          have a5 : Arr W b4 23 (keyA (outB s j)) := HE.out.1.below hS
          have k5 : Arr W w.heap.size 23 (keyA (List.replicate 32 0)) := HE.out.2.1.below hS
          have b5 : Below w.heap.size w W := HE.out.2.2.1.trans (hS.mono HE.out.2.2.1.size)
          have hl4 := outB_len s hj
          have hcs : ∀ i u, ((highB xw.toNat 4).map byt)[i]? = some u → W.cell? ((⟨x5.2.1, 0, none⟩ : Addr).add i) = some u := fun i u hu => by
            rw [Addr.add_lit, Nat.zero_add, Arr.cell hD5]
            simpa using hu
          have hb4 := HE.out.2.2.2.1
          refine wpList_copy_splice rfl (.tmp 32) (.tmp 35) 57 57 rfl 5 Tryd.underlying57 info23 _ _ _ _ _ _ rfl rfl b4 (4 * j) ((outB s j).map byt) 23 a5 ((highB xw.toNat 4).map byt) (by rw [List.length_map, highB_len]; exact (Nat.min_eq_left (by omega)).symm) (fun _ => ⟨rfl, _, rfl, hcs⟩) (by simp [highB_len, hl4]; omega) (by simp [byt, Value.oneCell']) b4 W (Below.refl _ _) (Nat.le_refl _) ?_
          intro w5 hh hb5
          rw [HE.out.2.2.2.2, outB_splice s hlt2] at hh
          have k6 : Arr w5 w.heap.size 23 (keyA (List.replicate 32 0)) := k5.keep (hb5.block _ hb4)
          have H6 := Lib.hid (And.intro hh.out (And.intro k6 (b5.trans (hb5.mono (Nat.le_of_lt hb4)))))
          clear hh k6 hb5 a5 k5 b5 hcs hl4 hS hD5
          go_wp2
          go_roundw
          case rel => exact ⟨j + 1, by omega, by go_num, H6.out.1, H6.out.2.1, H6.out.2.2, hb4⟩
          case measure => simp [intOf]; omega
        · obtain rfl : j = 8 := by omega
          have hl := h1.load (P := Tryd.prog) (n := 32) (by rw [keyA_size, outB_len s (by decide)])
          obtain ⟨D, hD⟩ : ∃ D, D = outB s 8 := ⟨_, rfl⟩
          rw [← hD] at hl
          have hst := h2.store (P := Tryd.prog) (V := keyA D) (by rw [keyA_size, keyA_size, hD, outB_len s (by decide)]; rfl) (keyA_one _)
          have hl2 := (h2.setRow (keyA D)).load (P := Tryd.prog) (n := 32) (by rw [keyA_size, hD, outB_len s (by decide)])
          have hDs : (keyA D).size = 32 := by rw [keyA_size, hD, outB_len s (by decide)]
          have HE := Lib.hid (And.intro h1 (And.intro h2 (And.intro h3 (And.intro h4 hD))))
          clear h1 h2 h3 h4 hD
          go_wp2
          refine bodyPost_ret (v := .agg (keyA D)) (by simp [results, Tryd.results78, go_sem, hl2, hDs]) rfl ⟨?_, ?_⟩
          · rw [HE.out.2.2.2.2, digest, HM.out.1, Nat.mul_div_cancel_left _ (by decide), ← Hss.out]
            simp [outB]
          · exact Below.setRow_ HE.out.2.2.1 (Nat.le_refl _) _
end Go.Proofs.YtejifhdkgfilgaaDoor
