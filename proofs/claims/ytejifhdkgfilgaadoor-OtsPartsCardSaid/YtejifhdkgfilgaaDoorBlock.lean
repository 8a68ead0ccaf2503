/- The compression. -/
import Derived.Test.YtejifhdkgfilgaaDoorSched
namespace Go.Proofs.YtejifhdkgfilgaaDoor
open Go.RowKit
structure St where
  (a b c d e f g h : W32)
/-- eight words as an array -/
def stA (s : St) : Array Value := #[wrd s.a, wrd s.b, wrd s.c, wrd s.d, wrd s.e, wrd s.f, wrd s.g, wrd s.h]
def St.get (s : St) : Nat → W32
  | 0 => s.a
  | 1 => s.b
  | 2 => s.c
  | 3 => s.d
  | 4 => s.e
  | 5 => s.f
  | 6 => s.g
  | _ => s.h
theorem stA_get (s : St) : stA s = ((List.range 8).map fun i => wrd (s.get i)).toArray := rfl
theorem stA_cell (s : St) {i : Nat} (h : i < 8) : (stA s)[i]? = some (wrd (s.get i)) := by
  rw [stA_get]
  simp [h]
def tOne (s : St) (k w : W32) : W32 := s.h + (rr s.e 6 ^^^ rr s.e 11 ^^^ rr s.e 25) + ((s.e &&& s.f) ^^^ (~~~s.e &&& s.g)) + k + w
def tTwo (s : St) : W32 := (rr s.a 2 ^^^ rr s.a 13 ^^^ rr s.a 22) + ((s.a &&& s.b) ^^^ (s.a &&& s.c) ^^^ (s.b &&& s.c))
def roundS (s : St) (k w : W32) : St := ⟨tOne s k w + tTwo s, s.a, s.b, s.c, s.d + tOne s k w, s.e, s.f, s.g⟩
def roundsS (K W : Nat → W32) (s : St) : Nat → St
  | 0 => s
  | i + 1 => roundS (roundsS K W s i) (K i) (W i)
def addS (s t : St) : St := ⟨s.a + t.a, s.b + t.b, s.c + t.c, s.d + t.d, s.e + t.e, s.f + t.f, s.g + t.g, s.h + t.h⟩
theorem stA_add (s t : St) : stA (addS s t) = ((List.range 8).map fun i => wrd (s.get i + t.get i)).toArray := rfl
/-- the rounds' numbers -/
def kTab : List Nat := [0x428a2f98, 0x71374491, 0xb5c0fbcf, 0xe9b5dba5, 0x3956c25b, 0x59f111f1, 0x923f82a4, 0xab1c5ed5,
  0xd807aa98, 0x12835b01, 0x243185be, 0x550c7dc3, 0x72be5d74, 0x80deb1fe, 0x9bdc06a7, 0xc19bf174,
  0xe49b69c1, 0xefbe4786, 0x0fc19dc6, 0x240ca1cc, 0x2de92c6f, 0x4a7484aa, 0x5cb0a9dc, 0x76f988da,
  0x983e5152, 0xa831c66d, 0xb00327c8, 0xbf597fc7, 0xc6e00bf3, 0xd5a79147, 0x06ca6351, 0x14292967,
  0x27b70a85, 0x2e1b2138, 0x4d2c6dfc, 0x53380d13, 0x650a7354, 0x766a0abb, 0x81c2c92e, 0x92722c85,
  0xa2bfe8a1, 0xa81a664b, 0xc24b8b70, 0xc76c51a3, 0xd192e819, 0xd6990624, 0xf40e3585, 0x106aa070,
  0x19a4c116, 0x1e376c08, 0x2748774c, 0x34b0bcb5, 0x391c0cb3, 0x4ed8aa4a, 0x5b9cca4f, 0x682e6ff3,
  0x748f82ee, 0x78a5636f, 0x84c87814, 0x8cc70208, 0x90befffa, 0xa4506ceb, 0xbef9a3f7, 0xc67178f2]
/-- the table as it lies in memory -/
def tabK : Array Value := (kTab.map fun (n : Nat) => Value.int .u32 (n : Int)).toArray
def kWord (i : Nat) : W32 := BitVec.ofNat 32 (kTab.getD i 0)
def compress (s : St) (xs : List Nat) : St := addS (roundsS kWord (sched (blockWord xs)) s 64) s
theorem info56 : (Tryd.prog.info? 56).map (fun i => (i.zero, i.size, i.bytes)) = some (some (.int .u32 0), 1, 4) := by kernel_rfl
theorem not32 (x : W32) : bits BinOp.xor IntKind.u32 IntKind.u32.max (x.toNat : Int) = ((~~~x).toNat : Int) := by
  have := xor32 (BitVec.allOnes 32) x
  rw [BitVec.allOnes_xor] at this
  exact this
theorem sum5 (x y z u v : W32) : ((x.toNat : Int) + (y.toNat : Int) + (z.toNat : Int) + (u.toNat : Int) + (v.toNat : Int)) % 4294967296 = ((x + y + z + u + v).toNat : Int) := by
  simp only [BitVec.toNat_add]
  omega
theorem sum2 (x y : W32) : ((x.toNat : Int) + (y.toNat : Int)) % 4294967296 = ((x + y).toNat : Int) := by
  simp only [BitVec.toNat_add]
  omega
theorem tOne_eq (R : St) (k w : W32) : ((R.h.toNat : Int) + bits BinOp.xor IntKind.u32 (bits BinOp.xor IntKind.u32 ((rr R.e 6).toNat : Int) ((rr R.e 11).toNat : Int)) ((rr R.e 25).toNat : Int) +
      bits BinOp.xor IntKind.u32 (bits BinOp.and IntKind.u32 (R.e.toNat : Int) (R.f.toNat : Int)) (bits BinOp.and IntKind.u32 (bits BinOp.xor IntKind.u32 IntKind.u32.max (R.e.toNat : Int)) (R.g.toNat : Int)) +
      (k.toNat : Int) + (w.toNat : Int)) % 4294967296 = ((tOne R k w).toNat : Int) := by
  rw [not32, xor32, xor32, and32, and32, xor32, sum5]; rfl
theorem tTwo_eq (R : St) : (bits BinOp.xor IntKind.u32 (bits BinOp.xor IntKind.u32 ((rr R.a 2).toNat : Int) ((rr R.a 13).toNat : Int)) ((rr R.a 22).toNat : Int) +
      bits BinOp.xor IntKind.u32 (bits BinOp.xor IntKind.u32 (bits BinOp.and IntKind.u32 (R.a.toNat : Int) (R.b.toNat : Int)) (bits BinOp.and IntKind.u32 (R.a.toNat : Int) (R.c.toNat : Int)))
        (bits BinOp.and IntKind.u32 (R.b.toNat : Int) (R.c.toNat : Int))) % 4294967296 = ((tTwo R).toNat : Int) := by
  rw [xor32, xor32, and32, and32, and32, xor32, xor32, sum2]; rfl
theorem tA_eq (x : W32) (R : St) : ((x.toNat : Int) + (bits BinOp.xor IntKind.u32 (bits BinOp.xor IntKind.u32 ((rr R.a 2).toNat : Int) ((rr R.a 13).toNat : Int)) ((rr R.a 22).toNat : Int) +
      bits BinOp.xor IntKind.u32 (bits BinOp.xor IntKind.u32 (bits BinOp.and IntKind.u32 (R.a.toNat : Int) (R.b.toNat : Int)) (bits BinOp.and IntKind.u32 (R.a.toNat : Int) (R.c.toNat : Int)))
        (bits BinOp.and IntKind.u32 (R.b.toNat : Int) (R.c.toNat : Int)))) % 4294967296 = ((x + tTwo R).toNat : Int) := by
  rw [← sum2, ← tTwo_eq]; omega
theorem kTab_lt : ∀ n ∈ kTab, n < 4294967296 := by decide
theorem tabK_get {k : Nat} (h : k < 64) : tabK[k]? = some (wrd (kWord k)) := by
  have hl : kTab.length = 64 := rfl
  have hk : k < kTab.length := by omega
  have hlt : kTab.getD k 0 < 4294967296 := by rw [List.getD_eq_getElem?_getD, List.getElem?_eq_getElem hk]; exact kTab_lt _ (List.getElem_mem _)
  unfold kWord
  rw [wrd_ofNat hlt, tabK]
  simp [hk]
attribute [-go_sem] loadCellsFrom storeCells
attribute [local go_sem] storeCells_one
set_option maxRecDepth 100000 in
set_option maxHeartbeats 400000 in
theorem Block_any (w : World) (hg : Arr w 1 181 tabK) (s : St) (xs : List Nat) (hl : xs.length = 64) (hb : ∀ b ∈ xs, b < 256) :
    Calls Tryd.prog 103 #[.agg (stA s), .agg (xs.map byt).toArray] w fun e w' => e = .returned (.agg (stA (compress s xs))) ∧ Below w.heap.size w w' := by
  have HX := Lib.hid (And.intro hl hb)
  have HG := Lib.hid hg
  clear hl hb hg
  go_enter Tryd.func103, Tryd.ntmps103
  have hs8 : (stA s).size = 8 := rfl
  have hl1 := fun z => (((Arr.new w 157 (stA s)).alloc (.cells (xs.map byt).toArray 153)).alloc (.cells z 157)).load (P := Tryd.prog) (n := 8) rfl
  have hst := fun z z' (hz : Array.size z' = 8) => (Arr.new_at (((w.alloc (.cells (stA s) 157)).alloc (.cells (xs.map byt).toArray 153)).alloc (.cells z 157)) 157 z' (H := w.heap.size + 1 + 1 + 1) (by simp)).store (P := Tryd.prog) (V := stA s) (by rw [hz]; rfl) (by simp [stA, Value.oneCell'])
  go_wp2_with fail
  clear hl1 hst
  generalize hW : World.setRow _ _ _ = W
  have A1 : Arr W w.heap.size 157 (stA s) := by rw [← hW]; exact ((((Arr.new w 157 _).alloc _).alloc _).alloc _).setRowOther (by omega) _
  have A2 : Arr W (w.heap.size + 1) 153 (xs.map byt).toArray := by rw [← hW]; exact (((Arr.new_at _ 153 _ (by simp)).alloc _).alloc _).setRowOther (by omega) _
  have A3 : Arr W (w.heap.size + 1 + 1) 157 (stA ⟨0, 0, 0, 0, 0, 0, 0, 0⟩) := by rw [← hW]; exact ((Arr.new_at _ 157 _ (by simp)).alloc _).setRowOther (by omega) _
  have A5 : Arr W (w.heap.size + 1 + 1 + 1) 157 (stA s) := by rw [← hW]; exact (Arr.new_at _ 157 _ (by simp)).setRow _
  have hB : Below w.heap.size w W := by rw [← hW]; exact Below.setRow_ (((((Below.refl _ w).alloc (Nat.le_refl _) _).alloc (by simp) _).alloc (by simp; omega) _).alloc (by simp; omega) _) (by omega) _
  have HW := Lib.hid hW
  clear hW
  have hl2 := A2.load (P := Tryd.prog) (n := 64) (by simp [HX.out.1])
  have hX64 : xs.length = 64 := HX.out.1
  have HA := Lib.hid (And.intro (And.intro A1 A3) (And.intro A5 hB))
  clear A1 A2 A3 A5 hB
  go_simp
  go_wp2_with (go_at_call 125; go_must (refine (words_any W xs HX.out.1 HX.out.2).mono ?_); rintro e W1 ⟨rfl, hW1⟩)
  obtain ⟨T, hT⟩ : ∃ T, T = fillA (fun i => wrd (sched (blockWord xs) i)) (.int .u32 0) 64 64 := ⟨_, rfl⟩
  rw [← hT]
  have HT := Lib.hid hT
  have HC := Lib.hid (show Arr W1 w.heap.size 157 (stA s) ∧ Arr W1 (w.heap.size + 1 + 1) 157 (stA ⟨0, 0, 0, 0, 0, 0, 0, 0⟩) ∧ Arr W1 (w.heap.size + 1 + 1 + 1) 157 (stA s) ∧ Below w.heap.size w W1 from
    ⟨HA.out.1.1.below hW1, HA.out.1.2.below hW1, HA.out.2.1.below hW1, HA.out.2.2.trans (hW1.mono (by have := HA.out.2.2.size; omega))⟩)
  have HL2 := Lib.hid hl2
  clear hT hl2 hW1 hX64
  go_loopw [20] (fun i wr => ∃ k : Nat, k ≤ 64 ∧ i = .int .i64 k ∧ Arr wr w.heap.size 157 (stA s) ∧ Arr wr (w.heap.size + 1 + 1) 157 (stA ⟨0, 0, 0, 0, 0, 0, 0, 0⟩) ∧ Arr wr (w.heap.size + 1 + 1 + 1) 157 (stA (roundsS kWord (sched (blockWord xs)) s k)) ∧ Below w.heap.size w wr) (fun i _ => 64 - (intOf i).toNat)
  case atStart => exact ⟨0, Nat.zero_le _, rfl, HC.out⟩
  case round =>
    obtain ⟨k, hk, rfl, h1, h3, h5, hbw⟩ := hrel
    by_cases hlt : k < 64
    · have hTk : T[k]? = some (wrd (sched (blockWord xs) k)) := by rw [HT.out, fillA_get, if_pos hlt, if_pos hlt]
      obtain ⟨wk, hwk⟩ : ∃ wk, wk = sched (blockWord xs) k := ⟨_, rfl⟩
      obtain ⟨R, hR⟩ : ∃ R, R = roundsS kWord (sched (blockWord xs)) s k := ⟨_, rfl⟩
      rw [← hwk] at hTk
      rw [← hR] at h5
      have c0 : wr.cell? ⟨w.heap.size + 1 + 1 + 1, 0, none⟩ = some (wrd R.a) := h5.cell 0
      have c1 : wr.cell? ⟨w.heap.size + 1 + 1 + 1, 1, none⟩ = some (wrd R.b) := h5.cell 1
      have c2 : wr.cell? ⟨w.heap.size + 1 + 1 + 1, 2, none⟩ = some (wrd R.c) := h5.cell 2
      have c3 : wr.cell? ⟨w.heap.size + 1 + 1 + 1, 3, none⟩ = some (wrd R.d) := h5.cell 3
      have c4 : wr.cell? ⟨w.heap.size + 1 + 1 + 1, 4, none⟩ = some (wrd R.e) := h5.cell 4
      have c5 : wr.cell? ⟨w.heap.size + 1 + 1 + 1, 5, none⟩ = some (wrd R.f) := h5.cell 5
      have c6 : wr.cell? ⟨w.heap.size + 1 + 1 + 1, 6, none⟩ = some (wrd R.g) := h5.cell 6
      have c7 : wr.cell? ⟨w.heap.size + 1 + 1 + 1, 7, none⟩ = some (wrd R.h) := h5.cell 7
      have hix : (Instr.index 181 (.agg T) (.int .i64 (k : Int))).run Tryd.prog wr = .ok (wrd wk) wr := by
        obtain ⟨i0, hi, hz0, hz1, hz2⟩ := info_parts info56
        exact run_index_arr Tryd.underlying181 Tryd.underlying56 rfl hi hz1 hlt hTk
      have HD := Lib.hid (And.intro (And.intro h1 (And.intro h3 (And.intro h5 hbw))) (And.intro (And.intro hwk hR) hTk))
      clear h1 h3 h5 hbw hwk hR hTk
      go_wp2_with fail
      clear hix
      go_quiet (fail)
      have hq0 : (0 : Int) ≤ (k : Int) := by omega
      have hkw : wr.cell? ⟨1, k, none⟩ = some (wrd (kWord k)) := (HD.out.1.2.2.2.cell (p := ⟨1, k, none⟩) HG.out.lt).trans (by rw [HG.out.cell, tabK_get hlt])
      obtain ⟨kk, hkk⟩ : ∃ kk, kk = kWord k := ⟨_, rfl⟩
      rw [← hkk] at hkw
      have HK := Lib.hid hkk
      clear hkk
      go_wp2_with fail
      go_quiet ((go_at_call 126; exact qa_same (right_q _ _ _ (by decide) (by decide))))
      go_wp2_with fail
      rw [tOne_eq]
      obtain ⟨x1, hx1⟩ : ∃ x1, x1 = tOne R kk wk := ⟨_, rfl⟩
      rw [← hx1]
      have HX1 := Lib.hid hx1
      clear hx1
      go_wp2_with (go_at_call 126; go_must (refine (right_any _ _ _ (by decide) (by decide)).mono ?_); rintro e w' ⟨rfl, rfl⟩)
      rw [tA_eq, sum2]
      obtain ⟨y1, hy1⟩ : ∃ y1, y1 = x1 + tTwo R := ⟨_, rfl⟩
      obtain ⟨y2, hy2⟩ : ∃ y2, y2 = R.d + x1 := ⟨_, rfl⟩
      rw [← hy1, ← hy2]
      have hrs : roundS R kk wk = ⟨y1, R.a, R.b, R.c, y2, R.e, R.f, R.g⟩ := by rw [hy1, hy2, HX1.out]; rfl
      have HR := Lib.hid hrs
      clear hy1 hy2 hrs
      have hst2 := fun n => (HD.out.1.2.2.1.drewN n).store (P := Tryd.prog) (V := stA ⟨y1, R.a, R.b, R.c, y2, R.e, R.f, R.g⟩) rfl (by simp [stA, Value.oneCell'])
      simp only [stA] at hst2
      go_simp
      clear hst2
      go_wp2
      go_roundw
      case rel =>
        obtain ⟨⟨h1, h3, h5, hbw⟩, ⟨hwk, hR⟩, _⟩ := HD.out
        refine ⟨k + 1, by omega, by go_num, (h1.drewN _).setRowOther (by omega) _, (h3.drewN _).setRowOther (by omega) _, ?_, Below.setRow_ (below_drewN_ hbw _) (by omega) _⟩
        rw [show roundsS kWord (sched (blockWord xs)) s (k + 1) = ⟨y1, R.a, R.b, R.c, y2, R.e, R.f, R.g⟩ from by rw [← HR.out, roundsS, ← hwk, ← hR, HK.out]]
        exact (h5.drewN _).setRow _
      case measure => simp [intOf]; omega
    · obtain rfl : k = 64 := by omega
      rw [show ((64 : Nat) : Int) = 64 from rfl]
      go_wp2_with fail
      obtain ⟨R, hR⟩ : ∃ R, R = roundsS kWord (sched (blockWord xs)) s 64 := ⟨_, rfl⟩
      rw [← hR] at h5
      have HR := Lib.hid hR
      have HE := Lib.hid (And.intro h1 (And.intro h3 (And.intro h5 hbw)))
      clear h1 h3 h5 hbw hR
      go_loopw [97] (fun i wr => ∃ j : Nat, j ≤ 8 ∧ i = .int .i64 j ∧ Arr wr w.heap.size 157 (stA s) ∧ Arr wr (w.heap.size + 1 + 1) 157 (stA ⟨0, 0, 0, 0, 0, 0, 0, 0⟩) ∧ Arr wr (w.heap.size + 1 + 1 + 1) 157 (partA (fun i => wrd (R.get i + s.get i)) (fun i => wrd (R.get i)) j 8) ∧ Below w.heap.size w wr) (fun i _ => 8 - (intOf i).toNat)
      case atStart => exact ⟨0, Nat.zero_le _, rfl, HE.out.1, HE.out.2.1, by rw [partA_zero, ← stA_get]; exact HE.out.2.2.1, HE.out.2.2.2⟩
      case round =>
        obtain ⟨j, hj, rfl, h1, h3, h5, hbw⟩ := hrel
        by_cases hlt : j < 8
        · have c1 : wr.cell? ⟨w.heap.size, j, none⟩ = some (wrd (s.get j)) := by rw [h1.cell, stA_cell _ hlt]
          have c5 : wr.cell? ⟨w.heap.size + 1 + 1 + 1, j, none⟩ = some (wrd (R.get j)) := by rw [h5.cell, partA_get, if_pos hlt, if_neg (by omega)]
          have hz := h5.frozen j
          have hq0 : (0 : Int) ≤ (j : Int) := by omega
          obtain ⟨sj, hsj⟩ : ∃ x, x = s.get j := ⟨_, rfl⟩
          obtain ⟨rj, hrj⟩ : ∃ x, x = R.get j := ⟨_, rfl⟩
          rw [← hsj] at c1
          rw [← hrj] at c5
          have HF := Lib.hid (And.intro h1 (And.intro h3 (And.intro h5 (And.intro hbw (And.intro hsj hrj)))))
          clear h1 h3 h5 hbw hsj hrj
          go_wp2_with fail
          go_region
          all_goals
            go_wp2
            go_roundw
            case rel =>
              obtain ⟨h1, h3, h5, hbw, hsj, hrj⟩ := HF.out
              exact ⟨j + 1, by omega, by go_num, (h1.drewN _).setOther (p := ⟨w.heap.size + 1 + 1 + 1, j, none⟩) (by simp; omega) _, (h3.drewN _).setOther (p := ⟨w.heap.size + 1 + 1 + 1, j, none⟩) (by simp) _,
                (h5.drewN _).setPart _ (by rw [← hsj, ← hrj, sum2]), (below_drewN_ hbw _).setCell (p := ⟨w.heap.size + 1 + 1 + 1, j, none⟩) (by simp; omega) _⟩
            case measure => simp [intOf]; omega
        · obtain rfl : j = 8 := by omega
          rw [partA_all, ← stA_add] at h5
          have hl := h5.load (P := Tryd.prog) (n := 8) rfl
          have hst := h3.store (P := Tryd.prog) (V := stA (addS R s)) rfl (by simp [stA, Value.oneCell'])
          have hl2 := (h3.setRow (stA (addS R s))).load (P := Tryd.prog) (n := 8) rfl
          have hVs : (stA (addS R s)).size = 8 := rfl
          have HF := Lib.hid (And.intro h1 (And.intro h3 (And.intro h5 hbw)))
          clear h1 h3 h5 hbw
          go_wp2
          refine bodyPost_ret (v := .agg (stA (addS R s))) (by simp [results, Tryd.results103, go_sem, hl2, hVs]) rfl ⟨?_, ?_⟩
          · rw [HR.out]; rfl
          · exact Below.setRow_ HF.out.2.2.2 (by omega) _
end Go.Proofs.YtejifhdkgfilgaaDoor
