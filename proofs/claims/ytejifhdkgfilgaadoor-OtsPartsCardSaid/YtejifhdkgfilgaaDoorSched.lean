/- The words of a block, and those that come of them. -/
import Derived.Test.YtejifhdkgfilgaaDoorOfHigh
import Derived.StillTailTactics
namespace Go.Proofs.YtejifhdkgfilgaaDoor
open Go.RowKit
def sig0 (x : W32) : W32 := rr x 7 ^^^ rr x 18 ^^^ (x >>> 3)
def sig1 (x : W32) : W32 := rr x 17 ^^^ rr x 19 ^^^ (x >>> 10)
/-- the words, the first sixteen given -/
def sched (B : Nat → W32) (i : Nat) : W32 :=
  if h : i < 16 then B i else sched B (i - 16) + sig0 (sched B (i - 15)) + sched B (i - 7) + sig1 (sched B (i - 2))
theorem sched_lt {B : Nat → W32} {i : Nat} (h : i < 16) : sched B i = B i := by rw [sched, dif_pos h]
theorem sched_ge {B : Nat → W32} (j : Nat) : sched B (j + 16) = sched B j + sig0 (sched B (j + 1)) + sched B (j + 9) + sig1 (sched B (j + 14)) := by
  rw [sched, dif_neg (by omega)]; rfl
/-- a block's i-th word -/
def blockWord (xs : List Nat) (i : Nat) : W32 := BitVec.ofNat 32 (ofHigh ((xs.drop (4 * i)).take 4))
theorem Arr.rdOff {w : World} {b : Nat} {t : TypeId} {xs : List Nat} (h : Arr w b t (xs.map byt).toArray) (i n : Nat) (hn : i + n ≤ xs.length) (B : Nat) (hB : b < B) : Rd w B (some ⟨b, i, none⟩) n (((xs.drop i).take n).map byt) :=
  ⟨by simp; omega, fun _ => ⟨_, rfl, hB, fun j u hu => by
    rw [Addr.add_lit, h.cell]
    simp only [List.getElem?_map, List.getElem?_take, List.getElem?_drop] at hu
    split at hu
    · simpa using hu
    · cases hu⟩⟩
theorem wrd_ofNat {m : Nat} (h : m < 4294967296) : wrd (BitVec.ofNat 32 m) = .int .u32 (m : Int) := by
  simp only [wrd, BitVec.toNat_ofNat, Value.int.injEq, true_and]
  omega
theorem sig0_eq (x : W32) : bits BinOp.xor IntKind.u32 (bits BinOp.xor IntKind.u32 ((rr x 7).toNat : Int) ((rr x 18).toNat : Int)) ((x.toNat : Int) / 8) = ((sig0 x).toNat : Int) := by
  have := div32 x 3
  rw [xor32, show (8 : Int) = 2 ^ 3 from rfl, this, xor32]; rfl
theorem sig1_eq (x : W32) : bits BinOp.xor IntKind.u32 (bits BinOp.xor IntKind.u32 ((rr x 17).toNat : Int) ((rr x 19).toNat : Int)) ((x.toNat : Int) / 1024) = ((sig1 x).toNat : Int) := by
  have := div32 x 10
  rw [xor32, show (1024 : Int) = 2 ^ 10 from rfl, this, xor32]; rfl
theorem sum4 (x y z u : W32) : ((x.toNat : Int) + (y.toNat : Int) + (z.toNat : Int) + (u.toNat : Int)) % 4294967296 = ((x + y + z + u).toNat : Int) := by
  simp only [BitVec.toNat_add]
  omega
theorem zeros64 : (#[Value.int IntKind.u32 0, Value.int IntKind.u32 0, Value.int IntKind.u32 0, Value.int IntKind.u32 0, Value.int IntKind.u32 0, Value.int IntKind.u32 0, Value.int IntKind.u32 0, Value.int IntKind.u32 0,
    Value.int IntKind.u32 0, Value.int IntKind.u32 0, Value.int IntKind.u32 0, Value.int IntKind.u32 0, Value.int IntKind.u32 0, Value.int IntKind.u32 0, Value.int IntKind.u32 0, Value.int IntKind.u32 0,
    Value.int IntKind.u32 0, Value.int IntKind.u32 0, Value.int IntKind.u32 0, Value.int IntKind.u32 0, Value.int IntKind.u32 0, Value.int IntKind.u32 0, Value.int IntKind.u32 0, Value.int IntKind.u32 0,
    Value.int IntKind.u32 0, Value.int IntKind.u32 0, Value.int IntKind.u32 0, Value.int IntKind.u32 0, Value.int IntKind.u32 0, Value.int IntKind.u32 0, Value.int IntKind.u32 0, Value.int IntKind.u32 0,
    Value.int IntKind.u32 0, Value.int IntKind.u32 0, Value.int IntKind.u32 0, Value.int IntKind.u32 0, Value.int IntKind.u32 0, Value.int IntKind.u32 0, Value.int IntKind.u32 0, Value.int IntKind.u32 0,
    Value.int IntKind.u32 0, Value.int IntKind.u32 0, Value.int IntKind.u32 0, Value.int IntKind.u32 0, Value.int IntKind.u32 0, Value.int IntKind.u32 0, Value.int IntKind.u32 0, Value.int IntKind.u32 0,
    Value.int IntKind.u32 0, Value.int IntKind.u32 0, Value.int IntKind.u32 0, Value.int IntKind.u32 0, Value.int IntKind.u32 0, Value.int IntKind.u32 0, Value.int IntKind.u32 0, Value.int IntKind.u32 0,
    Value.int IntKind.u32 0, Value.int IntKind.u32 0, Value.int IntKind.u32 0, Value.int IntKind.u32 0, Value.int IntKind.u32 0, Value.int IntKind.u32 0, Value.int IntKind.u32 0, Value.int IntKind.u32 0] : Array Value) = Array.replicate 64 (Value.int IntKind.u32 0) := by rfl
attribute [-go_sem] loadCellsFrom storeCells
attribute [local go_sem] storeCells_one
set_option maxRecDepth 100000 in
set_option maxHeartbeats 200000 in
theorem words_any (w : World) (xs : List Nat) (hl : xs.length = 64) (hb : ∀ b ∈ xs, b < 256) :
    Calls Tryd.prog 125 #[.agg (xs.map byt).toArray] w fun e w' => e = .returned (.agg (fillA (fun i => wrd (sched (blockWord xs) i)) (.int .u32 0) 64 64)) ∧ Below w.heap.size w w' := by
  obtain ⟨f, hf⟩ : ∃ f : Nat → Value, f = fun i => wrd (sched (blockWord xs) i) := ⟨_, rfl⟩
  have HF := Lib.hid hf
  have HX := Lib.hid (And.intro hl hb)
  clear hl hb hf
  go_enter Tryd.func125, Tryd.ntmps125
  go_wp2
  rw [zeros64]
  go_loopw [10] (fun i wr => ∃ k : Nat, k ≤ 16 ∧ i = .int .i64 k ∧ Arr wr w.heap.size 153 (xs.map byt).toArray ∧ Arr wr (w.heap.size + 1) 181 (Array.replicate 64 (Value.int IntKind.u32 0)) ∧ Arr wr (w.heap.size + 1 + 1) 181 (fillA f (.int .u32 0) k 64) ∧ Below w.heap.size w wr) (fun i _ => 16 - (intOf i).toNat)
  case atStart =>
    refine ⟨0, Nat.zero_le _, rfl, ((Arr.new w 153 _).alloc _).alloc _, (Arr.new_at _ 181 _ (by simp)).alloc _, by rw [fillA_zero]; exact Arr.new_at _ 181 _ (by simp), ?_⟩
    exact (((Below.refl _ w).alloc (Nat.le_refl _) _).alloc (by simp) _).alloc (by simp; omega) _
  case round =>
    obtain ⟨k, hk, rfl, ha, hz, hw, hbw⟩ := hrel
    by_cases hlt : k < 16
    · have hr := ha.rdOff (4 * k) 4 (by rw [HX.out.1]; omega) wr.heap.size ha.lt
      have hof := ofHigh_lt ((xs.drop (4 * k)).take 4) (fun b h => HX.out.2 b (List.mem_of_mem_drop (List.mem_of_mem_take h))) 4 (by simp; have := HX.out.1; omega)
      have hc : wr.cell? ⟨w.heap.size + 1 + 1, k, none⟩ = some (.int .u32 0) := by rw [hw.cell, fillA_get, if_pos (by omega), if_neg (by omega)]
      have hzf := hw.frozen k
      rw [List.take_take, Nat.min_self] at hof
      have hq1 : (0 : Int) ≤ 4 * (k : Int) := by omega
      have hq2 : (4 : Int) * (k : Int) ≤ 4 * (k : Int) + 4 := by omega
      have hq3 : (4 : Int) * (k : Int) + 4 ≤ 64 := by omega
      have hfk : f k = .int .u32 (ofHigh (List.take 4 (List.drop (4 * k) xs)) : Nat) := by
        rw [HF.out]
        show wrd (sched (blockWord xs) k) = _
        rw [sched_lt hlt, blockWord, wrd_ofNat hof]
      have hb4 : ∀ b ∈ List.take 4 (List.drop (4 * k) xs), b < 256 := fun b h => HX.out.2 b (List.mem_of_mem_drop (List.mem_of_mem_take h))
      generalize hys : List.take 4 (List.drop (4 * k) xs) = ys at *
      have hof2 : ofHigh ys < 4294967296 := hof
      have HA := Lib.hid (And.intro (And.intro ha hz) (And.intro (And.intro hw hbw) (And.intro hr (And.intro hfk hb4))))
      clear ha hz hw hbw hr hfk hb4 hof hys
      go_wp2_with (go_at_call 149; go_must (refine (OfHigh_any _ _ 4 _ ys _ HA.out.2.2.1 (by decide) HA.out.2.2.2.2 (by omega) (by omega)).mono ?_); rintro e w' ⟨rfl, rfl⟩)
      go_roundw
      case rel =>
        obtain ⟨⟨h1, h2⟩, ⟨h3, h4⟩, _, h5, _⟩ := HA.out
        exact ⟨k + 1, by omega, by go_num, h1.setOther (by simp; omega) _, h2.setOther (by simp) _, h3.setFill _ h5.symm, h4.setCell (p := ⟨_, _, _⟩) (by simp; omega) _⟩
      case measure => simp [intOf]; omega
    · obtain rfl : k = 16 := by omega
      have HA := Lib.hid (And.intro hz (And.intro hw hbw))
      clear ha hz hw hbw
      rw [show ((16 : Nat) : Int) = 16 from rfl]
      go_wp2
      go_loopw [5] (fun i wr => ∃ j : Nat, j ≤ 48 ∧ i = .int .i64 (j + 16 : Nat) ∧ Arr wr (w.heap.size + 1) 181 (Array.replicate 64 (Value.int IntKind.u32 0)) ∧ Arr wr (w.heap.size + 1 + 1) 181 (fillA f (.int .u32 0) (j + 16) 64) ∧ Below w.heap.size w wr) (fun i _ => 64 - (intOf i).toNat)
      case atStart => exact ⟨0, Nat.zero_le _, rfl, HA.out.1, HA.out.2.1, HA.out.2.2⟩
      case round =>
        obtain ⟨j, hj, rfl, hz, hw, hbw⟩ := hrel
        by_cases hlt : j < 48
        · have hget : ∀ i, i < j + 16 → ∃ x : W32, x = sched (blockWord xs) i ∧ wr.cell? ⟨w.heap.size + 1 + 1, i, none⟩ = some (wrd x) := fun i hi => ⟨_, rfl, by rw [hw.cell, fillA_get, if_pos (by omega), if_pos hi, HF.out]⟩
          obtain ⟨x0, e0, c0⟩ := hget j (by omega)
          obtain ⟨x1, e1, c1⟩ := hget (j + 1) (by omega)
          obtain ⟨x9, e9, c9⟩ := hget (j + 9) (by omega)
          obtain ⟨x14, e14, c14⟩ := hget (j + 14) (by omega)
          have hc : wr.cell? ⟨w.heap.size + 1 + 1, j + 16, none⟩ = some (.int .u32 0) := by rw [hw.cell, fillA_get, if_pos (by omega), if_neg (by omega)]
          have hzf := hw.frozen (j + 16)
          have hst := sched_ge (B := blockWord xs) j
          rw [← e0, ← e1, ← e9, ← e14] at hst
          have HB := Lib.hid (And.intro hz (And.intro hw (And.intro hbw hst)))
          clear hz hw hbw hst e0 e1 e9 e14 hget


          have hlt' : decide ((j + 16 : Nat) < 64) = true := by simp; omega
          go_wp2_with fail
          have hq0 : (0 : Int) ≤ (j : Int) := by omega
          go_quiet (fail)
          go_wp2_with (go_at_call 126; go_must (refine (right_any _ _ _ (by decide) (by decide)).mono ?_); rintro e w' ⟨rfl, rfl⟩)
          rw [sig0_eq, sig1_eq]
          go_region
          all_goals
            rw [sum4, ← HB.out.2.2.2]
            go_wp2
            go_roundw
            case rel =>
              obtain ⟨h2, h3, h4, _⟩ := HB.out
              exact ⟨j + 1, by omega, by go_num, (h2.drewN _).setOther (p := ⟨w.heap.size + 1 + 1, j + 16, none⟩) (by simp) _, (h3.drewN _).setFill _ (by rw [HF.out]), (below_drewN_ h4 _).setCell (p := ⟨w.heap.size + 1 + 1, j + 16, none⟩) (by simp; omega) _⟩
            case measure => simp [intOf]; omega
        · obtain rfl : j = 48 := by omega
          have hl := hw.load (P := Tryd.prog) (n := 64) fillA_size
          have hst := hz.store (P := Tryd.prog) (V := fillA f (.int .u32 0) 64 64) (by simp [fillA_size]) (fillA_one (fun i => by rw [HF.out]; rfl) rfl)
          have hl2 := (hz.setRow (fillA f (.int .u32 0) 64 64)).load (P := Tryd.prog) (n := 64) fillA_size
          have HB := Lib.hid (And.intro hz (And.intro hw hbw))
          clear hz hw hbw
          obtain ⟨V, hV⟩ : ∃ V, V = fillA f (.int .u32 0) 64 64 := ⟨_, rfl⟩
          simp only [Nat.reduceAdd] at hl
          rw [← hV] at hl hst hl2
          have hVs : V.size = 64 := by rw [hV, fillA_size]
          have HV := Lib.hid hV
          clear hV
          go_wp2
          refine bodyPost_ret (v := .agg V) (by simp [results, Tryd.results125, go_sem, hl2, hVs]) rfl ⟨?_, ?_⟩
          · rw [HV.out, HF.out]
          · exact Below.setRow_ HB.out.2.2 (by omega) _
end Go.Proofs.YtejifhdkgfilgaaDoor
