/- The digits of a digest. -/
import Derived.Test.YtejifhdkgfilgaaDoorSigner0
namespace Go.Proofs.YtejifhdkgfilgaaDoor
open Go.RowKit
def nibs (d : List Nat) : List Nat := d.flatMap fun c => [c / 16, c % 16]
def lackN (l : List Nat) : Nat := l.foldl (fun s x => s + (15 - x)) 0
def digits (d : List Nat) : List Nat := nibs d ++ [lackN (nibs d) / 256, lackN (nibs d) / 16 % 16, lackN (nibs d) % 16]
abbrev num (n : Nat) : Value := .int .i64 (n : Int)
theorem nibs_len (d : List Nat) : (nibs d).length = 2 * d.length := by
  induction d with
  | nil => rfl
  | cons c d ih => simp only [nibs, List.flatMap_cons, List.length_append, List.length_cons, List.length_nil] at ih ⊢; omega
theorem nibs_get : ∀ (d : List Nat) (k : Nat) (h : k < d.length), (nibs d)[2 * k]? = some (d[k] / 16) ∧ (nibs d)[2 * k + 1]? = some (d[k] % 16)
  | c :: d, 0, _ => ⟨rfl, rfl⟩
  | c :: d, k + 1, h => by
    have := nibs_get d k (by simpa using h)
    rw [show 2 * (k + 1) = 2 * k + 1 + 1 from by omega]
    exact this
theorem nibs_lt {d : List Nat} (h : ∀ b ∈ d, b < 256) : ∀ x ∈ nibs d, x < 16 := by
  intro x hx
  obtain ⟨c, hc, hx⟩ := List.mem_flatMap.1 hx
  have := h c hc
  simp at hx
  omega
theorem lackN_snoc (l : List Nat) (x : Nat) : lackN (l ++ [x]) = lackN l + (15 - x) := by simp [lackN]
theorem lackN_le (l : List Nat) : lackN l ≤ 15 * l.length := by
  have : ∀ (l : List Nat) (s : Nat), l.foldl (fun s x => s + (15 - x)) s ≤ s + 15 * l.length := by
    intro l
    induction l with
    | nil => intro s; simp
    | cons x l ih => intro s; simp only [List.foldl_cons, List.length_cons]; have := ih (s + (15 - x)); omega
  simpa [lackN] using this l 0
theorem digits_len {d : List Nat} (h : d.length = 32) : (digits d).length = 67 := by simp [digits, nibs_len, h]
theorem digits_lt {d : List Nat} (h : ∀ b ∈ d, b < 256) (hl : d.length = 32) : ∀ x ∈ digits d, x < 16 := by
  intro x hx
  have h1 := lackN_le (nibs d)
  rw [nibs_len, hl] at h1
  simp only [digits, List.mem_append, List.mem_cons, List.not_mem_nil, or_false] at hx
  rcases hx with hx | rfl | rfl | rfl
  · exact nibs_lt h x hx
  · omega
  · omega
  · omega
/-- the first t digits have been laid -/
def DigRel (w : World) (d : List Nat) (t : Nat) (v l : Value) (wr : World) : Prop :=
  ∃ (A : Option Addr) (c : Nat), v = .slice A t c ∧ l = num (lackN ((nibs d).take t)) ∧ QRow wr w.heap.size 3 1 v t (((nibs d).take t).map num) ∧ t ≤ c ∧ Below w.heap.size w wr
theorem info3 : (Tryd.prog.info? 3).map (fun i => (i.zero, i.size, i.bytes)) = some (some (.int .i64 0), 1, 8) := by kernel_rfl
theorem mask15 (n : Nat) (h : n < 961) : bits BinOp.and IntKind.i64 (n : Int) 15 = ((n % 16 : Nat) : Int) := by
  have : ∀ n : Fin 961, bits BinOp.and IntKind.i64 (n.val : Int) 15 = ((n.val % 16 : Nat) : Int) := by decide +kernel
  exact this ⟨n, h⟩
attribute [-go_sem] loadCellsFrom storeCells
attribute [local go_sem] storeCells_one
set_option maxRecDepth 100000 in
set_option maxHeartbeats 1000000 in
theorem Digits_any (w : World) (d : List Nat) (hd : d.length = 32) (hb : ∀ b ∈ d, b < 256) :
    Calls Tryd.prog 15 #[.agg (keyA d)] w fun e w' => ∃ A c, e = .returned (.slice A 67 c) ∧ QRow w' w.heap.size 3 1 (.slice A 67 c) 67 ((digits d).map num) ∧ 67 ≤ c ∧ Grew w w' := by
  have H := Lib.hid (And.intro hd hb)
  have hks : (keyA d).size = 32 := by rw [keyA_size, hd]
  have hl := (Arr.new w 23 (keyA d)).load (P := Tryd.prog) (n := 32) hks
  clear hd hb
  go_enter Tryd.func15, Tryd.ntmps15
  go_wp2_with fail
  clear hl hks
  have H0 : Hid (DigRel w d (2 * 0) (.slice none 0 0) (.int .i64 0) (w.alloc (.cells (keyA d) 23))) := ⟨none, 0, rfl, by simp [lackN], QRow.nil_, Nat.le_refl _, grew_alloc w _⟩
  generalize w.alloc (.cells (keyA d) 23) = W0 at *
  go_loopw [3, 4, 10] (fun v l i wr => ∃ k : Nat, k ≤ 32 ∧ i = .int .i64 k ∧ DigRel w d (2 * k) v l wr) (fun _ _ i _ => 32 - (intOf i).toNat)
  case atStart => exact ⟨0, Nat.zero_le _, rfl, H0.out⟩
  case round =>
    obtain ⟨k, hk, rfl, A, c, rfl, rfl, hq, hle, hbw⟩ := hrel
    by_cases hlt : k < 32
    · have hkd : k < d.length := by rw [H.out.1]; exact hlt
      have hdk : decide ((k : Int) < 32) = true := by simp; omega
      have hix : (Instr.index 23 (.agg (keyA d)) (.int .i64 (k : Int))).run Tryd.prog wr = .ok (byt d[k]) wr := by
        obtain ⟨i0, hi, hz0, hz1, hz2⟩ := info_parts info5
        exact run_index_arr Tryd.underlying23 Tryd.underlying5 rfl hi hz1 hlt (by simp [keyA, hkd])
      have hc256 : d[k] < 256 := H.out.2 _ (List.getElem_mem _)
      obtain ⟨n0, n1⟩ := nibs_get d k hkd
      obtain ⟨x, hx⟩ : ∃ x, x = d[k] := ⟨_, rfl⟩
      rw [← hx] at hix hc256 n0 n1
      have HX := Lib.hid (And.intro n0 n1)
      obtain ⟨L, hL⟩ : ∃ L, L = lackN ((nibs d).take (2 * k)) := ⟨_, rfl⟩
      have hLb : L ≤ 1000 := by
        have := lackN_le ((nibs d).take (2 * k))
        rw [List.length_take, nibs_len, H.out.1] at this
        omega
      rw [← hL]
      have HQ := Lib.hid (And.intro hq (And.intro hle (And.intro hbw hL)))
      clear hq hle hbw n0 n1 hx hL
      go_wp2_with fail
      have H1 : Hid (DigRel w d (2 * k + 0) (.slice A (2 * k) c) (num L) wr) := ⟨A, c, rfl, by rw [HQ.out.2.2.2]; rfl, HQ.out.1, HQ.out.2.1, HQ.out.2.2.1⟩
      clear HQ hix
      go_loopw [3, 4, 20] (fun v l i wr => ∃ j : Nat, j ≤ 2 ∧ i = .int .i64 j ∧ DigRel w d (2 * k + j) v l wr) (fun _ _ i _ => 2 - (intOf i).toNat)
      case atStart => exact ⟨0, Nat.zero_le _, rfl, H1.out⟩
      case round =>
        obtain ⟨j, hj, rfl, A, c, rfl, rfl, hq, hle, hbw⟩ := hrel
        by_cases hlt2 : j < 2
        · obtain ⟨y, hy, hyv, hy16⟩ : ∃ y : Nat, (nibs d)[2 * k + j]? = some y ∧ (#[Value.int IntKind.i64 ((x : Int) / 16), Value.int IntKind.i64 ((x : Int) % 16)] : Array Value)[j]? = some (num y) ∧ y < 16 := by
            obtain rfl | rfl : j = 0 ∨ j = 1 := by omega
            · exact ⟨x / 16, HX.out.1, by simp [num], by omega⟩
            · exact ⟨x % 16, HX.out.2, by simp [num], by omega⟩
          obtain ⟨i0, hi, hz0, hz1, hz2⟩ := info_parts info3
          have hix := run_index_arr (P := Tryd.prog) (w := wr) (kd := .i64) Tryd.underlying78 Tryd.underlying3 rfl hi hz1 hlt2 hyv
          obtain ⟨L, hL⟩ : ∃ L, L = lackN ((nibs d).take (2 * k + j)) := ⟨_, rfl⟩
          have hLb : L ≤ 1000 := by
            have := lackN_le ((nibs d).take (2 * k + j))
            rw [List.length_take, nibs_len, H.out.1] at this
            omega
          rw [← hL]
          have hrun := run_append_bytes (P := Tryd.prog) (wr.alloc (.cells #[num y] 3)) 25 25 3 i0 (.int .i64 0) 8 Tryd.underlying25 hi hz0 hz1 hz2 rfl w.heap.size (2 * k + j) _ _ (hq.alloc _) (by simp; have := hbw.size; omega) (wr.heap.size + 1)
            (some ⟨wr.heap.size, 0, none⟩) 1 1 [num y] (by have := (Arr.new wr 3 #[num y]).rdv (n := 1) rfl; simpa using this) (by simp [Value.oneCell']) (by unfold maxLen; omega) (by omega)
          obtain ⟨A2, cap2, w2, hrun, hq2, hgr, hle2⟩ := hrun
          have hsn : (nibs d).take (2 * k + j) ++ [y] = (nibs d).take (2 * k + (j + 1)) := by
            obtain ⟨h1, h2⟩ := List.getElem?_eq_some_iff.1 hy
            rw [show 2 * k + (j + 1) = 2 * k + j + 1 from by omega, List.take_succ_eq_append_getElem h1, h2]
          have H2 : Hid (DigRel w d (2 * k + (j + 1)) (.slice A2 (2 * k + j + 1) cap2) (num (L + (15 - y))) w2) := by
            refine ⟨A2, cap2, rfl, by rw [← hsn, lackN_snoc, hL], ?_, hle2, (hbw.alloc hbw.size _).grown hgr (by simp; have := hbw.size; omega) fun g e => (hq.lt g e).1⟩
            rw [← hsn, List.map_append]
            exact hq2
          have hlx : (L : Int) + (15 - (y : Int)) = ((L + (15 - y) : Nat) : Int) := by omega
          have HL := Lib.hid hlx
          clear hi hz0 hz1 hz2 hq hle hbw hy hyv hL hq2 hgr hle2 hsn hlx
          go_wp2_with (at_builtin; refine Lib.wpList_append_run _ rfl _ _ _ _ rfl _ _ rfl rfl _ _ hrun ?_)
          go_roundw
          case rel => exact ⟨j + 1, by omega, by go_num, by rw [HL.out]; exact H2.out⟩
          case measure => simp [intOf]; omega
        · obtain rfl : j = 2 := by omega
          have H2 : Hid (DigRel w d (2 * (k + 1)) (.slice A (2 * k + 2) c) (num (lackN ((nibs d).take (2 * k + 2)))) wr) := ⟨A, c, rfl, rfl, hq, hle, hbw⟩
          clear hq hle hbw
          rw [show ((2 : Nat) : Int) = 2 from rfl]
          go_wp2_with fail
          go_roundw
          case rel => exact ⟨k + 1, by omega, by go_num, H2.out⟩
          case measure => simp [intOf]; omega
    · obtain rfl : k = 32 := by omega
      have hnl : (nibs d).take (2 * 32) = nibs d := List.take_of_length_le (by rw [nibs_len, H.out.1]; omega)
      obtain ⟨L, hL⟩ : ∃ L, L = lackN ((nibs d).take (2 * 32)) := ⟨_, rfl⟩
      have hLb : L ≤ 960 := by
        have := lackN_le ((nibs d).take (2 * 32))
        rw [List.length_take, nibs_len, H.out.1] at this
        omega
      rw [← hL]
      obtain ⟨a1, ha1⟩ : ∃ a1, a1 = L / 256 := ⟨_, rfl⟩
      obtain ⟨a2, ha2⟩ : ∃ a2, a2 = L / 16 % 16 := ⟨_, rfl⟩
      obtain ⟨a3, ha3⟩ : ∃ a3, a3 = L % 16 := ⟨_, rfl⟩
      have e1 : (L : Int) / 256 = (a1 : Int) := by omega
      have e2 : bits BinOp.and IntKind.i64 ((L : Int) / 16) 15 = (a2 : Int) := by
        have := mask15 (L / 16) (by omega)
        rw [ha2, ← this]; rfl
      have e3 : bits BinOp.and IntKind.i64 (L : Int) 15 = (a3 : Int) := by rw [ha3, ← mask15 L (by omega)]
      have HA := Lib.hid (And.intro ha1 (And.intro ha2 ha3))
      clear ha1 ha2 ha3
      obtain ⟨i0, hi, hz0, hz1, hz2⟩ := info_parts info3
      have hrun := run_append_bytes (P := Tryd.prog) (wr.alloc (.cells #[num a1, num a2, num a3] 3)) 25 25 3 i0 (.int .i64 0) 8 Tryd.underlying25 hi hz0 hz1 hz2 rfl w.heap.size (2 * 32) _ _ (hq.alloc _) (by simp; have := hbw.size; omega) (wr.heap.size + 1)
        (some ⟨wr.heap.size, 0, none⟩) 3 3 [num a1, num a2, num a3] (by have := (Arr.new wr 3 #[num a1, num a2, num a3]).rdv (n := 3) rfl; simpa using this) (by simp [Value.oneCell']) (by unfold maxLen; omega) (by omega)
      obtain ⟨A2, cap2, w2, hrun, hq2, hgr, hle2⟩ := hrun
      have H2 : Hid (QRow w2 w.heap.size 3 1 (.slice A2 67 cap2) 67 ((digits d).map num) ∧ 67 ≤ cap2 ∧ Grew w w2) := by
        refine ⟨?_, hle2, (hbw.alloc hbw.size _).grown hgr (by simp; have := hbw.size; omega) fun g e => (hq.lt g e).1⟩
        rw [hnl] at hq2 hL
        rw [digits, ← hL, ← HA.out.1, ← HA.out.2.1, ← HA.out.2.2, List.map_append]
        exact hq2
      simp only [Nat.reduceMul, Nat.reduceAdd] at hrun
      clear hi hz0 hz1 hz2 hq hle hbw hL hq2 hgr hle2 hnl
      go_wp2_with (at_builtin; refine Lib.wpList_append_run _ rfl _ _ _ _ rfl _ _ rfl rfl _ _ hrun ?_)
      go_ret
      exact ⟨_, _, rfl, H2.out⟩
end Go.Proofs.YtejifhdkgfilgaaDoor
