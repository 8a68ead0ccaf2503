/- A key of a key. -/
import Derived.Test.YtejifhdkgfilgaaDoorHmac
import Derived.Lib.ConvBytes
namespace Go.Proofs.YtejifhdkgfilgaaDoor
open Go.RowKit
/-- what a key is derived by -/
def infoB (lab : List Nat) (L : List (List Nat)) : List Nat := L.foldl (fun i b => i ++ highB b.length 4 ++ b) (lab.length :: lab)
def derive (key lab : List Nat) (L : List (List Nat)) : List Nat := hmac key (infoB lab L ++ [1])
theorem infoB_snoc (lab : List Nat) (L : List (List Nat)) (b : List Nat) : infoB lab (L ++ [b]) = infoB lab L ++ highB b.length 4 ++ b := by simp [infoB]
theorem infoB_take (lab : List Nat) {L : List (List Nat)} {k : Nat} (h : k < L.length) : infoB lab (L.take (k + 1)) = infoB lab (L.take k) ++ highB L[k].length 4 ++ L[k] := by rw [List.take_succ_eq_append_getElem h, infoB_snoc]
theorem infoB_len (lab : List Nat) (L : List (List Nat)) (k : Nat) (hk : k ≤ L.length) : (infoB lab (L.take k)).length = 1 + lab.length + 4 * k + total L k := by
  induction k with
  | zero => simp [infoB, total]; omega
  | succ k ih =>
    rw [infoB_take lab (by omega), total_succ (by omega)]
    simp only [List.length_append, highB_len]
    have := ih (by omega)
    omega
theorem infoB_lt {lab : List Nat} (h : ∀ b ∈ lab, b < 256) (hl : lab.length < 256) {L : List (List Nat)} (hb : ∀ xs ∈ L, ∀ b ∈ xs, b < 256) (k : Nat) (hk : k ≤ L.length) : ∀ b ∈ infoB lab (L.take k), b < 256 := by
  induction k with
  | zero =>
    intro b hb
    simp [infoB] at hb
    rcases hb with rfl | hb
    · exact hl
    · exact h b hb
  | succ k ih =>
    intro b hb'
    rw [infoB_take lab (by omega)] at hb'
    simp only [List.mem_append] at hb'
    rcases hb' with (h1 | h1) | h1
    · exact ih (by omega) b h1
    · exact highB_lt _ _ b h1
    · exact hb _ (List.getElem_mem _) b h1
/-- a string's bytes -/
def strB (s : ByteArray) : List Nat := s.data.toList.map (·.toNat)
theorem strB_len (s : ByteArray) : (strB s).length = s.size := by
  show (s.data.toList.map _).length = s.data.size
  rw [List.length_map, Array.length_toList]
theorem strB_lt (s : ByteArray) : ∀ b ∈ strB s, b < 256 := by
  intro b hb
  obtain ⟨x, _, rfl⟩ := List.mem_map.1 hb
  exact x.toNat_lt
theorem grew_bytes (w : World) (e : TypeId) (s : ByteArray) : Grew w (Lib.bytesWorld w e s) := ⟨rfl, rfl, rfl, by rw [Lib.bytesWorld_size]; omega, fun k hk => Lib.bytesWorld_at_old w e s k hk⟩
theorem bytes_rd (w : World) (e : TypeId) (s : ByteArray) : Rd (Lib.bytesWorld w e s) (Lib.bytesWorld w e s).heap.size (some ⟨w.heap.size, 0, none⟩) s.size ((strB s).map byt) :=
  ⟨by rw [List.length_map, strB_len], fun _ => ⟨_, rfl, by rw [Lib.bytesWorld_size]; exact Nat.lt_succ_self _, fun j u hu => by
    have hj : j < s.size := by
      have := (List.getElem?_eq_some_iff.1 hu).1
      rwa [List.length_map, strB_len] at this
    rw [Addr.add_lit, Nat.zero_add, Lib.bytesWorld_cell w e s j hj]
    simp only [strB, List.map_map, List.getElem?_map] at hu
    have hjd : j < s.data.toList.length := by rw [Array.length_toList]; exact hj
    rw [List.getElem?_eq_getElem hjd] at hu
    rw [List.getD_eq_getElem?_getD, List.getElem?_eq_getElem hjd]
    simpa using hu⟩⟩
def DerRel (w : World) (key lab : List Nat) (L : List (List Nat)) (v i : Value) (wr : World) : Prop :=
  ∃ (k : Nat) (A : Option Addr) (c : Nat), k ≤ L.length ∧ i = .int .i64 k ∧ v = .slice A (infoB lab (L.take k)).length c ∧ QRow wr w.heap.size 5 1 v (infoB lab (L.take k)).length ((infoB lab (L.take k)).map byt) ∧ (infoB lab (L.take k)).length ≤ c ∧
    Arr wr w.heap.size 23 (keyA key) ∧ Arr wr (w.heap.size + 1) 23 (keyA (List.replicate 32 0)) ∧ Below w.heap.size w wr
attribute [-go_sem] loadCellsFrom storeCells
attribute [local go_sem] storeCells_one
set_option maxRecDepth 100000 in
set_option maxHeartbeats 1000000 in
theorem Derive_any (w : World) (m : Nat) (hg : Shas w) (hm : Met w m) (key : List Nat) (hk : key.length = 32) (hbk : ∀ b ∈ key, b < 256) (s : ByteArray) (hs : s.size ≤ 255) (Ar : Option Addr) (nr cr : Nat) (us : List Value) (L : List (List Nat)) (hr : RdM m w Ar nr us) (hR : RowsM m w us L)
    (hT : L.flatten.length ≤ 140737486000000) (hnr : nr ≤ 1000) (hb : ∀ xs ∈ L, ∀ b ∈ xs, b < 256) :
    Calls Tryd.prog 88 #[.pointer (some ⟨m, 0, none⟩), .agg (keyA key), .string s, .slice Ar nr cr] w fun e w' => e = .returned (.agg (keyA (derive key (strB s) L))) ∧ GrM m w w' := by
  have hLn : L.length = nr := by rw [← hR.1, hr.len]
  have H := Lib.hid (And.intro hg (And.intro hm (And.intro hk (And.intro hbk (And.intro hr (And.intro hR (And.intro hT hb)))))))
  have HLn := Lib.hid hLn
  clear hg hm hk hbk hr hR hT hb hLn
  have hmin : decide ((s.size : Int) ≤ 255) = true := by simp; omega
  go_enter Tryd.func88, Tryd.ntmps88
  go_wp2_with fail
  rw [zeros32]
  obtain ⟨W3, hW3⟩ : ∃ W3, W3 = ((w.alloc (.cells (keyA key) 23)).alloc (.cells (keyA (List.replicate 32 0)) 23)).alloc (.cells #[Value.int .u8 (s.size : Int)] 5) := ⟨_, rfl⟩
  rw [← hW3]
  have k3 : Arr W3 w.heap.size 23 (keyA key) := by rw [hW3]; exact ((Arr.new w 23 _).alloc _).alloc _
  have z3 : Arr W3 (w.heap.size + 1) 23 (keyA (List.replicate 32 0)) := by rw [hW3]; exact (Arr.new_at _ 23 _ (by simp)).alloc _
  have n3 : NewRow [s.size] W3 (w.heap.size + 1 + 1) := by rw [hW3]; exact Arr.new_at _ 5 _ (by simp)
  have s3 : W3.heap.size = w.heap.size + 1 + 1 + 1 := by rw [hW3]; simp
  have g3 : Grew w W3 := by rw [hW3]; exact (((Below.refl _ w).alloc (Nat.le_refl _) _).alloc (by simp) _).alloc (by simp; omega) _
  have hcv := Lib.run_convert_string_bytes (P := Tryd.prog) W3 9 57 5 s Tryd.underlying9 Tryd.underlying57 Tryd.underlying5
  have g4 := grew_bytes W3 5 s
  have r4 := bytes_rd W3 5 s
  have hgc : s.size ≤ grownCap W3 s.size 0 5 := grownCap_ge W3 _ _ _
  obtain ⟨cs, hcs⟩ : ∃ cs, cs = grownCap W3 s.size 0 5 := ⟨_, rfl⟩
  obtain ⟨W4, hW4⟩ : ∃ W4, W4 = Lib.bytesWorld W3 5 s := ⟨_, rfl⟩
  rw [← hcs] at hcv hgc
  rw [← hW4] at hcv g4 r4
  have H4 := Lib.hid (And.intro (k3.below g4) (And.intro (z3.below g4) (And.intro (n3.keep g4) (And.intro (g3.trans (g4.mono g3.size)) (And.intro r4 (And.intro s3 hgc))))))
  clear k3 z3 n3 g3 g4 r4 hgc s3 hcs hW4 hW3
  go_simp
  go_wp2_with fail
  obtain ⟨W5, hW5⟩ : ∃ W5, W5 = W4.alloc (.cells #[.slice (some ⟨w.heap.size + 1 + 1, 0, none⟩) 1 1, .slice (some ⟨W3.heap.size, 0, none⟩) s.size cs] 57) := ⟨_, rfl⟩
  rw [← hW5]
  have g45 : Grew W4 W5 := by rw [hW5]; exact grew_alloc W4 _
  have r5 : Rd W5 W5.heap.size (some ⟨W4.heap.size, 0, none⟩) 2 [.slice (some ⟨w.heap.size + 1 + 1, 0, none⟩) 1 1, .slice (some ⟨W3.heap.size, 0, none⟩) s.size cs] := by rw [hW5]; exact (Arr.new W4 57 _).rdv rfl
  have R5 : Rows W5 W5.heap.size [.slice (some ⟨w.heap.size + 1 + 1, 0, none⟩) 1 1, .slice (some ⟨W3.heap.size, 0, none⟩) s.size cs] [[s.size], strB s] :=
    rows2 (Arr.rdn (t := 5) (H4.out.2.2.1.keep g45) rfl) ((H4.out.2.2.2.2.1.below g45 (Nat.le_refl _)).more g45.size) (Nat.le_refl _) H4.out.2.2.2.2.2.2
  have hf5 : [[s.size], strB s].flatten.length = 1 + s.size := by simp [strB_len]; omega
  refine (Concat_any W5 _ _ 2 2 _ _ (Nat.le_refl _) r5 R5 (1 + s.size) hf5 (by omega) (by decide)).mono ?_
  rintro e W6 ⟨A6, c6, rfl, hq6, hc6, hb6⟩
  have g6 : Grew w W6 := H4.out.2.2.2.1.trans ((g45.trans (hb6.mono g45.size)).mono H4.out.2.2.2.1.size)
  have g46 : Grew W4 W6 := g45.trans (hb6.mono g45.size)
  have il0 : (infoB (strB s) (L.take 0)).length = 1 + s.size := by rw [infoB_len _ _ 0 (Nat.zero_le _), strB_len]; simp [total]
  have H6 : Hid (DerRel w key (strB s) L (.slice A6 (1 + s.size) c6) (.int .i64 ((0 : Nat) : Int)) W6) := by
    refine ⟨0, A6, c6, Nat.zero_le _, rfl, by rw [il0], ?_, by rw [il0]; exact hc6, H4.out.1.below g46, H4.out.2.1.below g46, g6⟩
    rw [il0]
    have e : infoB (strB s) (L.take 0) = [[s.size], strB s].flatten := by simp [infoB, strB_len]
    rw [e]
    exact hq6.base (Nat.le_trans H4.out.2.2.2.1.size g45.size)
  clear g45 r5 R5 hf5 hq6 hc6 hb6 g6 g46 il0 hW5
  go_wp2_with fail
  go_loopw [9, 27] (fun v i wr => DerRel w key (strB s) L v i wr) (fun _ i _ => nr - (intOf i).toNat)
  case atStart => exact H6.out
  case round =>
    obtain ⟨k, A, c, hk, rfl, rfl, hq, hqc, hka, hza, hbw⟩ := hrel
    have HQ := Lib.hid (And.intro hq (And.intro hqc (And.intro hka (And.intro hza hbw))))
    have hilen := infoB_len (strB s) L k hk
    have htle := total_le L k
    have hTo := H.out.2.2.2.2.2.2.1
    have hk2 : k ≤ 1000 := by have := HLn.out; omega
    rw [strB_len] at hilen
    by_cases hlt : k < nr
    · have hkL : k < L.length := by rw [HLn.out]; exact hlt
      have hts := total_succ hkL
      have htle2 := total_le L (k + 1)
      obtain ⟨a, rfl, hal, _, hc⟩ := H.out.2.2.2.2.1.at_ (by omega)
      have hku : k < us.length := by rw [H.out.2.2.2.2.2.1.1]; exact hkL
      obtain ⟨A1, n1, c1, ys, eu, ey, hn1, hr1⟩ := H.out.2.2.2.2.2.1.2 k us[k] (List.getElem?_eq_getElem hku)
      rw [List.getElem?_eq_getElem hkL, Option.some.injEq] at ey
      have hyl : ys.length = n1 := by have := hr1.len; simpa using this
      have hc1 : wr.cell? (a.add k) = some (.slice A1 n1 c1) := (hbw.cell (p := a.add k) (by rw [add_block]; exact hal)).trans (hc k _ (by rw [List.getElem?_eq_getElem hku, eu]))
      obtain ⟨T1, hT1⟩ : ∃ T1, T1 = (infoB (strB s) (L.take k)).length := ⟨_, rfl⟩
      have hn1b : T1 + n1 ≤ 140737486005000 := by rw [hT1, hilen, ← hyl, ← ey]; omega
      rw [← hT1]
      have HR := Lib.hid (And.intro hr1 (And.intro ey (And.intro hyl (And.intro hn1 (And.intro hT1 hkL)))))
      clear hq hqc hka hza hbw hilen htle hTo hts htle2 hal hc hku eu ey hyl hn1 hr1 hT1
      go_wp2_with fail
      refine (High_any wr n1 4 (by decide) (by decide)).mono ?_
      rintro e w1 ⟨bh, rfl, _, hbh, hg1⟩
      obtain ⟨w2, hw2⟩ : ∃ w2, w2 = w1.alloc (.cells #[.slice A T1 c, .slice (some ⟨bh, 0, none⟩) 4 4, .slice A1 n1 c1] 57) := ⟨_, rfl⟩
      have g12 : Grew w1 w2 := by rw [hw2]; exact grew_alloc w1 _
      have gr2 : Grew wr w2 := hg1.trans (g12.mono hg1.size)
      have gw2 : Grew w w2 := HQ.out.2.2.2.2.trans (gr2.mono HQ.out.2.2.2.2.size)
      have r2 : Rd w2 w2.heap.size (some ⟨w1.heap.size, 0, none⟩) 3 [.slice A T1 c, .slice (some ⟨bh, 0, none⟩) 4 4, .slice A1 n1 c1] := by rw [hw2]; exact (Arr.new w1 57 _).rdv rfl
      have q2 : QRow w2 w.heap.size 5 1 (.slice A T1 c) T1 ((infoB (strB s) (L.take k)).map byt) := by
        rw [HR.out.2.2.2.2.1]
        exact HQ.out.1.grew gr2
      have R2 : RowsM m w2 [.slice A T1 c, .slice (some ⟨bh, 0, none⟩) 4 4, .slice A1 n1 c1] [infoB (strB s) (L.take k), highB n1 4, ys] := by
        have mm := H.out.2.1.grew gw2
        refine .cons (RdM.row q2 mm (by decide)) (by rw [HR.out.2.2.2.2.1]; exact HQ.out.2.1) (.cons ((NewRow.keep (xs := highB n1 4) hbh g12).rdm mm (by decide) (highB_len _ _)) (Nat.le_refl _) (.cons (HR.out.1.grew gw2) HR.out.2.2.2.1 .nil_))
      have hfl : [infoB (strB s) (L.take k), highB n1 4, ys].flatten = infoB (strB s) (L.take (k + 1)) := by
        rw [infoB_take _ HR.out.2.2.2.2.2, HR.out.2.1, HR.out.2.2.1]; simp
      have hfn : [infoB (strB s) (L.take k), highB n1 4, ys].flatten.length = T1 + 4 + n1 := by
        simp only [List.flatten_cons, List.flatten_nil, List.append_nil, List.length_append, highB_len, HR.out.2.2.1, ← HR.out.2.2.2.2.1]; omega
      have H2 := Lib.hid (And.intro r2 (And.intro R2 (And.intro hfl (And.intro hfn (And.intro gr2 (And.intro gw2 hw2))))))
      clear r2 R2 hfl hfn gr2 gw2 g12 q2 hg1 hbh hw2
      go_wp2_with fail
      rw [← H2.out.2.2.2.2.2.2]
      refine (Concat_any w2 _ _ 3 3 _ _ (Nat.le_refl _) H2.out.1 H2.out.2.1.rows (T1 + 4 + n1) H2.out.2.2.2.1 (by omega) (by decide)).mono ?_
      rintro e w3 ⟨A3, c3, rfl, hq3, hc3, hb3⟩
      have H3 : Hid (DerRel w key (strB s) L (.slice A3 (T1 + 4 + n1) c3) (.int .i64 ((k : Int) + 1)) w3) := by
        have g3 : Grew wr w3 := H2.out.2.2.2.2.1.trans (hb3.mono H2.out.2.2.2.2.1.size)
        have e1 : (infoB (strB s) (L.take (k + 1))).length = T1 + 4 + n1 := by rw [← H2.out.2.2.1, H2.out.2.2.2.1]
        refine ⟨k + 1, A3, c3, by omega, by go_num, by rw [e1], ?_, by rw [e1]; exact hc3, HQ.out.2.2.1.below g3, HQ.out.2.2.2.1.below g3, HQ.out.2.2.2.2.trans (g3.mono HQ.out.2.2.2.2.size)⟩
        rw [e1, ← H2.out.2.2.1]
        exact hq3.base H2.out.2.2.2.2.2.1.size
      clear hq3 hc3 hb3
      go_wp2_with fail
      go_roundw
      case rel => exact H3.out
      case measure => simp [intOf]; omega
    · obtain rfl : k = nr := by have := HLn.out; omega
      have hLt : L.take k = L := by rw [← HLn.out, List.take_length]
      obtain ⟨T, hT⟩ : ∃ T, T = (infoB (strB s) (L.take k)).length := ⟨_, rfl⟩
      rw [← hT]
      have hTb : T ≤ 140737486005000 := by omega
      have HT := Lib.hid (And.intro hT hLt)
      clear hq hqc hka hza hbw hilen htle hTo hT hLt
      go_wp2_with fail
      obtain ⟨w2, hw2⟩ : ∃ w2, w2 = (wr.alloc (.cells #[Value.int .u8 1] 5)).alloc (.cells #[.slice A T c, .slice (some ⟨wr.heap.size, 0, none⟩) 1 1] 57) := ⟨_, rfl⟩
      have gr2 : Grew wr w2 := by rw [hw2]; exact ((Below.refl _ _).alloc (Nat.le_refl _) _).alloc (by simp) _
      have gw2 : Grew w w2 := HQ.out.2.2.2.2.trans (gr2.mono HQ.out.2.2.2.2.size)
      have mm : Met w2 m := H.out.2.1.grew gw2
      have n2 : NewRow [1] w2 wr.heap.size := by rw [hw2]; exact (Arr.new wr 5 _).alloc _
      have r2 : RdM m w2 (some ⟨wr.heap.size + 1, 0, none⟩) 2 [.slice A T c, .slice (some ⟨wr.heap.size, 0, none⟩) 1 1] := by
        have h : Arr w2 (wr.heap.size + 1) 57 #[.slice A T c, .slice (some ⟨wr.heap.size, 0, none⟩) 1 1] := by rw [hw2]; exact Arr.new_at _ 57 _ (by simp)
        exact RdM.arr h mm (by decide) rfl
      have q2 : QRow w2 w.heap.size 5 1 (.slice A T c) T ((infoB (strB s) L).map byt) := by
        have := HQ.out.1.grew gr2
        rw [← HT.out.1, HT.out.2] at this
        exact this
      have R2 : RowsM m w2 [.slice A T c, .slice (some ⟨wr.heap.size, 0, none⟩) 1 1] [infoB (strB s) L, [1]] :=
        .cons (RdM.row q2 mm (by decide)) (by rw [HT.out.1]; exact HQ.out.2.1) (.cons (n2.rdm mm (by decide) rfl) (Nat.le_refl _) .nil_)
      have hbb : ∀ ys ∈ [infoB (strB s) L, [1]], ∀ b ∈ ys, b < 256 := fun ys hy b hb => by
        simp only [List.mem_cons, List.not_mem_nil, or_false] at hy
        rcases hy with rfl | rfl
        · have := infoB_lt (strB_lt s) (by rw [strB_len]; omega) H.out.2.2.2.2.2.2.2 k (by rw [HLn.out]; exact Nat.le_refl _) b
          rw [HT.out.2] at this
          exact this hb
        · simp at hb; omega
      have hfl : [infoB (strB s) L, [1]].flatten.length ≤ 140737487000000 := by
        have e : (infoB (strB s) L).length = T := by rw [HT.out.1, HT.out.2]
        simp [e]; omega
      have hkr : RdM m w2 (some ⟨w.heap.size, 0, none⟩) 32 (key.map byt) := by
        have := RdM.key (HQ.out.2.2.1.below gr2) mm (by decide)
        rw [H.out.2.2.1] at this
        exact this
      have H2 := Lib.hid (And.intro r2 (And.intro R2 (And.intro hbb (And.intro hfl (And.intro hkr (And.intro gr2 (And.intro gw2 (And.intro mm hw2))))))))
      clear r2 R2 hbb hfl hkr gr2 gw2 mm n2 q2 hw2
      rw [← H2.out.2.2.2.2.2.2.2.2]
      refine (Hmac_any w2 m (H.out.1.below H2.out.2.2.2.2.2.2.1) H2.out.2.2.2.2.2.2.2.1 _ _ 32 32 2 2 key _ _ H2.out.2.2.2.2.1 H2.out.1 H2.out.2.1 (by decide) H2.out.2.2.2.1 (by decide) H.out.2.2.2.1 H2.out.2.2.1).mono ?_
      rintro e w3 ⟨rfl, hg3⟩
      have h3 : Arr w3 (w.heap.size + 1) 23 (keyA (List.replicate 32 0)) := (HQ.out.2.2.2.1.below H2.out.2.2.2.2.2.1).gr H2.out.2.2.2.2.2.2.2.1 hg3 (by decide)
      obtain ⟨F, hF⟩ : ∃ F, F = hmac key [infoB (strB s) L, [1]].flatten := ⟨_, rfl⟩
      rw [← hF]
      have hFl : F.length = 32 := by rw [hF, hmac_len]
      have hFs : (keyA F).size = 32 := by rw [keyA_size, hFl]
      have hst := h3.store (P := Tryd.prog) (V := keyA F) (by rw [keyA_size, hFs]; rfl) (keyA_one _)
      have hl2 := (h3.setRow (keyA F)).load (P := Tryd.prog) (n := 32) hFs
      have H7 := Lib.hid (And.intro hF ((Gr.of H.out.2.1 H2.out.2.2.2.2.2.2.1).trans hg3))
      clear hF hFl h3 hg3
      go_simp
      go_wp2
      refine bodyPost_ret (v := .agg (keyA F)) (by simp [results, Tryd.results88, go_sem, hl2, hFs]) rfl ⟨?_, gr_setRow H7.out.2 (Nat.le_succ _) H.out.2.1.lt _⟩
      rw [H7.out.1, derive]
      simp
end Go.Proofs.YtejifhdkgfilgaaDoor
