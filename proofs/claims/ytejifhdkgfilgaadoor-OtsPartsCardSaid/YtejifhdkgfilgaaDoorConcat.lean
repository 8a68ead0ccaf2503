/- slices.Grow and slices.Concat at bytes. -/
import Derived.Test.YtejifhdkgfilgaaDoorHigh
import Derived.Lib.AppendZerosOnto
namespace Go.Proofs.YtejifhdkgfilgaaDoor
open Go.RowKit
set_option maxHeartbeats 1000000 in
set_option maxRecDepth 100000 in
theorem Grow_nil (w : World) (n : Nat) (hn : n ≤ 140737488355328) :
    Calls Tryd.prog 101 #[.slice none 0 0, .int .i64 n] w fun e w' => ∃ A c, e = .returned (.slice A 0 c) ∧ QRow w' w.heap.size 5 1 (.slice A 0 c) 0 [] ∧ Below w.heap.size w w' := by
  by_cases h0 : n = 0
  · subst h0
    go_enter Tryd.func101, Tryd.ntmps101
    go_wp2
    go_ret
    exact ⟨none, 0, rfl, QRow.nil_, Below.refl _ _⟩
  · have hpos : decide ((n : Int) > 0) = true := by simp; omega
    have hneg : decide ((n : Int) < 0) = false := by simp
    obtain ⟨i0, hi, hz0, hz1, hz2⟩ := info_parts info5
    have hold : (Builtin.firstCells i0.size 0 (.slice none 0 0)).run Tryd.prog w.drew = .ok ([] : List Value).toArray w.drew := run_firstCells_none w.drew i0.size 0 0 0
    have hrz := fun ty => Lib.run_append_grow_zeros (P := Tryd.prog) w 57 3 ty 5 i0 (.int .u8 0) .i64 .i64 Tryd.underlying57 Tryd.underlying3 hi hz0 none 0 0 [] hold n (by omega) (by omega) (by omega) (by omega)
      (by rw [hz2]; omega) (growslice_fits (by omega) (by rw [hz2]; omega))
    simp only [Nat.zero_add] at hrz
    have hGn : n ≤ grownCap w n 0 5 := grownCap_ge w _ _ _
    have hG63 : grownCap w n 0 5 ≤ maxLen := grownCap_le_maxLen w n 0 5 (by unfold maxLen; omega)
    obtain ⟨G, hG⟩ : ∃ G, G = grownCap w n 0 5 := ⟨_, rfl⟩
    rw [← hG] at hrz hGn hG63
    have hG' : G ≤ 9223372036854775807 := by unfold maxLen at hG63; omega
    clear hold hG
    go_enter Tryd.func101, Tryd.ntmps101
    go_wp2_with (at_builtin; refine Lib.wpList_append_run _ rfl _ _ _ _ rfl _ _ rfl rfl _ _ (hrz _) ?_)
    go_ret
    refine ⟨_, _, rfl, ⟨rfl, .inr ⟨_, 0, _, _, rfl, Nat.le_refl _, heap_alloc_last _ _, by omega, hG63, ?_, fun j u hu => by simp at hu⟩⟩, ?_⟩
    · simp [Builtin.zeroCells]; omega
    · exact below_of_drew ((Below.refl w.heap.size w.drew).alloc (Nat.le_refl _) _)
/-- slice values that read as lists of bytes -/
def Rows (w : World) (B : Nat) (us : List Value) (L : List (List Nat)) : Prop :=
  us.length = L.length ∧ ∀ (k : Nat) (u : Value), us[k]? = some u → ∃ (A : Option Addr) (n c : Nat) (xs : List Nat), u = .slice A n c ∧ L[k]? = some xs ∧ n ≤ c ∧ Rd w B A n (xs.map byt)
theorem run_append_none {P : Program} (w : World) (t ty e : TypeId) (i : TypeInfo) (ht : P.underlying t = some (.slice e)) (hi : P.info? e = some i) (A A0 : Option Addr) (n cap c : Nat) (hn : n ≤ cap) :
    (Builtin.append_ #[t, t] ty #[.slice A n cap, .slice A0 0 c]).run P w = .ok (.slice A n cap) w := by
  cases A <;> cases A0 <;> simp [Builtin.append_, run_underlying ht, sizeOf, typeInfo, hi, Builtin.lenOf, hn, Builtin.firstCells, loadCells, loadCellsFrom, storeCells]
/-- append of a slice that reads as bytes, whatever its length -/
theorem run_append_bytes {P : Program} (w : World) (t ty e : TypeId) (i : TypeInfo) (z : Value) (bytes : Nat) (ht : P.underlying t = some (.slice e)) (hi : P.info? e = some i) (hz : i.zero = some z)
    (hsize : i.size = 1) (hby : i.bytes = bytes) (hzs : z.cells.size = 1) (base n : Nat) (v : Value) (xs : List Value) (hq : QRow w base e 1 v n xs) (hbase : base ≤ w.heap.size)
    (B : Nat) (A0 : Option Addr) (m c : Nat) (news : List Value) (hr : Rd w B A0 m news) (h1 : ∀ u ∈ news, u.oneCell' = true)
    (h63 : n + m ≤ maxLen) (hbytes : (n + m) * bytes ≤ 140737488355328) :
    ∃ A' cap w', (Builtin.append_ #[t, t] ty #[v, .slice A0 m c]).run P w = .ok (.slice A' (n + m) cap) w' ∧ QRow w' base e 1 (.slice A' (n + m) cap) (n + m) (xs ++ news) ∧ w.grownBy w' v.ownBlock ∧ n + m ≤ cap := by
  rcases Nat.eq_zero_or_pos m with h0 | h0
  · subst h0
    obtain rfl : news = [] := List.eq_nil_of_length_eq_zero hr.len
    rw [List.append_nil, Nat.add_zero]
    rcases hq.form with ⟨rfl, rfl⟩ | ⟨g, off, cap, cur, rfl, hb, hh, hle, _⟩
    · exact ⟨none, 0, w, run_append_none w t ty e i ht hi none A0 0 0 c (Nat.le_refl _), hq, ⟨rfl, rfl, rfl, Nat.le_refl _, fun _ _ _ => rfl⟩, Nat.le_refl _⟩
    · exact ⟨_, cap, w, run_append_none w t ty e i ht hi _ A0 n cap c hle, hq, ⟨rfl, rfl, rfl, Nat.le_refl _, fun _ _ _ => rfl⟩, hle⟩
  · obtain ⟨a, rfl, _, hc⟩ := hr.at_ h0
    obtain ⟨g, off, cap, w', r0, r1, r2, r3⟩ := run_append_q' (P := P) w t ty e i z 1 bytes ht hi hz hsize hby hzs (by decide) base n v xs hq hbase a m c news (by rw [hr.len, Nat.mul_one]) hc h1 h0 h63 hbytes
    refine ⟨_, cap, w', r0, r1, r2, ?_⟩
    rcases r1.form with ⟨e, _⟩ | ⟨_, _, _, _, e, _, _, hle, _⟩
    · cases e
    · injection e with _ _ e3; omega
theorem Rows.get {w : World} {B : Nat} {us : List Value} {L : List (List Nat)} (h : Rows w B us L) {k : Nat} (hk : k < L.length) : ∃ (A : Option Addr) (c : Nat), us[k]? = some (.slice A L[k].length c) ∧ L[k].length ≤ c ∧ Rd w B A L[k].length (L[k].map byt) := by
  have hk' : k < us.length := by rw [h.1]; exact hk
  obtain ⟨A, n, c, xs, e, hx, hn, hr⟩ := h.2 k us[k] (List.getElem?_eq_getElem hk')
  rw [List.getElem?_eq_getElem hk, Option.some.injEq] at hx
  subst hx
  have hl : n = L[k].length := by have := hr.len; simpa using this.symm
  subst hl
  exact ⟨A, c, by rw [List.getElem?_eq_getElem hk', e], hn, hr⟩
theorem Rows.below {w w' : World} {B : Nat} {us : List Value} {L : List (List Nat)} {C : Nat} (h : Rows w B us L) (hb : Below C w w') (hBC : B ≤ C) : Rows w' B us L :=
  ⟨h.1, fun k u hu => by
    obtain ⟨A, n, c, xs, e, hx, hn, hr⟩ := h.2 k u hu
    exact ⟨A, n, c, xs, e, hx, hn, hr.below hb hBC⟩⟩
/-- how many bytes in the first k -/
def total (L : List (List Nat)) (k : Nat) : Nat := (L.take k).flatten.length
theorem total_succ {L : List (List Nat)} {k : Nat} (hk : k < L.length) : total L (k + 1) = total L k + L[k].length := by
  unfold total
  rw [List.take_succ_eq_append_getElem hk, List.flatten_append]
  simp
theorem total_le (L : List (List Nat)) (k : Nat) : total L k ≤ L.flatten.length := by
  unfold total
  conv => rhs; rw [← List.take_append_drop k L, List.flatten_append, List.length_append]
  omega
set_option maxRecDepth 100000 in
set_option maxHeartbeats 1000000 in
theorem Concat_any (w : World) (B : Nat) (Ao : Option Addr) (n c : Nat) (us : List Value) (L : List (List Nat)) (hB : B ≤ w.heap.size) (hr : Rd w B Ao n us) (hR : Rows w B us L) (T : Nat) (hTd : L.flatten.length = T) (hT : T ≤ 140737488355328) (hn : n ≤ 140737488355328) :
    Calls Tryd.prog 76 #[.slice Ao n c] w fun e w' => ∃ A cap, e = .returned (.slice A T cap) ∧ QRow w' w.heap.size 5 1 (.slice A T cap) T (L.flatten.map byt) ∧ T ≤ cap ∧ Below w.heap.size w w' := by
  have hnL : L.length = n := by rw [← hR.1, hr.len]
  have HR := Lib.hid (And.intro hr hR)
  have HT := Lib.hid (show L.flatten.length ≤ 140737488355328 by omega)
  have HTd := Lib.hid hTd
  have HL := Lib.hid hnL
  clear hr hR hTd hnL
  go_enter Tryd.func76, Tryd.ntmps76
  go_wp2
  go_loopw [3, 11] (fun s i wr => ∃ k : Nat, k ≤ n ∧ i = .int .i64 k ∧ s = .int .i64 (total L k : Nat) ∧ w = wr) (fun _ i _ => n - (intOf i).toNat)
  case atStart => exact ⟨0, Nat.zero_le _, rfl, rfl, rfl⟩
  case round =>
    obtain ⟨k, hk, rfl, rfl, rfl⟩ := hrel
    by_cases hlt : k < n
    · have hkL : k < L.length := by rw [HL.out]; exact hlt
      obtain ⟨a, rfl, _, hc⟩ := HR.out.1.at_ (by omega)
      obtain ⟨A1, c1, hu, hle1, hr1⟩ := HR.out.2.get hkL
      have hc1 := hc k _ hu
      have hts := total_succ hkL
      have htl := total_le L (k + 1)
      have hTo := HT.out
      obtain ⟨m1, hm1⟩ : ∃ m1, m1 = L[k].length := ⟨_, rfl⟩
      obtain ⟨T1, hT1⟩ : ∃ T1, T1 = total L k := ⟨_, rfl⟩
      rw [← hm1] at hc1 hts
      rw [← hT1] at hts ⊢
      have hb1 : T1 + m1 ≤ 140737488355328 := by omega
      have HA := Lib.hid hts
      clear hts htl hTo hc hu hr1 hle1 hm1 hT1
      go_wp2
      go_roundw
      case rel => exact ⟨k + 1, by omega, by go_num, by rw [HA.out]; simp, trivial⟩
      case measure => simp [intOf]; omega
    · obtain rfl : k = n := by omega
      have hT2 : total L k = T := by unfold total; rw [← HL.out, List.take_length]; exact HTd.out
      rw [hT2]
      clear hT2
      go_wp2_with (go_at_call 101; go_must (refine (Grow_nil w T hT).mono ?_); rintro e w1 ⟨Ag, cg, rfl, hqg, hbg⟩; have HG := Lib.hid (And.intro hqg hbg); clear hqg hbg)
      obtain ⟨i0, hi, hz0, hz1, hz2⟩ := info_parts info5
      go_loopw [6, 27] (fun v i wr => ∃ (j : Nat) (A' : Option Addr) (c' : Nat), j ≤ k ∧ i = .int .i64 j ∧ v = .slice A' (total L j) c' ∧ QRow wr w.heap.size 5 1 (.slice A' (total L j) c') (total L j) ((L.take j).flatten.map byt) ∧ total L j ≤ c' ∧ Below w.heap.size w wr) (fun _ i _ => k - (intOf i).toNat)
      case atStart => exact ⟨0, Ag, cg, Nat.zero_le _, rfl, rfl, HG.out.1, Nat.zero_le _, HG.out.2⟩
      case round =>
        obtain ⟨j, A', c', hj, rfl, rfl, hq, hle, hb⟩ := hrel
        by_cases hlt : j < k
        · have hkL : j < L.length := by rw [HL.out]; exact hlt
          have hs := hb.size
          obtain ⟨a, rfl, hab, hc⟩ := HR.out.1.at_ (by omega)
          obtain ⟨A1, c1, hu, hle1, hr1⟩ := HR.out.2.get hkL
          have hc1 : wr.cell? (a.add j) = some (.slice A1 L[j].length c1) := (hb.cell (p := a.add j) (by rw [add_block]; omega)).trans (hc j _ hu)
          have hts := total_succ hkL
          have htl := total_le L (j + 1)
          have hTo := HT.out
          obtain ⟨A2, cap2, w2, hrun, hq2, hgr, hle2⟩ := run_append_bytes (P := Tryd.prog) wr 57 57 5 i0 (.int .u8 0) 1 Tryd.underlying57 hi hz0 hz1 hz2 rfl w.heap.size (total L j) _ _ hq hs B A1 L[j].length c1 _ (hr1.below hb hB) (by simp [byt, Value.oneCell']) (by unfold maxLen; omega) (by omega)
          rw [← hts] at hrun hq2 hle2
          have HA := Lib.hid (And.intro hq2 (And.intro (hb.grown hgr hs (fun g e => (hq.lt g e).1)) (And.intro hle2 (And.intro hle hq))))
          clear hq hle hb hts htl hTo hc hu hr1 hle1 hq2 hgr hle2
          go_wp2_with (at_builtin; refine Lib.wpList_append_run _ rfl _ _ _ _ rfl _ _ rfl rfl _ _ hrun ?_)
          go_roundw
          case rel =>
            refine ⟨j + 1, A2, cap2, by omega, by go_num, rfl, ?_, HA.out.2.2.1, HA.out.2.1⟩
            rw [List.take_succ_eq_append_getElem hkL, List.flatten_append, List.map_append]
            simpa using HA.out.1
          case measure => simp [intOf]; omega
        · obtain rfl : j = k := by omega
          have hT2 : total L j = T := by unfold total; rw [← HL.out, List.take_length]; exact HTd.out
          have hF : L.take j = L := by rw [← HL.out, List.take_length]
          rw [hT2, hF] at hq
          rw [hT2] at hle
          rw [hT2]
          have HA := Lib.hid (And.intro hq (And.intro hle hb))
          clear hq hle hb hT2 hF
          go_wp2
          go_ret
          exact ⟨A', c', rfl, HA.out.1, HA.out.2.1, HA.out.2.2⟩
/-- octets.Join -/
theorem Join_any (w : World) (B : Nat) (Ao : Option Addr) (n c : Nat) (us : List Value) (L : List (List Nat)) (hB : B ≤ w.heap.size) (hr : Rd w B Ao n us) (hR : Rows w B us L) (T : Nat) (hTd : L.flatten.length = T) (hT : T ≤ 140737488355328) (hn : n ≤ 140737488355328) :
    Calls Tryd.prog 77 #[.slice Ao n c] w fun e w' => ∃ A cap, e = .returned (.slice A T cap) ∧ QRow w' w.heap.size 5 1 (.slice A T cap) T (L.flatten.map byt) ∧ T ≤ cap ∧ Below w.heap.size w w' := by
  go_enter Tryd.func77, Tryd.ntmps77
  go_wp2_with (go_at_call 76; go_must (refine (Concat_any w B Ao n c us L hB hr hR T hTd hT hn).mono ?_); rintro e w1 ⟨A, cap, rfl, hq, hle, hb⟩; have HG := Lib.hid (And.intro hq (And.intro hle hb)); clear hq hle hb)
  go_ret
  exact ⟨A, cap, rfl, HG.out.1, HG.out.2.1, HG.out.2.2⟩
end Go.Proofs.YtejifhdkgfilgaaDoor
