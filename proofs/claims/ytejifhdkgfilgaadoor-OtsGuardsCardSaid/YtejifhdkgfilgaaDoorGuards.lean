/- law08's guards: digests that differ have digits that differ both ways. -/
import Derived.Test.YtejifhdkgfilgaaDoorAwake
import Derived.Test.YtejifhdkgfilgaaDoorComp
import Derived.BigQuiet
namespace Go.Proofs.YtejifhdkgfilgaaDoor
open Go.RowKit
/-- some of the first k digits of ds is greater -/
def upTo (ds es : List Nat) : Nat → Bool
  | 0 => false
  | k + 1 => upTo ds es k || decide (es.getD k 0 < ds.getD k 0)
theorem upTo_iff (ds es : List Nat) (k : Nat) : upTo ds es k = true ↔ ∃ i, i < k ∧ es.getD i 0 < ds.getD i 0 := by
  induction k with
  | zero => simp [upTo]
  | succ k ih =>
    rw [upTo, Bool.or_eq_true, ih, decide_eq_true_iff]
    constructor
    · rintro (⟨i, h1, h2⟩ | h)
      · exact ⟨i, by omega, h2⟩
      · exact ⟨k, by omega, h⟩
    · rintro ⟨i, h1, h2⟩
      by_cases hk : i = k
      · exact .inr (hk ▸ h2)
      · exact .inl ⟨i, by omega, h2⟩
theorem upTo_digits (a b : List Nat) (ha : a.length = 32) (hb : b.length = 32) (hab : ∀ x ∈ a, x < 256) (hbb : ∀ x ∈ b, x < 256) : upTo (digits a) (digits b) 67 = !decide (a = b) := by
  by_cases e : a = b
  · subst e
    rw [decide_eq_true rfl]
    cases h : upTo (digits a) (digits a) 67 with
    | false => rfl
    | true =>
      obtain ⟨i, _, h2⟩ := (upTo_iff _ _ _).1 h
      omega
  · rw [decide_eq_false e]
    exact (upTo_iff _ _ _).2 (digits_up a b ha hb hab hbb e)
def GuRel (w : World) (ds es : List Nat) (u v i : Value) (wr : World) : Prop :=
  ∃ k : Nat, k ≤ 67 ∧ i = .int .i64 k ∧ u = .bool (upTo ds es k) ∧ v = .bool (upTo es ds k) ∧ Grew w wr
attribute [-go_sem] loadCellsFrom storeCells
attribute [local go_sem] storeCells_one growAt growUpon
set_option maxRecDepth 100000 in
set_option maxHeartbeats 2000000 in
theorem Guards_any (w : World) (hg : Shas w) (a b : List Nat) (ha : a.length = 32) (hb : b.length = 32) (hab : ∀ x ∈ a, x < 256) (hbb : ∀ x ∈ b, x < 256) :
    Calls Tryd.prog 6 #[.agg (keyA a), .agg (keyA b)] w fun e w' => e = .returned (.bool true) ∧ Grew w w' := by
  have H := Lib.hid (And.intro hg (And.intro ha (And.intro hb (And.intro hab hbb))))
  clear hg ha hb hab hbb
  go_enter Tryd.func6, Tryd.ntmps6
  go_wp2_with fail
  obtain ⟨W0, hW0⟩ : ∃ W0, W0 = (w.alloc (.cells (keyA a) 23)).alloc (.cells (keyA b) 23) := ⟨_, rfl⟩
  have g0 : Grew w W0 := by rw [hW0]; exact (grew_alloc w _).trans ((grew_alloc _ _).mono (grew_alloc w _).size)
  have aa : Arr W0 w.heap.size 23 (keyA a) := by rw [hW0]; exact (Arr.new w 23 _).alloc _
  have ab : Arr W0 (w.heap.size + 1) 23 (keyA b) := by rw [hW0]; exact Arr.new_at _ 23 _ (by simp)
  rw [← hW0]
  have H0 := Lib.hid (And.intro g0 (And.intro aa ab))
  clear g0 aa ab hW0
  refine (Awake_any W0 (H.out.1.below H0.out.1)).mono ?_
  rintro e W1 ⟨rfl, g1⟩
  have hl := (H0.out.2.1.below g1).load (P := Tryd.prog) (n := 32) (by rw [keyA_size, H.out.2.1])
  go_wp2_with fail
  clear hl
  refine (Digits_any W1 a H.out.2.1 H.out.2.2.2.1).mono ?_
  rintro e W2 ⟨A1, c1, rfl, q1, hc1, g2⟩
  have hl := ((H0.out.2.2.below g1).below g2).load (P := Tryd.prog) (n := 32) (by rw [keyA_size, H.out.2.2.1])
  go_wp2_with fail
  clear hl
  refine (Digits_any W2 b H.out.2.2.1 H.out.2.2.2.2).mono ?_
  rintro e W3 ⟨A2, c2, rfl, q2, hc2, g3⟩
  obtain ⟨ds, hds⟩ : ∃ ds, ds = digits a := ⟨_, rfl⟩
  obtain ⟨es, hes⟩ : ∃ es, es = digits b := ⟨_, rfl⟩
  obtain ⟨p1, o1, rfl, _, s1, _, _, k1, _⟩ := (q1.grew g3).open_ (by decide)
  obtain ⟨p2, o2, rfl, _, s2, _, _, k2, _⟩ := q2.open_ (by decide)
  rw [← hds] at k1
  rw [← hes] at k2
  have hdl : ds.length = 67 := by rw [hds, digits_len H.out.2.1]
  have hel : es.length = 67 := by rw [hes, digits_len H.out.2.2.1]
  have hd16 : ∀ x ∈ ds, x < 16 := by rw [hds]; exact digits_lt H.out.2.2.2.1 H.out.2.1
  have he16 : ∀ x ∈ es, x < 16 := by rw [hes]; exact digits_lt H.out.2.2.2.2 H.out.2.2.1
  have aa := ((H0.out.2.1.below g1).below g2).below g3
  have ab := ((H0.out.2.2.below g1).below g2).below g3
  have gw : Grew w W3 := by
    have e1 := H0.out.1.trans (g1.mono H0.out.1.size)
    have e2 := e1.trans (g2.mono e1.size)
    exact e2.trans (g3.mono e2.size)
  have H3 := Lib.hid (And.intro gw (And.intro aa (And.intro ab (And.intro s1 (And.intro s2 (And.intro k1 (And.intro k2 (And.intro hdl (And.intro hel (And.intro hd16 (And.intro he16 (And.intro hds hes))))))))))))
  clear gw aa ab s1 s2 k1 k2 hdl hel hd16 he16 hds hes q1 q2 hc1 hc2 g1 g2 g3 H0
  go_wp2_with fail
  go_loopw [8, 9, 10] (fun u v i wr => GuRel W3 ds es u v i wr) (fun _ _ i _ => 67 - (intOf i).toNat)
  case atStart => exact ⟨0, Nat.zero_le _, rfl, rfl, rfl, Below.refl _ _⟩
  case round =>
    obtain ⟨k, hk, rfl, rfl, rfl, hgr⟩ := hrel
    by_cases hlt : k < 67
    · have hkd : k < ds.length := by rw [H3.out.2.2.2.2.2.2.2.1]; exact hlt
      have hke : k < es.length := by rw [H3.out.2.2.2.2.2.2.2.2.1]; exact hlt
      obtain ⟨x, hx⟩ : ∃ x, x = ds[k] := ⟨_, rfl⟩
      obtain ⟨y, hy⟩ : ∃ y, y = es[k] := ⟨_, rfl⟩
      have hx16 : x < 16 := by rw [hx]; exact H3.out.2.2.2.2.2.2.2.2.2.1 _ (List.getElem_mem _)
      have hy16 : y < 16 := by rw [hy]; exact H3.out.2.2.2.2.2.2.2.2.2.2.1 _ (List.getElem_mem _)
      have c1' : wr.cell? ⟨p1, o1 + k, none⟩ = some (.int .i64 x) := (World.cell?_of_block (w := W3) (hgr.block _ H3.out.2.2.2.1)).trans (H3.out.2.2.2.2.2.1 k _ (by simp [hkd, num, hx]))
      have c2' : wr.cell? ⟨p2, o2 + k, none⟩ = some (.int .i64 y) := (World.cell?_of_block (w := W3) (hgr.block _ H3.out.2.2.2.2.1)).trans (H3.out.2.2.2.2.2.2.1 k _ (by simp [hke, num, hy]))
      have hx0 : decide ((x : Int) < 0) = false := by simp
      have hy0 : decide ((y : Int) < 0) = false := by simp
      have hx1 : decide ((15 : Int) < x) = false := by simp; omega
      have hy1 : decide ((15 : Int) < y) = false := by simp; omega
      obtain ⟨U, hU⟩ : ∃ U, U = upTo ds es k := ⟨_, rfl⟩
      obtain ⟨V, hV⟩ : ∃ V, V = upTo es ds k := ⟨_, rfl⟩
      rw [← hU, ← hV]
      have hU2 : upTo ds es (k + 1) = (U || decide (y < x)) := by
        rw [upTo, ← hU, show ds.getD k 0 = x from by simp [List.getD, hkd, hx], show es.getD k 0 = y from by simp [List.getD, hke, hy]]
      have hV2 : upTo es ds (k + 1) = (V || decide (x < y)) := by
        rw [upTo, ← hV, show ds.getD k 0 = x from by simp [List.getD, hkd, hx], show es.getD k 0 = y from by simp [List.getD, hke, hy]]
      have HQ := Lib.hid (And.intro hgr (And.intro hU2 hV2))
      clear hU2 hV2 hU hV hx hy hgr
      have hdk : decide ((k : Int) < 67) = true := by simp; omega
      go_wp2_with fail
      have hfin : ∀ W, Grew wr W → Hid (GuRel W3 ds es (.bool (U || decide (y < x))) (.bool (V || decide (x < y))) (.int .i64 ((k : Int) + 1)) W) := fun W hW =>
        ⟨k + 1, by omega, by go_num, by rw [HQ.out.2.1], by rw [HQ.out.2.2], HQ.out.1.trans (hW.mono HQ.out.1.size)⟩
      have HF := Lib.hid hfin
      clear hfin
      cases U
      · go_quiet (fail)
        go_wp2_with fail
        cases V
        · go_quiet (fail)
          go_wp2_with fail
          go_roundw
          case rel => exact (by simpa only [Bool.false_or, Bool.true_or] using (HF.out _ (below_drewN_ (Below.refl _ _) _)).out)
          case measure => simp [intOf]; omega
        · go_quiet (fail)
          go_wp2_with fail
          go_roundw
          case rel => exact (by simpa only [Bool.false_or, Bool.true_or] using (HF.out _ (below_drewN_ (Below.refl _ _) _)).out)
          case measure => simp [intOf]; omega
      · go_quiet (fail)
        go_wp2_with fail
        cases V
        · go_quiet (fail)
          go_wp2_with fail
          go_roundw
          case rel => exact (by simpa only [Bool.false_or, Bool.true_or] using (HF.out _ (below_drewN_ (Below.refl _ _) _)).out)
          case measure => simp [intOf]; omega
        · go_quiet (fail)
          go_wp2_with fail
          go_roundw
          case rel => exact (by simpa only [Bool.false_or, Bool.true_or] using (HF.out _ (below_drewN_ (Below.refl _ _) _)).out)
          case measure => simp [intOf]; omega
    · obtain rfl : k = 67 := by omega
      rw [show ((67 : Nat) : Int) = 67 from rfl]
      have hU := upTo_digits a b H.out.2.1 H.out.2.2.1 H.out.2.2.2.1 H.out.2.2.2.2
      have hV := upTo_digits b a H.out.2.2.1 H.out.2.1 H.out.2.2.2.2 H.out.2.2.2.1
      rw [← H3.out.2.2.2.2.2.2.2.2.2.2.2.1, ← H3.out.2.2.2.2.2.2.2.2.2.2.2.2] at hU hV
      rw [show decide (b = a) = decide (a = b) from decide_eq_decide.2 eq_comm] at hV
      rw [hU, hV]
      have hl1 := (H3.out.2.1.below hgr).load (P := Tryd.prog) (n := 32) (by rw [keyA_size, H.out.2.1])
      have hl2 := (H3.out.2.2.1.below hgr).load (P := Tryd.prog) (n := 32) (by rw [keyA_size, H.out.2.2.1])
      have he := run_equal_key wr a b H.out.2.1 H.out.2.2.1
      obtain ⟨T, hT⟩ : ∃ T, T = decide (a = b) := ⟨_, rfl⟩
      rw [← hT] at he ⊢
      have HG := Lib.hid (H3.out.1.trans (hgr.mono H3.out.1.size))
      clear hU hV hT hgr
      cases T
      · go_wp2
        go_ret
        exact ⟨rfl, HG.out⟩
      · go_wp2
        go_ret
        exact ⟨rfl, HG.out⟩
end Go.Proofs.YtejifhdkgfilgaaDoor
