/- The padding of a digest. -/
import Derived.Test.YtejifhdkgfilgaaDoorBlock
namespace Go.Proofs.YtejifhdkgfilgaaDoor
open Go.RowKit
/-- what stands behind n bytes -/
def padB (n : Nat) : List Nat := [[128], List.replicate ((119 - n % 64) % 64) 0, highB (n * 8) 8].flatten
theorem padB_len (n : Nat) : (padB n).length = 9 + (119 - n % 64) % 64 := by simp [padB, highB_len]; omega
/-- letters of a region: a slice's address, a block, a capacity -/
abbrev Ix := Option Addr × Nat × Nat
/-- nothing that was there is turned -/
abbrev Grew (w w' : World) : Prop := Below w.heap.size w w'
/-- a new slice of bytes in a block of its own -/
def NewRow (xs : List Nat) (w : World) (b : Nat) : Prop := Arr w b 5 (xs.map byt).toArray
theorem NewRow.keep {xs : List Nat} {w w' : World} {b : Nat} (h : NewRow xs w b) (hr : Grew w w') : NewRow xs w' b := Arr.below h hr
theorem QRow.grew {w w' : World} {base n size : Nat} {E : TypeId} {v : Value} {xs : List Value} (h : QRow w base E size v n xs) (hr : Grew w w') : QRow w' base E size v n xs := h.below hr fun g e => (h.lt g e).2
theorem QRow.base {w : World} {base base' n size : Nat} {E : TypeId} {v : Value} {xs : List Value} (h : QRow w base E size v n xs) (hb : base' ≤ base) : QRow w base' E size v n xs := by
  refine ⟨h.len, ?_⟩
  rcases h.form with h2 | ⟨g, off, cap, cur, hv, hg, r⟩
  · exact .inl h2
  · exact .inr ⟨g, off, cap, cur, hv, by omega, r⟩
theorem grew_stays (w : World) : Stays Grew (fun W => Below w.heap.size w W) := fun _ _ hr hS => hS.trans (hr.mono hS.size)
theorem rows3 {w : World} {B b1 b2 b3 : Nat} {xs ys zs : List Nat} {n1 n2 n3 c1 c2 c3 : Nat} (h1 : NewRow xs w b1) (h2 : NewRow ys w b2) (h3 : NewRow zs w b3)
    (e1 : xs.length = n1) (e2 : ys.length = n2) (e3 : zs.length = n3) (f1 : n1 ≤ c1) (f2 : n2 ≤ c2) (f3 : n3 ≤ c3) (hB : w.heap.size = B) :
    Rows w B [.slice (some ⟨b1, 0, none⟩) n1 c1, .slice (some ⟨b2, 0, none⟩) n2 c2, .slice (some ⟨b3, 0, none⟩) n3 c3] [xs, ys, zs] := by
  subst hB
  refine ⟨rfl, fun k u hu => ?_⟩
  match k, hu with
  | 0, hu => simp at hu; subst hu; exact ⟨_, _, _, xs, rfl, rfl, f1, Arr.rdn (t := 5) h1 e1⟩
  | 1, hu => simp at hu; subst hu; exact ⟨_, _, _, ys, rfl, rfl, f2, Arr.rdn (t := 5) h2 e2⟩
  | 2, hu => simp at hu; subst hu; exact ⟨_, _, _, zs, rfl, rfl, f3, Arr.rdn (t := 5) h3 e3⟩
/-- a slice that is a whole block -/
theorem Arr.rdv {w : World} {b n : Nat} {t : TypeId} {V : Array Value} (h : Arr w b t V) (hn : V.size = n) : Rd w w.heap.size (some ⟨b, 0, none⟩) n V.toList :=
  ⟨by simpa using hn, fun _ => ⟨_, rfl, h.lt, fun j u hu => by rw [Addr.add_lit, Nat.zero_add, h.cell]; simpa using hu⟩⟩
attribute [local go_sem] growAt growUpon
set_option maxRecDepth 100000 in
set_option maxHeartbeats 400000 in
theorem Pad_any (w : World) (n : Nat) (hn : n ≤ 140737488355328) (T : Nat) (hT : (padB n).length = T) :
    Calls Tryd.prog 102 #[.int .i64 n] w fun e w' => ∃ A cap, e = .returned (.slice A T cap) ∧ QRow w' w.heap.size 5 1 (.slice A T cap) T ((padB n).map byt) ∧ T ≤ cap ∧ Below w.heap.size w w' := by
  have hneg : decide ((n : Int) < 0) = false := by simp
  obtain ⟨z, hz⟩ : ∃ z, z = (119 - n % 64) % 64 := ⟨_, rfl⟩
  have hzi : (119 - (n : Int) % 64) % 64 = (z : Int) := by omega
  have hz64 : z < 64 := by omega
  have hTl : T ≤ 200 := by rw [← hT, padB_len]; omega
  have HZ := Lib.hid hz
  have HT := Lib.hid hT
  clear hz hT
  obtain ⟨i0, hi, hz0, hz1, hz2⟩ := info_parts info5
  have hmk := fun W : World => run_make_row (P := Tryd.prog) 57 5 i0 (.int .u8 0) Tryd.underlying57 hi hz0 hz1 rfl .i64 .i64 z (by rw [hz2]; omega) (by omega) W
  have HM := Lib.hid hmk
  clear hmk hi hz0 hz1 hz2
  have hwr : IntKind.u64.wrap (IntKind.u64.wrap (n : Int) * 8) = ((n * 8 : Nat) : Int) := by simp [IntKind.wrap, IntKind.signed, IntKind.bits]; omega
  have HW := Lib.hid hwr
  clear hwr
  go_enter Tryd.func102, Tryd.ntmps102
  go_wp2_with fail
  rw [hzi]
  refine wp_region_grow (R := Grew) (S := fun W => Below w.heap.size w W) 9 (fun k => match k with
    | 0 => some ⟨fun (x : Ix) => .slice (some ⟨x.2.1, 0, none⟩) 1 1, fun (x : Ix) W => NewRow [128] W x.2.1, fun _ _ _ hr _ h => h.keep hr⟩
    | 2 => some ⟨fun (x : Ix) => .slice (some ⟨x.2.1, 0, none⟩) z z, fun (x : Ix) W => NewRow (List.replicate z 0) W x.2.1, fun _ _ _ hr _ h => h.keep hr⟩
    | 6 => some ⟨fun (x : Ix) => .slice (some ⟨x.2.1, 0, none⟩) 8 8, fun (x : Ix) W => NewRow (highB (n * 8) 8) W x.2.1, fun _ _ _ hr _ h => h.keep hr⟩
    | 7 => some ⟨fun (x : Ix) => .slice (some ⟨x.2.1, 0, none⟩) 3 3, fun (x : Ix) W => ∃ b1 b2 b3, Arr W x.2.1 57 #[.slice (some ⟨b1, 0, none⟩) 1 1, .slice (some ⟨b2, 0, none⟩) z z, .slice (some ⟨b3, 0, none⟩) 8 8] ∧ NewRow [128] W b1 ∧ NewRow (List.replicate z 0) W b2 ∧ NewRow (highB (n * 8) 8) W b3, fun _ _ _ hr _ ⟨b1, b2, b3, h0, h1, h2, h3⟩ => ⟨b1, b2, b3, h0.below hr, h1.keep hr, h2.keep hr, h3.keep hr⟩⟩
    | 8 => some ⟨fun (x : Ix) => .slice x.1 T x.2.2, fun (x : Ix) W => QRow W w.heap.size 5 1 (.slice x.1 T x.2.2) T ((padB n).map byt) ∧ T ≤ x.2.2, fun _ _ _ hr _ h => ⟨h.1.grew hr, h.2⟩⟩
    | _ => none) ⟨(none, 0, 0)⟩ (none, 0, 0) (by kernel_rfl) (by kernel_rfl) (grew_stays w) (Below.refl _ _).drew ?_
  simp only [List.take_succ_cons, List.take_zero, List.drop_succ_cons, List.drop_zero]
  refine wpGrow_told rfl rfl (fun W hS hD => ?_) (fun x0 K hK => ?_)
  · simp [KnowsAll, Knows, Region.binds, upd] at hD
    go_simp
    exact ⟨(Below.refl _ _).alloc (Nat.le_refl _) _, Arr.new W 5 _⟩
  go_simp
  refine hK _ ?_
  clear hK K
  refine wpGrow_pure rfl rfl fun K hK => ?_
  apply Exists.intro
  constructor
  · intro W hS
    go_simp
    try with_reducible rfl
  go_simp
  refine hK _ ?_
  clear hK K
  refine wpGrow_told rfl rfl (fun W hS hD => ?_) (fun x2 K hK => ?_)
  · simp [KnowsAll, Knows, Region.binds, upd] at hD
    have hm := HM.out W
    go_simp
    refine ⟨(Below.refl _ _).alloc (Nat.le_refl _) _, ?_⟩
    have := Arr.new W 5 (madeCells #[Value.int .u8 0] z)
    rw [made_eq _ _ (fun _ => byt 0), fillA_zero] at this ⊢
    have e : (List.map byt (List.replicate z 0)).toArray = Array.replicate z (Value.int .u8 0) := by simp [byt]
    unfold NewRow
    rw [e]
    exact this
  go_simp
  refine hK _ ?_
  clear hK K
  refine wpGrow_pure rfl rfl fun K hK => ?_
  apply Exists.intro
  constructor
  · intro W hS
    go_simp
    try with_reducible rfl
  go_simp
  refine hK _ ?_
  clear hK K
  refine wpGrow_pure rfl rfl fun K hK => ?_
  apply Exists.intro
  constructor
  · intro W hS
    go_simp
    try with_reducible rfl
  go_simp
  refine hK _ ?_
  clear hK K
  refine wpGrow_pure rfl rfl fun K hK => ?_
  apply Exists.intro
  constructor
  · intro W hS
    go_simp
    try with_reducible rfl
  go_simp
  refine hK _ ?_
  clear hK K
  refine wpGrow_told rfl rfl (fun W hS hD => ?_) (fun x6 K hK => ?_)
  · simp [KnowsAll, Knows, Region.binds, upd] at hD
    go_simp
    rw [HW.out]
    refine ⟨Below.refl _ _, (High_any W (n * 8) 8 (by decide) (by decide)).mono ?_⟩
    rintro e w' ⟨b, rfl, _, ha, hw⟩
    exact ⟨_, rfl, hw, b, rfl, ha⟩
  go_simp
  refine hK _ ?_
  clear hK K
  refine wpGrow_told rfl rfl (fun W hS hD => ?_) (fun x7 K hK => ?_)
  · simp [KnowsAll, Knows, Region.binds, upd] at hD
    go_simp
    have hg : Grew W (W.alloc (.cells #[.slice (some ⟨x0.2.1, 0, none⟩) 1 1, .slice (some ⟨x2.2.1, 0, none⟩) z z, .slice (some ⟨x6.2.1, 0, none⟩) 8 8] 57)) := (Below.refl _ _).alloc (Nat.le_refl _) _
    exact ⟨hg, _, _, _, Arr.new W 57 _, hD.1.keep hg, hD.2.1.keep hg, hD.2.2.keep hg⟩
  go_simp
  refine hK _ ?_
  clear hK K
  refine wpGrow_told rfl rfl (fun W hS hD => ?_) (fun x8 K hK => ?_)
  · simp [KnowsAll, Knows, Region.binds, upd] at hD
    go_simp
    obtain ⟨⟨b1, b2, b3, h0, h1, h2, h3⟩, _⟩ := hD
    have hr := h0.rdv (n := 3) rfl
    refine ⟨Below.refl _ _, (Concat_any W W.heap.size _ 3 3 _ _ (Nat.le_refl _) hr (rows3 h1 h2 h3 rfl (by simp) (highB_len _ _) (Nat.le_refl _) (Nat.le_refl _) (Nat.le_refl _) rfl) T (by rw [← HT.out, padB, HZ.out]) (by omega) (by decide)).mono ?_⟩
    rintro e w' ⟨A, cap, rfl, hq, hle, hb⟩
    rw [show [[128], List.replicate z 0, highB (n * 8) 8].flatten = padB n from by rw [padB, HZ.out]] at hq
    exact ⟨_, rfl, hb, A, cap, rfl, hq.base hS.size, hle⟩
  go_simp
  refine hK _ ?_
  clear hK K
  refine wpGrow_nil fun W hS hD => ?_
  have hD8 := hD 8 (by decide)
  simp [Knows, upd] at hD8
  clear hD
  go_wp2
  go_ret
  exact ⟨_, _, rfl, hD8.1, hD8.2, hS⟩
end Go.Proofs.YtejifhdkgfilgaaDoor
