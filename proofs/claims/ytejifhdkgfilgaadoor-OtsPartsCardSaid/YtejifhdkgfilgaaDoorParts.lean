/- law08's parts: a chain's way in two is the way in one, and counts as much. -/
import Derived.Test.YtejifhdkgfilgaaDoorAwake
import Derived.Test.YtejifhdkgfilgaaDoorGrow2
namespace Go.Proofs.YtejifhdkgfilgaaDoor
open Go.RowKit
theorem cntN_add (c : Int) (a b : Nat) : cntN (cntN c a) b = cntN c (a + b) := by
  induction b with
  | zero => rfl
  | succ b ih => rw [cntN, ih]; rfl
theorem cntN_small (n : Nat) (h : n ≤ 1000) : cntN 0 n = n := by
  induction n with
  | zero => rfl
  | succ n ih =>
    rw [cntN, ih (by omega)]
    have : IntKind.i64.wrap ((n : Int) + 1) = (n : Int) + 1 := by simp [IntKind.wrap, IntKind.min, IntKind.max, IntKind.bits, IntKind.signed]; omega
    rw [this]; omega
theorem parts_key (tag : List Nat) (chain fr mid to : Int) (v : List Nat) (h1 : fr ≤ mid) (h2 : mid ≤ to) :
    along tag chain mid (along tag chain fr v (mid - fr).toNat) (to - mid).toNat = along tag chain fr v (to - fr).toNat := by
  have := along_add tag chain fr v (mid - fr).toNat (to - mid).toNat
  rw [show fr + ((mid - fr).toNat : Int) = mid from by omega] at this
  rw [this, show (mid - fr).toNat + (to - mid).toNat = (to - fr).toNat from by omega]
attribute [-go_sem] loadCellsFrom storeCells
attribute [local go_sem] storeCells_one growAt growUpon
set_option maxRecDepth 100000 in
set_option maxHeartbeats 2000000 in
theorem Parts_bad (w : World) (hg : Shas w) (tag v : List Nat) (chain fr mid to : Int) (hbad : fr < 0 ∨ mid < fr ∨ to < mid ∨ 40 < to) :
    Calls Tryd.prog 7 #[.agg (keyA tag), .int .i64 chain, .int .i64 fr, .int .i64 mid, .int .i64 to, .agg (keyA v)] w fun e w' => e = .returned (.bool true) ∧ Grew w w' := by
  have H := Lib.hid hg
  clear hg
  go_enter Tryd.func7, Tryd.ntmps7
  go_wp2_with fail
  have g0 : Grew w ((w.alloc (.cells (keyA tag) 23)).alloc (.cells (keyA v) 23)) := (grew_alloc w _).trans ((grew_alloc _ _).mono (grew_alloc w _).size)
  generalize (w.alloc (.cells (keyA tag) 23)).alloc (.cells (keyA v) 23) = W0 at *
  refine (Awake_any W0 (H.out.below g0)).mono ?_
  rintro e W1 ⟨rfl, g1⟩
  have HG := Lib.hid (g0.trans (g1.mono g0.size))
  clear g0 g1
  by_cases h1 : fr < 0
  · have d1 : decide (fr < 0) = true := decide_eq_true h1
    go_wp2
    go_ret
    exact ⟨rfl, HG.out⟩
  · have d1 : decide (fr < 0) = false := decide_eq_false h1
    by_cases h2 : mid < fr
    · have d2 : decide (mid < fr) = true := decide_eq_true h2
      go_wp2
      go_ret
      exact ⟨rfl, HG.out⟩
    · have d2 : decide (mid < fr) = false := decide_eq_false h2
      by_cases h3 : to < mid
      · have d3 : decide (to < mid) = true := decide_eq_true h3
        go_wp2
        go_ret
        exact ⟨rfl, HG.out⟩
      · have d3 : decide (to < mid) = false := decide_eq_false h3
        have h4 : 40 < to := by omega
        have d4 : decide (40 < to) = true := decide_eq_true h4
        go_wp2
        go_ret
        exact ⟨rfl, HG.out⟩
def PartS (w W4 : World) (m p15 : Nat) (tag v X : List Nat) (W : World) : Prop :=
  Arr W w.heap.size 23 (keyA tag) ∧ Arr W (w.heap.size + 1) 23 (keyA v) ∧ Arr W p15 23 (keyA X) ∧ Shas W ∧ GrM m W4 W
/-- what has been counted, by what has been done -/
def PartT (m : Nat) (c : Int) (a b : Nat) (L : Nat → Bool) (W : World) : Prop := Arr W m 90 (meterA (cntN c ((if L 11 then a else 0) + (if L 12 then b else 0))))
theorem PartT_start {W : World} {m : Nat} {c : Int} {a b : Nat} (h : Arr W m 90 (meterA c)) : PartT m c a b (fun _ => false) W.drew := h
theorem PartT_idle {R : World → World → Prop} {S : World → Prop} {sp : Told Ix R S} {m : Nat} {c : Int} {a b : Nat} (h11 : (sp 11).isSome = true) (h12 : (sp 12).isSome = true) : Cnt.Idle sp (PartT m c a b) := by
  intro i L w h0 hT
  have e11 : (11 : Nat) ≠ i := fun e => by rw [e, h0] at h11; cases h11
  have e12 : (12 : Nat) ≠ i := fun e => by rw [e, h0] at h12; cases h12
  unfold PartT at *
  simpa [Cnt.setL, e11, e12] using hT
theorem PartT_11 {W : World} {m : Nat} {c : Int} {a b : Nat} {L : Nat → Bool} (hL : L 11 = false) (h : Arr W m 90 (meterA (cntN (cntN c ((if L 11 then a else 0) + (if L 12 then b else 0))) a))) : PartT m c a b (Cnt.setL L 11) W := by
  rw [cntN_add, hL] at h
  unfold PartT
  rw [show (if Cnt.setL L 11 11 then a else 0) + (if Cnt.setL L 11 12 then b else 0) = (if false = true then a else 0) + (if L 12 = true then b else 0) + a from by simp [Cnt.setL]; omega]
  exact h
theorem PartT_12 {W : World} {m : Nat} {c : Int} {a b : Nat} {L : Nat → Bool} (hL : L 12 = false) (h : Arr W m 90 (meterA (cntN (cntN c ((if L 11 then a else 0) + (if L 12 then b else 0))) b))) : PartT m c a b (Cnt.setL L 12) W := by
  rw [cntN_add, hL] at h
  unfold PartT
  rw [show (if Cnt.setL L 12 11 then a else 0) + (if Cnt.setL L 12 12 then b else 0) = (if L 11 = true then a else 0) + (if false = true then b else 0) + b from by simp [Cnt.setL]]
  exact h
theorem PartT_13 {W W' : World} {m : Nat} {c : Int} {a b : Nat} {L : Nat → Bool} (h : PartT m c a b L W) (hg : Grew W W') : PartT m c a b (Cnt.setL L 13) W' := by
  unfold PartT at *
  simpa [Cnt.setL] using h.below hg
theorem PartT_done {W : World} {m : Nat} {c : Int} {a b : Nat} {L : Nat → Bool} (h : PartT m c a b L W) (h1 : L 11 = true) (h2 : L 12 = true) : Arr W m 90 (meterA (cntN c (a + b))) := by
  unfold PartT at h
  rwa [h1, h2] at h
set_option maxRecDepth 100000 in
set_option maxHeartbeats 2000000 in
theorem Parts_good (w : World) (hg : Shas w) (tag v : List Nat) (ht : tag.length = 32) (hv : v.length = 32) (htb : ∀ b ∈ tag, b < 256) (hvb : ∀ b ∈ v, b < 256) (chain fr mid to : Int) (h1 : 0 ≤ fr) (h2 : fr ≤ mid) (h3 : mid ≤ to) (h4 : to ≤ 40) :
    Calls Tryd.prog 7 #[.agg (keyA tag), .int .i64 chain, .int .i64 fr, .int .i64 mid, .int .i64 to, .agg (keyA v)] w fun e w' => e = .returned (.bool true) ∧ Grew w w' := by
  have H := Lib.hid (And.intro hg (And.intro ht (And.intro hv (And.intro htb hvb))))
  have d1 : decide (fr < 0) = false := decide_eq_false (by omega)
  have d2 : decide (mid < fr) = false := decide_eq_false (by omega)
  have d3 : decide (to < mid) = false := decide_eq_false (by omega)
  have d4 : decide (40 < to) = false := decide_eq_false (by omega)
  clear hg ht hv htb hvb
  go_enter Tryd.func7, Tryd.ntmps7
  go_wp2_with fail
  obtain ⟨W0, hW0⟩ : ∃ W0, W0 = (w.alloc (.cells (keyA tag) 23)).alloc (.cells (keyA v) 23) := ⟨_, rfl⟩
  have g0 : Grew w W0 := by rw [hW0]; exact (grew_alloc w _).trans ((grew_alloc _ _).mono (grew_alloc w _).size)
  have a0 : Arr W0 w.heap.size 23 (keyA tag) := by rw [hW0]; exact (Arr.new w 23 _).alloc _
  have b0 : Arr W0 (w.heap.size + 1) 23 (keyA v) := by rw [hW0]; exact Arr.new_at _ 23 _ (by simp)
  rw [← hW0]
  clear hW0
  refine (Awake_any W0 (H.out.1.below g0)).mono ?_
  rintro e W1 ⟨rfl, g1⟩
  have gw1 : Grew w W1 := g0.trans (g1.mono g0.size)
  have H1 := Lib.hid (And.intro gw1 (And.intro (a0.below g1) (And.intro (b0.below g1) (H.out.1.below gw1))))
  clear g0 a0 b0 g1 gw1
  go_wp2_with fail
  refine (New_any W1).mono ?_
  rintro e W2 ⟨rfl, hW2⟩
  have g2 : Grew W1 W2 := by rw [hW2]; exact grew_alloc W1 _
  have m2 : Arr W2 W1.heap.size 90 (meterA 0) := by rw [hW2]; exact Arr.new W1 90 _
  obtain ⟨m, hm⟩ : ∃ m, m = W1.heap.size := ⟨_, rfl⟩
  rw [← hm] at m2 ⊢
  have wm : w.heap.size ≤ m := by rw [hm]; exact H1.out.1.size
  have gw2 : Grew w W2 := H1.out.1.trans (g2.mono H1.out.1.size)
  have H2 := Lib.hid (And.intro gw2 (And.intro wm (And.intro m2 (And.intro (H1.out.2.1.below g2) (And.intro (H1.out.2.2.1.below g2) (H1.out.2.2.2.below g2))))))
  clear hm hW2 g2 m2 wm gw2 H1
  have hl1 := H2.out.2.2.2.1.load (P := Tryd.prog) (n := 32) (by rw [keyA_size, H.out.2.1])
  have hl2 := H2.out.2.2.2.2.1.load (P := Tryd.prog) (n := 32) (by rw [keyA_size, H.out.2.2.1])
  go_wp2_with fail
  clear hl1 hl2
  refine (Along_exact W2 m 0 H2.out.2.2.2.2.2 H2.out.2.2.1 tag v H.out.2.1 H.out.2.2.2.1 H.out.2.2.1 H.out.2.2.2.2 chain fr to (by omega) (by omega) (by omega) (by omega)).mono ?_
  obtain ⟨k1, hk1⟩ : ∃ k1, k1 = (to - fr).toNat := ⟨_, rfl⟩
  obtain ⟨X, hX⟩ : ∃ X, X = along tag chain fr v k1 := ⟨_, rfl⟩
  rw [← hk1, ← hX]
  have hXl : X.length = 32 := by rw [hX]; exact along_len H.out.2.2.1 _
  have hXs : (keyA X).size = 32 := by rw [keyA_size, hXl]
  rintro e W3 ⟨rfl, b3, m3⟩
  have g23 : GrM m W2 W3 := ⟨b3, _, m3⟩
  have c2 : Met W2 m := ⟨_, H2.out.2.2.1⟩
  have H3 := Lib.hid (And.intro b3 (And.intro m3 (And.intro (H2.out.2.2.2.1.gr c2 g23 (by decide)) (And.intro (H2.out.2.2.2.2.1.gr c2 g23 (by decide)) (H2.out.2.2.2.2.2.gr c2 g23)))))
  obtain ⟨Z, hZ⟩ : ∃ Z, Z = keyA (List.replicate 32 0) := ⟨_, rfl⟩
  have hst := store_new (P := Tryd.prog) W3 23 Z (keyA X) (by rw [hXs, hZ]; rfl) (keyA_one _)
  have HX := Lib.hid (And.intro hk1 (And.intro hX (And.intro hXl hZ)))
  clear hk1 hX hXl hZ b3 m3 g23 c2
  go_wp2_with fail
  rw [zeros32, ← HX.out.2.2.2]
  go_simp
  go_wp2_with fail
  clear hst
  obtain ⟨W4, hW4⟩ : ∃ W4, W4 = W3.alloc (.cells (keyA X) 23) := ⟨_, rfl⟩
  have g4 : Grew W3 W4 := by rw [hW4]; exact grew_alloc W3 _
  have a4 : Arr W4 W3.heap.size 23 (keyA X) := by rw [hW4]; exact Arr.new W3 23 _
  obtain ⟨p15, hp15⟩ : ∃ p15, p15 = W3.heap.size := ⟨_, rfl⟩
  rw [← hW4]
  rw [← hp15] at a4 ⊢
  have H4 := Lib.hid (And.intro (H3.out.1.trans (Bel.of g4)) (And.intro (H3.out.2.1.below g4) (And.intro (H3.out.2.2.1.below g4) (And.intro (H3.out.2.2.2.1.below g4) (And.intro (H3.out.2.2.2.2.below g4) a4)))))
  clear g4 a4 hW4 hp15 H3
  obtain ⟨a, ha⟩ : ∃ a, a = (mid - fr).toNat := ⟨_, rfl⟩
  obtain ⟨b, hb⟩ : ∃ b, b = (to - mid).toNat := ⟨_, rfl⟩
  obtain ⟨c, hc⟩ : ∃ c, c = cntN 0 k1 := ⟨_, rfl⟩
  obtain ⟨Y, hY⟩ : ∃ Y, Y = along tag chain fr v a := ⟨_, rfl⟩
  have hYl : Y.length = 32 := by rw [hY]; exact along_len H.out.2.2.1 _
  have hYb : ∀ x ∈ Y, x < 256 := by rw [hY]; exact along_lt H.out.2.2.2.2 _
  have hXY : along tag chain mid Y b = X := by rw [hY, ha, hb, HX.out.2.1, HX.out.1]; exact parts_key tag chain fr mid to v h2 h3
  rw [← hc] at H4
  have HC := Lib.hid (And.intro ha (And.intro hb (And.intro hc (And.intro hY (And.intro hYl (And.intro hYb hXY))))))
  clear ha hb hc hY hYl hYb hXY
  have met4 : Met W4 m := ⟨_, H4.out.2.1⟩
  refine Cnt.wp_region_grow2 (R := GrM m) (S := PartS w W4 m p15 tag v X) (T := PartT m c a b) 14 (fun opk => match opk with
    | 11 => some ⟨fun (x : Ix) => .agg (keyA Y), fun (x : Ix) W => True, fun _ _ _ _ _ _ => trivial⟩
    | 12 => some ⟨fun (x : Ix) => .agg (keyA X), fun (x : Ix) W => True, fun _ _ _ _ _ _ => trivial⟩
    | 13 => some ⟨fun (x : Ix) => .pointer (some ⟨x.2.1, 0, none⟩), fun (x : Ix) W => Arr W x.2.1 23 Z ∧ W4.heap.size ≤ x.2.1, fun _ _ _ hr hS h => ⟨h.1.gr hS.2.2.2.2.cnt hr (by decide), h.2⟩⟩
    | _ => none) ⟨(none, 0, 0)⟩ (none, 0, 0) (by kernel_rfl) (by kernel_rfl) (fun _ _ hr hS => ⟨hS.1.gr hS.2.2.2.2.cnt hr (by decide), hS.2.1.gr hS.2.2.2.2.cnt hr (by decide), hS.2.2.1.gr hS.2.2.2.2.cnt hr (by decide), hS.2.2.2.1.gr hS.2.2.2.2.cnt hr, hS.2.2.2.2.trans hr⟩) ⟨H4.out.2.2.1, H4.out.2.2.2.1, H4.out.2.2.2.2.2, ⟨H4.out.2.2.2.2.1.start, H4.out.2.2.2.2.1.tab⟩, (Gr.refl met4).drew⟩ (PartT_idle rfl rfl) (PartT_start H4.out.2.1) ?_
  simp only [List.take_succ_cons, List.take_zero, List.drop_succ_cons, List.drop_zero]
  refine Cnt.wpGrow_pure rfl rfl fun opK hopK => ?_
  apply Exists.intro
  constructor
  · intro W hS
    go_simp
    try with_reducible rfl
  go_simp
  refine hopK _ ?_
  clear hopK opK
  refine Cnt.wpGrow_pure rfl rfl fun opK hopK => ?_
  apply Exists.intro
  constructor
  · intro W hS
    have hl := hS.1.load (P := Tryd.prog) (n := 32) (by rw [keyA_size, H.out.2.1])
    go_simp
    try with_reducible rfl
  go_simp
  refine hopK _ ?_
  clear hopK opK
  refine Cnt.wpGrow_pure rfl rfl fun opK hopK => ?_
  apply Exists.intro
  constructor
  · intro W hS
    go_simp
    try with_reducible rfl
  go_simp
  refine hopK _ ?_
  clear hopK opK
  refine Cnt.wpGrow_pure rfl rfl fun opK hopK => ?_
  apply Exists.intro
  constructor
  · intro W hS
    go_simp
    try with_reducible rfl
  go_simp
  refine hopK _ ?_
  clear hopK opK
  refine Cnt.wpGrow_pure rfl rfl fun opK hopK => ?_
  apply Exists.intro
  constructor
  · intro W hS
    go_simp
    try with_reducible rfl
  go_simp
  refine hopK _ ?_
  clear hopK opK
  refine Cnt.wpGrow_pure rfl rfl fun opK hopK => ?_
  apply Exists.intro
  constructor
  · intro W hS
    go_simp
    try with_reducible rfl
  go_simp
  refine hopK _ ?_
  clear hopK opK
  refine Cnt.wpGrow_pure rfl rfl fun opK hopK => ?_
  apply Exists.intro
  constructor
  · intro W hS
    have hl := hS.1.load (P := Tryd.prog) (n := 32) (by rw [keyA_size, H.out.2.1])
    go_simp
    try with_reducible rfl
  go_simp
  refine hopK _ ?_
  clear hopK opK
  refine Cnt.wpGrow_pure rfl rfl fun opK hopK => ?_
  apply Exists.intro
  constructor
  · intro W hS
    go_simp
    try with_reducible rfl
  go_simp
  refine hopK _ ?_
  clear hopK opK
  refine Cnt.wpGrow_pure rfl rfl fun opK hopK => ?_
  apply Exists.intro
  constructor
  · intro W hS
    go_simp
    try with_reducible rfl
  go_simp
  refine hopK _ ?_
  clear hopK opK
  refine Cnt.wpGrow_pure rfl rfl fun opK hopK => ?_
  apply Exists.intro
  constructor
  · intro W hS
    go_simp
    try with_reducible rfl
  go_simp
  refine hopK _ ?_
  clear hopK opK
  refine Cnt.wpGrow_pure rfl rfl fun opK hopK => ?_
  apply Exists.intro
  constructor
  · intro W hS
    have hl := hS.2.1.load (P := Tryd.prog) (n := 32) (by rw [keyA_size, H.out.2.2.1])
    go_simp
    try with_reducible rfl
  go_simp
  refine hopK _ ?_
  clear hopK opK
  refine Cnt.wpGrow_told rfl rfl (fun L W hS hT hL hD => ?_) (fun x11 opK hopK => ?_)
  · simp [KnowsAll, Knows, Region.binds, upd] at hD
    go_simp
    refine ⟨Gr.refl hS.2.2.2.2.cnt, (Along_exact W m _ hS.2.2.2.1 hT tag v H.out.2.1 H.out.2.2.2.1 H.out.2.2.1 H.out.2.2.2.2 chain fr mid (by omega) (by omega) (by omega) (by omega)).mono ?_⟩
    rintro e w' ⟨rfl, hw1, hw2⟩
    rw [← HC.out.1] at hw2
    exact ⟨_, rfl, ⟨hw1, _, hw2⟩, by rw [HC.out.2.2.2.1, HC.out.1], PartT_11 hL hw2⟩
  go_simp
  refine hopK _ ?_
  clear hopK opK
  refine Cnt.wpGrow_told rfl rfl (fun L W hS hT hL hD => ?_) (fun x12 opK hopK => ?_)
  · simp [KnowsAll, Knows, Region.binds, upd] at hD
    go_simp
    refine ⟨Gr.refl hS.2.2.2.2.cnt, (Along_exact W m _ hS.2.2.2.1 hT tag Y H.out.2.1 H.out.2.2.2.1 HC.out.2.2.2.2.1 HC.out.2.2.2.2.2.1 chain mid to (by omega) (by omega) (by omega) (by omega)).mono ?_⟩
    rintro e w' ⟨rfl, hw1, hw2⟩
    rw [← HC.out.2.1] at hw2 ⊢
    exact ⟨_, rfl, ⟨hw1, _, hw2⟩, by rw [HC.out.2.2.2.2.2.2], PartT_12 hL hw2⟩
  go_simp
  refine hopK _ ?_
  clear hopK opK
  refine Cnt.wpGrow_told rfl rfl (fun L W hS hT hL hD => ?_) (fun x13 opK hopK => ?_)
  · simp [KnowsAll, Knows, Region.binds, upd] at hD
    go_simp
    rw [zeros32, ← HX.out.2.2.2]
    exact ⟨Gr.of hS.2.2.2.2.cnt (grew_alloc W _), ⟨Arr.new W 23 _, hS.2.2.2.2.bel.size⟩, PartT_13 hT (grew_alloc W _)⟩
  go_simp
  refine hopK _ ?_
  clear hopK opK
  refine Cnt.wpGrow_nil fun L W hS hT hL hD => ?_
  have hD13 := hD 13 (by decide)
  simp [Knows, upd] at hD13
  clear hD
  have hct := PartT_done hT (hL 11 (by decide)) (hL 12 (by decide))
  obtain ⟨hz, hp⟩ := hD13
  obtain ⟨p16, hp16⟩ : ∃ p16, p16 = x13.2.1 := ⟨_, rfl⟩
  rw [← hp16] at hz hp ⊢
  have hXs : (keyA X).size = 32 := by rw [keyA_size, HX.out.2.2.1]
  have hst := hz.store (P := Tryd.prog) (V := keyA X) (by rw [hXs, HX.out.2.2.2]; rfl) (keyA_one _)
  obtain ⟨W5, hW5⟩ : ∃ W5, W5 = W.setRow p16 (keyA X) := ⟨_, rfl⟩
  have l1 := H4.out.2.2.1.lt
  have l2 := H4.out.2.2.2.1.lt
  have l3 := H4.out.2.2.2.2.2.lt
  have l4 := met4.lt
  have l5 := H4.out.2.2.2.2.1.start.lt
  have l6 := H4.out.2.2.2.2.1.tab.lt
  have t5 : Arr W5 w.heap.size 23 (keyA tag) := by rw [hW5]; exact hS.1.setRowOther (by omega) _
  have v5 : Arr W5 (w.heap.size + 1) 23 (keyA v) := by rw [hW5]; exact hS.2.1.setRowOther (by omega) _
  have x5 : Arr W5 p15 23 (keyA X) := by rw [hW5]; exact hS.2.2.1.setRowOther (by omega) _
  have s5 : Shas W5 := by rw [hW5]; exact ⟨hS.2.2.2.1.start.setRowOther (by omega) _, hS.2.2.2.1.tab.setRowOther (by omega) _⟩
  have m5 : Arr W5 m 90 (meterA (cntN c (a + b))) := by rw [hW5]; exact hct.setRowOther (by omega) _
  have g5 : GrM m W4 W5 := by rw [hW5]; exact gr_setRow hS.2.2.2.2 hp l4 _
  have z5 : Arr W5 p16 23 (keyA X) := by rw [hW5]; exact hz.setRow _
  rw [← hW5] at hst
  have H5 := Lib.hid (And.intro t5 (And.intro v5 (And.intro x5 (And.intro s5 (And.intro m5 (And.intro g5 z5))))))
  have hl1 := t5.load (P := Tryd.prog) (n := 32) (by rw [keyA_size, H.out.2.1])
  have hl2 := v5.load (P := Tryd.prog) (n := 32) (by rw [keyA_size, H.out.2.2.1])
  clear hct hz hp hp16 hXs hW5 l1 l2 l3 l4 l5 l6 t5 v5 x5 s5 m5 g5 z5 hS hT hL
  go_wp2_with fail
  clear hst hl1 hl2
  refine (Along_exact W5 m _ H5.out.2.2.2.1 H5.out.2.2.2.2.1 tag v H.out.2.1 H.out.2.2.2.1 H.out.2.2.1 H.out.2.2.2.2 chain to fr (by omega) (by omega) (by omega) (by omega)).mono ?_
  rw [show (fr - to).toNat = 0 from by omega]
  rintro e W6 ⟨rfl, b6, m6⟩
  rw [show along tag chain to v 0 = v from rfl]
  have hvs : (keyA v).size = 32 := by rw [keyA_size, H.out.2.2.1]
  have hst := store_new (P := Tryd.prog) W6 23 Z (keyA v) (by rw [hvs, HX.out.2.2.2]; rfl) (keyA_one _)
  have H6 := Lib.hid (And.intro b6 m6)
  clear b6 m6
  go_wp2_with fail
  rw [zeros32, ← HX.out.2.2.2]
  go_simp
  go_wp2_with fail
  clear hst
  obtain ⟨W7, hW7⟩ : ∃ W7, W7 = W6.alloc (.cells (keyA v) 23) := ⟨_, rfl⟩
  have g7 : Grew W6 W7 := by rw [hW7]; exact grew_alloc W6 _
  have a7 : Arr W7 W6.heap.size 23 (keyA v) := by rw [hW7]; exact Arr.new W6 23 _
  rw [← hW7]
  obtain ⟨p17, hp17⟩ : ∃ p17, p17 = W6.heap.size := ⟨_, rfl⟩
  rw [← hp17] at a7 ⊢
  have c5 : Met W5 m := ⟨_, H5.out.2.2.2.2.1⟩
  have g57 : GrM m W5 W7 := ⟨H6.out.1.trans (Bel.of g7), _, H6.out.2.below g7⟩
  have x7 := H5.out.2.2.1.gr c5 g57 (by decide)
  have v7 := H5.out.2.1.gr c5 g57 (by decide)
  have z7 := H5.out.2.2.2.2.2.2.gr c5 g57 (by decide)
  have m7 := H6.out.2.below g7
  rw [show cntN (cntN c (a + b)) 0 = cntN c (a + b) from rfl] at m7
  have b47 : Bel m W2 W7 := (H4.out.1.trans H5.out.2.2.2.2.2.1.bel).trans g57.bel
  have gw : Grew w W7 := by
    have h2 := H2.out.1
    refine ⟨b47.os.trans h2.os, b47.tape.trans h2.tape, b47.output.trans h2.output, Nat.le_trans h2.size b47.size, fun k hk => ?_⟩
    rw [b47.block k (Nat.lt_of_lt_of_le hk h2.size) (by have := H2.out.2.1; omega), h2.block k hk]
  have hcount : cntN c (a + b) = 2 * (to - fr) := by
    rw [HC.out.2.2.1, cntN_add, cntN_small _ (by have := HC.out.1; have := HC.out.2.1; have := HX.out.1; omega)]
    have := HC.out.1; have := HC.out.2.1; have := HX.out.1
    omega
  rw [hcount] at m7
  have H7 := Lib.hid (And.intro x7 (And.intro v7 (And.intro z7 (And.intro a7 gw))))
  clear g7 a7 c5 g57 x7 v7 z7 b47 gw hcount hW7 hp17
  refine (Count_any W7 m _ m7).mono ?_
  rintro e W8 ⟨rfl, rfl⟩
  clear m7
  obtain ⟨D, hD⟩ : ∃ D, D = to - fr := ⟨_, rfl⟩
  have hD0 : 0 ≤ D := by omega
  have hD1 : D ≤ 40 := by omega
  have hw1 : IntKind.i64.wrap (to - fr) = D := by
    rw [hD]
    simp [IntKind.wrap, IntKind.min, IntKind.max, IntKind.bits, IntKind.signed]; omega
  have hw2 : IntKind.i64.wrap (2 * D) = 2 * D := by
    simp [IntKind.wrap, IntKind.min, IntKind.max, IntKind.bits, IntKind.signed]; omega
  rw [← hD]
  have hXs : (keyA X).size = 32 := by rw [keyA_size, HX.out.2.2.1]
  have hl15 := H7.out.1.load (P := Tryd.prog) (n := 32) hXs
  have hl16 := H7.out.2.2.1.load (P := Tryd.prog) (n := 32) hXs
  have hl17 := H7.out.2.2.2.1.load (P := Tryd.prog) (n := 32) hvs
  have hl11 := H7.out.2.1.load (P := Tryd.prog) (n := 32) hvs
  have he1 := run_equal_key W8 X X HX.out.2.2.1 HX.out.2.2.1
  have he2 := run_equal_key W8 v v H.out.2.2.1 H.out.2.2.1
  rw [decide_eq_true rfl] at he1 he2
  clear hD hD0 hD1 hXs hvs h1 h2 h3 h4
  generalize keyA X = XA at *
  generalize keyA v = vA at *
  go_wp2

  go_ret
  exact ⟨rfl, H7.out.2.2.2.2⟩
end Go.Proofs.YtejifhdkgfilgaaDoor
