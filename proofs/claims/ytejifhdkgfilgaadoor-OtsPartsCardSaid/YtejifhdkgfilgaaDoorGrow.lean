/- A region that draws its order: one walk in the order of the text serves every order, where each operation only adds to memory and what is known of memory stays known. -/
import Derived.Deep.Quiet
import Derived.StillTail
import Derived.Tactics
import Derived.Tactics2
import Derived.KernelRfl
namespace Go.Proofs.YtejifhdkgfilgaaDoor
open Go

section
variable {P : Program} {ops : Array Oper} {md : Region.Mode} {I : Type} {R : World → World → Prop} {S : World → Prop}
/-- what an operation hands back, in letters, and what is then known of memory -/
structure Tel (I : Type) (R : World → World → Prop) (S : World → Prop) where
  val : I → Value
  fact : I → World → Prop
  keep : ∀ x w w', R w w' → S w → fact x w → fact x w'
abbrev Told (I : Type) (R : World → World → Prop) (S : World → Prop) := Nat → Option (Tel I R S)
variable {sp : Told I R S}
def Knows (sp : Told I R S) (X : Nat → I) (j : Nat) (w : World) : Prop :=
  match sp j with
  | none => True
  | some vg => vg.fact (X j) w
def KnowsAll (md : Region.Mode) (sp : Told I R S) (X : Nat → I) (w : World) : List Edge → Prop
  | [] => True
  | e :: es => (Region.binds md e = true → Knows sp X e.on w) ∧ KnowsAll md sp X w es
def upd (X : Nat → I) (i : Nat) (x : I) : Nat → I := fun j => if j = i then x else X j
theorem upd_same {X : Nat → I} {i : Nat} {x : I} : upd X i x i = x := by simp [upd]
theorem upd_ne {X : Nat → I} {i j : Nat} {x : I} (h : j ≠ i) : upd X i x j = X j := by simp [upd, h]
theorem upd_comm {X : Nat → I} {i j : Nat} {x y : I} (h : i ≠ j) : upd (upd X i x) j y = upd (upd X j y) i x := by
  funext k
  unfold upd
  by_cases h1 : k = j <;> by_cases h2 : k = i <;> simp_all
theorem Knows.ne {X : Nat → I} {i j : Nat} {x : I} (h : j ≠ i) {w : World} : Knows sp (upd X i x) j w ↔ Knows sp X j w := by
  unfold Knows
  rw [upd_ne h]
theorem KnowsAll.ne {X : Nat → I} {i : Nat} {x : I} {w : World} (es : List Edge) (h : ∀ e ∈ es, Region.binds md e = true → e.on ≠ i) : KnowsAll md sp (upd X i x) w es ↔ KnowsAll md sp X w es := by
  induction es with
  | nil => exact Iff.rfl
  | cons e es ih =>
    unfold KnowsAll
    rw [ih fun e' he => h e' (List.mem_cons_of_mem _ he)]
    constructor
    · rintro ⟨h1, h2⟩; exact ⟨fun hb => (Knows.ne (h e (List.mem_cons_self ..) hb)).1 (h1 hb), h2⟩
    · rintro ⟨h1, h2⟩; exact ⟨fun hb => (Knows.ne (h e (List.mem_cons_self ..) hb)).2 (h1 hb), h2⟩
theorem KnowsAll.of {X : Nat → I} {w : World} (es : List Edge) (h : ∀ e ∈ es, Region.binds md e = true → Knows sp X e.on w) : KnowsAll md sp X w es := by
  induction es with
  | nil => exact trivial
  | cons e es ih => exact ⟨fun hb => h e (List.mem_cons_self ..) hb, ih fun e' he => h e' (List.mem_cons_of_mem _ he)⟩

/-- what an operation does -/
def growUpon (P : Program) (R : World → World → Prop) (w : World) (post : Value → World → Prop) : Result Next → Prop
  | .ok (.value u) w' => R w w' ∧ post u w'
  | .ok .skip w' => R w w' ∧ post undef w'
  | .ok (.enter f args) w' => R w w' ∧ Calls P f args w' (fun e w'' => ∃ v, e = .returned v ∧ R w w'' ∧ post v w'')
  | _ => False
def growAt (P : Program) (R : World → World → Prop) (o : Oper) (a : Act) (w : World) (post : Value → World → Prop) : Prop := growUpon P R w post ((execOp a.eval o).run P w)

/-- one operation: its value is known ahead, or told in letters -/
def growsTo (P : Program) (md : Region.Mode) (R : World → World → Prop) (S : World → Prop) (sp : Told I R S) (i : Nat) (o : Oper) (K : Act → (Nat → I) → Prop) (a : Act) (X : Nat → I) : Prop :=
  (sp i = none ∧ ∃ v, (∀ w, S w → (execOp a.eval o).run P w = .ok (.value v) w) ∧ K (a.put o.dst v) X) ∨
  (∃ vg, sp i = some vg ∧ (∀ w, S w → KnowsAll md sp X w o.after.toList → growAt P R o a w (fun u w' => ∃ x, u = vg.val x ∧ vg.fact x w')) ∧ ∀ x, K (a.put o.dst (vg.val x)) (upd X i x))
def gStep (P : Program) (md : Region.Mode) (ops : Array Oper) (R : World → World → Prop) (S : World → Prop) (sp : Told I R S) (i : Nat) (o : Oper) (K : Act → (Nat → I) → Prop) (a : Act) (X : Nat → I) : Prop :=
  if Region.wanted o (yielded ops a.tmps) then growsTo P md R S sp i o K a X else sp i = none ∧ K (a.put o.dst undef) X
/-- the walk in the order of the text -/
def wpGrow (P : Program) (md : Region.Mode) (ops : Array Oper) (R : World → World → Prop) (S : World → Prop) (sp : Told I R S) (Q : Act → (Nat → I) → Prop) : Nat → List Oper → Act → (Nat → I) → Prop
  | _, [], a, X => Q a X
  | k, o :: rest, a, X => gStep P md ops R S sp k o (wpGrow P md ops R S sp Q (k + 1) rest) a X
def gOp (P : Program) (md : Region.Mode) (ops : Array Oper) (R : World → World → Prop) (S : World → Prop) (sp : Told I R S) (i : Nat) (K : Act → (Nat → I) → Prop) (a : Act) (X : Nat → I) : Prop :=
  match ops[i]? with
  | none => K a X
  | some o => gStep P md ops R S sp i o K a X

theorem growsTo_mono {i : Nat} {o : Oper} {a : Act} {X : Nat → I} {K K' : Act → (Nat → I) → Prop} (h : ∀ a X, K a X → K' a X) (hh : growsTo P md R S sp i o K a X) : growsTo P md R S sp i o K' a X := by
  rcases hh with ⟨h0, v, h1, h2⟩ | ⟨vg, h0, h1, h2⟩
  · exact .inl ⟨h0, v, h1, h _ _ h2⟩
  · exact .inr ⟨vg, h0, h1, fun x => h _ _ (h2 x)⟩
theorem gStep_mono {i : Nat} {o : Oper} {a : Act} {X : Nat → I} {K K' : Act → (Nat → I) → Prop} (h : ∀ a X, K a X → K' a X) (hh : gStep P md ops R S sp i o K a X) : gStep P md ops R S sp i o K' a X := by
  unfold gStep at *
  split
  · rename_i hw; rw [if_pos hw] at hh; exact growsTo_mono h hh
  · rename_i hw; rw [if_neg hw] at hh; exact ⟨hh.1, h _ _ hh.2⟩
theorem gOp_mono {i : Nat} {a : Act} {X : Nat → I} {K K' : Act → (Nat → I) → Prop} (h : ∀ a X, K a X → K' a X) (hh : gOp P md ops R S sp i K a X) : gOp P md ops R S sp i K' a X := by
  unfold gOp at *
  split
  · rename_i ho; rw [ho] at hh; exact h _ _ hh
  · rename_i o ho; rw [ho] at hh; exact gStep_mono h hh

/-- whatever order is picked, as long as operations before the n-th are left -/
def wpAnyG (P : Program) (md : Region.Mode) (ops : Array Oper) (R : World → World → Prop) (S : World → Prop) (sp : Told I R S) (n : Nat) (L : Array Bool → Act → (Nat → I) → Prop) : Nat → Array Bool → Act → (Nat → I) → Prop
  | 0, listed, a, X => L listed a X
  | f + 1, listed, a, X => Region.ready md ops listed ≠ [] ∧ ∀ i ∈ Region.ready md ops listed, i < n ∧ gOp P md ops R S sp i (wpAnyG P md ops R S sp n L f (listed.setIfInBounds i true)) a X

/-- what the relation keeps -/
def Stays (R : World → World → Prop) (S : World → Prop) : Prop := ∀ w w', R w w' → S w → S w'
theorem knows_keep {X : Nat → I} {j : Nat} {w w' : World} (hr : R w w') (hS : S w) (h : Knows sp X j w) : Knows sp X j w' := by
  unfold Knows at *
  cases hj : sp j with
  | none => trivial
  | some vg => rw [hj] at h; exact vg.keep _ w w' hr hS h

def Inv (S : World → Prop) (sp : Told I R S) (listed : Array Bool) (X : Nat → I) (w : World) : Prop := S w ∧ ∀ j, listed.getD j false = true → Knows sp X j w

theorem wp_of_growAt {o : Oper} {a : Act} {w : World} {post : Value → World → Prop} {K' : Act → World → Prop} {Q' : Exit → Act → World → Prop}
    (h : growAt P R o a w post) (hK : ∀ u w', R w w' → post u w' → K' (a.put o.dst u) w') : o.wp P a w K' Q' := by
  unfold growAt at h
  unfold Oper.wp
  generalize (execOp a.eval o).run P w = r at *
  cases r with
  | ok n w' =>
    cases n <;> simp only [growUpon] at h <;> simp only [Oper.upon]
    case value u => exact hK _ _ h.1 h.2
    case skip => exact hK _ _ h.1 h.2
    case enter f args => exact h.2.mono fun e w'' ⟨v, he, hr, hp⟩ => by subst he; exact hK _ _ hr hp
  | halt x w' => simp only [growUpon] at h

theorem wpOp_of_gOp (hs : Stays R S) {i : Nat} {listed : Array Bool} {a : Act} {X : Nat → I} {w : World} {K : Act → (Nat → I) → Prop} {K' : Act → World → Prop} {Q' : Exit → Act → World → Prop}
    (hi : i ∈ Region.ready md ops listed) (hI : Inv S sp listed X w) (h : ∀ a X w', Inv S sp (listed.setIfInBounds i true) X w' → K a X → K' a w') (hh : gOp P md ops R S sp i K a X) : wpOp P ops Q' i K' a w := by
  obtain ⟨hun, oi, hoi, hall⟩ := mem_ready.1 hi
  unfold gOp at hh
  unfold wpOp
  rw [hoi] at hh ⊢
  dsimp only at hh ⊢
  have hD : KnowsAll md sp X w oi.after.toList := KnowsAll.of _ fun e he hb => hI.2 _ (hall e (by simpa using he) hb)
  have step : ∀ (X' : Nat → I) (w' : World), R w w' → (∀ j, j ≠ i → X' j = X j) → Knows sp X' i w' → Inv S sp (listed.setIfInBounds i true) X' w' := fun X' w' hr hX hk =>
    ⟨hs _ _ hr hI.1, fun j hj => by
      by_cases hji : j = i
      · subst hji; exact hk
      · rw [getD_set_ne false (Ne.symm hji)] at hj
        have := knows_keep hr hI.1 (hI.2 j hj)
        unfold Knows at *
        rw [hX j hji]; exact this⟩
  unfold gStep at hh
  split
  · rename_i hw
    rw [if_pos hw] at hh
    rcases hh with ⟨h0, v, h1, h2⟩ | ⟨vg, h0, h1, h2⟩
    · refine .inl ?_
      unfold Oper.wp
      rw [h1 w hI.1]
      refine h _ _ _ ⟨hI.1, fun j hj => ?_⟩ h2
      by_cases hji : j = i
      · subst hji; unfold Knows; rw [h0]; trivial
      · rw [getD_set_ne false (Ne.symm hji)] at hj; exact hI.2 j hj
    · refine .inl (wp_of_growAt (h1 w hI.1 hD) fun u w' hr hu => ?_)
      obtain ⟨x, rfl, hx⟩ := hu
      exact h _ _ _ (step (upd X i x) w' hr (fun j hj => upd_ne hj) (by unfold Knows; rw [h0]; dsimp only; rw [upd_same]; exact hx)) (h2 x)
  · rename_i hw
    rw [if_neg hw] at hh
    refine h _ _ _ ⟨hI.1, fun j hj => ?_⟩ hh.2
    by_cases hji : j = i
    · subst hji; unfold Knows; rw [hh.1]; trivial
    · rw [getD_set_ne false (Ne.symm hji)] at hj; exact hI.2 j hj

theorem wpAny_of_grow (hs : Stays R S) {n g : Nat} {L : Array Bool → Act → (Nat → I) → Prop} {Q' : Exit → Act → World → Prop}
    (hL : ∀ listed a X w, Inv S sp listed X w → L listed a X → wpAny P md ops Q' g listed a w) :
    ∀ (f : Nat) (listed : Array Bool) (a : Act) (X : Nat → I) (w : World), Inv S sp listed X w → wpAnyG P md ops R S sp n L f listed a X → wpAny P md ops Q' (f + g) listed a w
  | 0, listed, a, X, w, hI, h => by rw [Nat.zero_add]; exact hL _ _ _ _ hI h
  | f + 1, listed, a, X, w, hI, h => by
    rw [show f + 1 + g = (f + g) + 1 by omega]
    exact ⟨fun h0 => absurd h0 h.1, fun i hi => wpOp_of_gOp hs hi hI (fun a' X' w' hI' h' => wpAny_of_grow hs hL f _ a' X' w' hI' h') (h.2 i hi).2⟩

/-- what one operation yields, with what follows left out -/
def Grows (P : Program) (md : Region.Mode) (ops : Array Oper) (R : World → World → Prop) (S : World → Prop) (sp : Told I R S) (i : Nat) (o : Oper) (V : Option Value) (a : Act) (X : Nat → I) : Prop :=
  (Region.wanted o (yielded ops a.tmps) = true ∧ sp i = none ∧ ∃ v, V = some v ∧ ∀ w, S w → (execOp a.eval o).run P w = .ok (.value v) w) ∨
  (Region.wanted o (yielded ops a.tmps) = true ∧ ∃ vg, sp i = some vg ∧ V = none ∧ ∀ w, S w → KnowsAll md sp X w o.after.toList → growAt P R o a w (fun u w' => ∃ x, u = vg.val x ∧ vg.fact x w')) ∨
  (Region.wanted o (yielded ops a.tmps) = false ∧ sp i = none ∧ V = some undef)
/-- what follows it -/
def Then (sp : Told I R S) (i : Nat) (o : Oper) (V : Option Value) (K : Act → (Nat → I) → Prop) (a : Act) (X : Nat → I) : Prop :=
  match V with
  | some v => K (a.put o.dst v) X
  | none => ∀ vg, sp i = some vg → ∀ x, K (a.put o.dst (vg.val x)) (upd X i x)
theorem grows_of_gStep {i : Nat} {o : Oper} {a : Act} {X : Nat → I} {K : Act → (Nat → I) → Prop} (h : gStep P md ops R S sp i o K a X) : ∃ V, Grows P md ops R S sp i o V a X ∧ Then sp i o V K a X := by
  unfold gStep at h
  by_cases hw : Region.wanted o (yielded ops a.tmps) = true
  · rw [if_pos hw] at h
    rcases h with ⟨h0, v, h1, h2⟩ | ⟨vg, h0, h1, h2⟩
    · exact ⟨some v, .inl ⟨hw, h0, v, rfl, h1⟩, h2⟩
    · exact ⟨none, .inr (.inl ⟨hw, vg, h0, rfl, h1⟩), fun vg' h' x => by rw [h0] at h'; cases h'; exact h2 x⟩
  · rw [if_neg hw] at h
    exact ⟨some undef, .inr (.inr ⟨by simpa using hw, h.1, rfl⟩), h.2⟩
theorem gStep_of_grows {i : Nat} {o : Oper} {V : Option Value} {a : Act} {X : Nat → I} {K : Act → (Nat → I) → Prop} (h : Grows P md ops R S sp i o V a X) (hK : Then sp i o V K a X) : gStep P md ops R S sp i o K a X := by
  unfold gStep
  rcases h with ⟨hw, h0, v, rfl, h1⟩ | ⟨hw, vg, h0, rfl, h1⟩ | ⟨hw, h0, rfl⟩
  · rw [if_pos hw]; exact .inl ⟨h0, v, h1, hK⟩
  · rw [if_pos hw]; exact .inr ⟨vg, h0, h1, hK vg h0⟩
  · rw [if_neg (by simp [hw])]; exact ⟨h0, hK⟩
theorem Grows.put {i : Nat} {oi oj : Oper} {V : Option Value} {a : Act} {X X' : Nat → I} (h3 : ∀ d, oj.dst = some d → d ∉ oi.looksAt ops) (hsi : ∀ cs b, oi.op ≠ .select cs b)
    (hX : ∀ w, KnowsAll md sp X' w oi.after.toList ↔ KnowsAll md sp X w oi.after.toList) (u : Value) : Grows P md ops R S sp i oi V (a.put oj.dst u) X' ↔ Grows P md ops R S sp i oi V a X := by
  unfold Grows growAt
  rw [execOp_put oi hsi a oj.dst u h3, wanted_put oi a oj.dst u h3]
  simp only [hX]

theorem gOp_put {i j : Nat} {oi oj : Oper} {V : Option Value} (hij : i ≠ j) (hj : ops[j]? = some oj) (hap : oi.apart ops oj = true)
    (hsi : ∀ cs b, oi.op ≠ .select cs b) (hsj : ∀ cs b, oj.op ≠ .select cs b) (hni : ∀ e ∈ oj.after, Region.binds md e = true → e.on ≠ i) (hnj : ∀ e ∈ oi.after, Region.binds md e = true → e.on ≠ j) (hI : Nonempty I) (hS0 : ∃ w, S w)
    {K : Act → (Nat → I) → Prop} {a : Act} {X : Nat → I}
    (hy : Grows P md ops R S sp i oi V a X) (h : Then sp i oi V (fun a X => gOp P md ops R S sp j K a X) a X) :
    gOp P md ops R S sp j (fun a' X' => Grows P md ops R S sp i oi V a' X' ∧ Then sp i oi V K a' X') a X := by
  obtain ⟨h1, h2, h3⟩ := Oper.apart_spec hap
  have keep : ∀ u, Grows P md ops R S sp i oi V (a.put oj.dst u) X := fun u => (Grows.put h3 hsi (fun _ => Iff.rfl) u).2 hy
  have keepx : ∀ u x, Grows P md ops R S sp i oi V (a.put oj.dst u) (upd X j x) := fun u x => (Grows.put h3 hsi (fun _ => KnowsAll.ne _ fun e he hb => hnj e (by simpa using he) hb) u).2 hy
  unfold gOp at *
  simp only [hj] at *
  -- what the operation j does in the state behind i is what it does in this one
  have back : ∀ (v : Value) (X' : Nat → I), (∀ w, KnowsAll md sp X' w oj.after.toList ↔ KnowsAll md sp X w oj.after.toList) → ∀ {W : Option Value}, Grows P md ops R S sp j oj W (a.put oi.dst v) X' → Grows P md ops R S sp j oj W a X :=
    fun v X' hX W hg => (Grows.put h1 hsj hX v).1 hg
  cases V with
  | some v =>
    obtain ⟨W, hg, hT⟩ := grows_of_gStep h
    refine gStep_of_grows (back v X (fun _ => Iff.rfl) hg) ?_
    cases W with
    | some u =>
      refine ⟨keep u, ?_⟩
      show K _ _
      rw [← Act.put_comm a v u h2]; exact hT
    | none =>
      intro vg hvg x
      refine ⟨keepx _ x, ?_⟩
      show K _ _
      rw [← Act.put_comm a v (vg.val x) h2]; exact hT vg hvg x
  | none =>
    -- the letters of i
    obtain ⟨vi, hvi⟩ : ∃ vi, sp i = some vi := by
      rcases hy with ⟨_, _, v, hV, _⟩ | ⟨_, vg, h0, _⟩ | ⟨_, _, hV⟩
      · cases hV
      · exact ⟨vg, h0⟩
      · cases hV
    have hx : ∀ x, ∃ W, Grows P md ops R S sp j oj W (a.put oi.dst (vi.val x)) (upd X i x) ∧ Then sp j oj W K (a.put oi.dst (vi.val x)) (upd X i x) := fun x => grows_of_gStep (h vi hvi x)
    have hX : ∀ x w, KnowsAll md sp (upd X i x) w oj.after.toList ↔ KnowsAll md sp X w oj.after.toList := fun x w => KnowsAll.ne _ fun e he hb => hni e (by simpa using he) hb
    obtain ⟨x0⟩ := hI
    obtain ⟨W, hg0, _⟩ := hx x0
    have hg := back _ _ (hX x0) hg0
    -- the value is the same whatever the letters of i
    cases W with
    | none =>
      refine gStep_of_grows hg ?_
      obtain ⟨vj, hvj⟩ : ∃ vj, sp j = some vj := by
        rcases hg with ⟨_, _, v, hV, _⟩ | ⟨_, vg, h0, _⟩ | ⟨_, _, hV⟩
        · cases hV
        · exact ⟨vg, h0⟩
        · cases hV
      intro vg hvg y
      refine ⟨keepx _ y, fun vg' hvg' x => ?_⟩
      rw [hvi] at hvg'; cases hvg'
      obtain ⟨W', hg', hT⟩ := hx x
      cases W' with
      | some u =>
        rcases hg' with ⟨_, h0, _⟩ | ⟨_, vg, h0, hV, _⟩ | ⟨_, h0, _⟩
        · rw [hvj] at h0; cases h0
        · cases hV
        · rw [hvj] at h0; cases h0
      | none =>
        have := hT vg hvg y
        rw [Act.put_comm a (vi.val x) (vg.1 y) h2, upd_comm hij] at this
        exact this
    | some u =>
      refine gStep_of_grows hg ⟨keep u, fun vg' hvg' x => ?_⟩
      rw [hvi] at hvg'; cases hvg'
      obtain ⟨W', hg', hT⟩ := hx x
      have hg2 := back _ _ (hX x) hg'
      have e : W' = some u := by
        rcases hg with ⟨hw, h0, v, hv, h4⟩ | ⟨_, vg, h0, hV, _⟩ | ⟨hw, h0, hv⟩
        · rcases hg2 with ⟨_, _, v', hv', h4'⟩ | ⟨_, vg, h0', _⟩ | ⟨hw', _⟩
          · obtain ⟨w0, hw0⟩ := hS0
            have h5 := (h4 w0 hw0).symm.trans (h4' w0 hw0)
            injection h5 with h5
            injection h5 with h5
            rw [hv', hv, h5]
          · rw [h0] at h0'; cases h0'
          · rw [hw] at hw'; cases hw'
        · cases hV
        · rcases hg2 with ⟨hw', _⟩ | ⟨hw', _⟩ | ⟨_, _, hv'⟩
          · rw [hw] at hw'; cases hw'
          · rw [hw] at hw'; cases hw'
          · rw [hv', hv]
      subst e
      have : K _ _ := hT
      rw [Act.put_comm a (vi.val x) u h2] at this
      exact this
theorem wpAnyG_first {n i : Nat} {oi : Oper} {V : Option Value} {L : Array Bool → Act → (Nat → I) → Prop} (hI : Nonempty I) (hS0 : ∃ w, S w) (hi : ops[i]? = some oi) (hsel : ∀ (j : Nat) (o : Oper) cs b, ops[j]? = some o → o.op ≠ .select cs b)
    (hs : Region.sinkB md ops n = true) (hc : Region.chainB md ops n = true) (hn : n < ops.size) (hin : i < n)
    (hdone : ∀ listed a X, L listed a X → ∀ j ∈ Region.ready md ops listed, n ≤ j) :
    ∀ (f : Nat) (listed : Array Bool) (a : Act) (X : Nat → I), HeadInv md ops n listed →
      (∀ j oj, ops[j]? = some oj → j ≠ i → listed.getD j true = false → (∀ e ∈ oj.after, Region.binds md e = true → e.on ≠ i) → oi.apart ops oj = true) →
      i ∈ Region.ready md ops listed → Grows P md ops R S sp i oi V a X →
      Then sp i oi V (wpAnyG P md ops R S sp n L f (listed.setIfInBounds i true)) a X → wpAnyG P md ops R S sp n L (f + 1) listed a X := by
  intro f
  induction f with
  | zero =>
    intro listed a X inv _ hr hy H
    have hun := (mem_ready.1 hr).1
    have hT : ∃ a X, L (listed.setIfInBounds i true) a X := by
      cases V with
      | some v => exact ⟨_, _, H⟩
      | none =>
        obtain ⟨x0⟩ := hI
        rcases hy with ⟨_, _, v, hV, _⟩ | ⟨_, vg, h0, _⟩ | ⟨_, _, hV⟩
        · cases hV
        · exact ⟨_, _, H vg h0 x0⟩
        · cases hV
    refine ⟨fun h => (by rw [h] at hr; cases hr), fun j hj => ?_⟩
    have hjn : j < n := by
      rcases Nat.lt_or_ge j n with h | h
      · exact h
      · exact absurd hj (tail_waits hs hc hn inv _ i rfl hin hun j h)
    refine ⟨hjn, ?_⟩
    by_cases hji : j = i
    · subst hji
      unfold gOp; rw [hi]; exact gStep_of_grows hy H
    · obtain ⟨a', X', hL⟩ := hT
      have := hdone _ _ _ hL j (ready_mono hj hji)
      omega
  | succ f ih =>
    intro listed a X inv hfree hr hy H
    obtain ⟨hun, oi', hoi', halli⟩ := mem_ready.1 hr
    obtain rfl : oi' = oi := Option.some.inj (hoi'.symm.trans hi)
    refine ⟨fun h => (by rw [h] at hr; cases hr), fun j hj => ?_⟩
    have hjn : j < n := by
      rcases Nat.lt_or_ge j n with h | h
      · exact h
      · exact absurd hj (tail_waits hs hc hn inv _ i rfl hin hun j h)
    refine ⟨hjn, ?_⟩
    by_cases hji : j = i
    · subst hji
      unfold gOp; rw [hi]; exact gStep_of_grows hy H
    · obtain ⟨hjun, oj, hoj, hall⟩ := mem_ready.1 hj
      have hnot : ∀ e ∈ oj.after, Region.binds md e = true → e.on ≠ i := fun e he hb heq => by
        have h1 := hall e he hb
        rw [heq, getD_both hun] at h1
        cases h1
      have hnotj : ∀ e ∈ oi'.after, Region.binds md e = true → e.on ≠ j := fun e he hb heq => by
        have h1 := halli e he hb
        rw [heq, getD_both hjun] at h1
        cases h1
      have h1 : Then sp i oi' V (fun a X => gOp P md ops R S sp j (wpAnyG P md ops R S sp n L f ((listed.setIfInBounds i true).setIfInBounds j true)) a X) a X := by
        cases V with
        | some v => exact (H.2 j (ready_mono hj hji)).2
        | none => exact fun vg h0 x => ((H vg h0 x).2 j (ready_mono hj hji)).2
      have h2 := gOp_put (Ne.symm hji) hoj (hfree j oj hoj hji hjun hnot) (fun cs b => hsel i oi' cs b hi) (fun cs b => hsel j oj cs b hoj) hnot hnotj hI hS0 hy h1
      have hfree' : ∀ k ok, ops[k]? = some ok → k ≠ i → (listed.setIfInBounds j true).getD k true = false →
          (∀ e ∈ ok.after, Region.binds md e = true → e.on ≠ i) → oi'.apart ops ok = true := fun k ok hk hki hun hno => by
        refine hfree k ok hk hki ?_ hno
        by_cases hjk : j = k
        · subst hjk; exact hjun
        · rw [getD_set_ne true hjk] at hun; exact hun
      refine gOp_mono (fun a' X' h3 => ih (listed.setIfInBounds j true) a' X' (inv.set hj hjn) hfree' (ready_mono hr (Ne.symm hji)) h3.1 ?_) h2
      rw [Array.setIfInBounds_comm _ _ hji]
      exact h3.2

theorem wpAnyG_lex {n g : Nat} {Lq : Act → (Nat → I) → Prop} (hI : Nonempty I) (hS0 : ∃ w, S w) (hsel : Region.noSelect ops = true) (hs : Region.sinkB md ops n = true) (hc : Region.chainB md ops n = true) (hn : n < ops.size) (hg : g ≠ 0) :
    ∀ (l : List Oper) (k : Nat) (listed : Array Bool) (a : Act) (X : Nat → I), (∀ j, j < l.length → l[j]? = ops[k + j]?) → k + l.length = n → HeadInv md ops n listed →
    Region.lexHead md ops g l.length k listed = true → wpGrow P md ops R S sp Lq k l a X →
    wpAnyG P md ops R S sp n (fun listed' a' X' => (Region.seqB md ops g n listed' = true ∧ ∀ j, j < n → listed'.getD j false = true) ∧ Lq a' X') l.length listed a X
  | [], k, listed, a, X, _, hk, inv, hB, h => by
    have : k = n := by simpa using hk
    subst this
    have hsq : Region.seqB md ops g k listed = true := by simpa [Region.lexHead] using hB
    refine ⟨⟨hsq, fun j hj => ?_⟩, h⟩
    -- nothing before the k-th is left
    cases hl : listed.getD j false with
    | true => rfl
    | false =>
      exfalso
      have hun := getD_in (by rw [inv.size]; omega) hl
      -- the first that is left may come up
      have key : ∀ (d i : Nat), i < k → listed.getD i true = false → k - i = d → ∀ t, k ≤ t → t ∉ Region.ready md ops listed := fun d i hik hi hd => tail_waits hs hc hn inv d i hd hik hi
      have h1 := key _ j hj hun rfl
      cases g with
      | zero => exact hg rfl
      | succ g =>
        simp only [Region.seqB, Bool.and_eq_true, decide_eq_true_eq] at hsq
        exact h1 k (Nat.le_refl _) (by rw [hsq.1]; simp)
  | o :: l, k, listed, a, X, hl, hk, inv, hB, h => by
    have h0 : ops[k]? = some o := by simpa using (hl 0 (by simp)).symm
    simp only [List.length_cons, Region.lexHead, Bool.and_eq_true] at hB
    obtain ⟨⟨hr, hf⟩, hB'⟩ := hB
    have hkn : k < n := by simp only [List.length_cons] at hk; omega
    have hr' : k ∈ Region.ready md ops listed := by simpa using hr
    obtain ⟨V, hy, hK⟩ := grows_of_gStep h
    refine wpAnyG_first hI hS0 h0 (Region.noSelect_spec hsel) hs hc hn hkn (fun listed' a' X' hL => seqB_ready hL.1.1) l.length listed a X inv (Region.free_spec h0 hf) hr' hy ?_
    have go : ∀ a' X', wpGrow P md ops R S sp Lq (k + 1) l a' X' → _ := fun a' X' h' => wpAnyG_lex hI hS0 hsel hs hc hn hg l (k + 1) (listed.setIfInBounds k true) a' X' (fun j hj => by have := hl (j + 1) (by simp; omega); simpa [Nat.add_assoc, Nat.add_comm 1 j] using this) (by simp only [List.length_cons] at hk; omega) (inv.set hr' hkn) hB' h'
    cases V with
    | some v => exact go _ _ hK
    | none => exact fun vg h0 x => go _ _ (hK vg h0 x)

/-- one walk serves every order: the first n operations only add to memory; the others come behind them, one by one -/
theorem wp_region_grow {id : Nat} {Q : Exit → Act → World → Prop} {a : Act} {w : World} {l : List Oper} (n : Nat) (sp : Told I R S) (hI : Nonempty I) (x0 : I) (hm : P.follows .mixedOrders = true) (hB : Region.lexTailB .any l.toArray n = true)
    (hs : Stays R S) (hS : S w.drew)
    (h : wpGrow P .any l.toArray R S sp (fun a' X => ∀ w', S w' → (∀ j, j < n → Knows sp X j w') → wpList P l.toArray Q (l.drop n) a' w') 0 (l.take n) a (fun _ => x0)) : (Code.region id l.toArray true).wp P Q a w := by
  simp only [Region.lexTailB, Bool.and_eq_true, decide_eq_true_eq] at hB
  obtain ⟨⟨⟨⟨hsel, hn⟩, hsk⟩, hc⟩, hlex⟩ := hB
  have hn' : n < l.length := by simpa using hn
  have htl : (l.take n).length = n := by simp; omega
  have hdl : (l.drop n).length = l.toArray.size - n := by simp
  have inv0 : HeadInv .any l.toArray n (Array.replicate l.toArray.size false) :=
    ⟨by simp, fun j oj _ hl => (by rw [getD_replicate_false] at hl; cases hl), fun t _ ht => getD_in (by simpa using ht) (getD_replicate_false _ _)⟩
  have H := wpAnyG_lex (P := P) (R := R) (S := S) (sp := sp) (md := .any) (g := l.toArray.size - n) hI ⟨_, hS⟩ hsel hsk hc hn (by simp; omega) (l.take n) 0 _ a (fun _ => x0) (fun j hj => by
    have hj' : j < n := by rw [htl] at hj; exact hj
    simp [hj']) (by simpa using htl) inv0 (by rw [htl]; exact hlex) h
  refine wp_region_any hm ?_
  have := wpAny_of_grow hs (Q' := Q) (g := l.toArray.size - n) (fun listed a' X w' hI' hL => by
    have := wpAny_of_seq (md := .any) (Q' := Q) (l.drop n) n listed a' w' (fun j => by simp [List.getElem?_drop]) (by rw [hdl]; exact hL.1.1) (hL.2 w' hI'.1 fun j hj => hI'.2 j (hL.1.2 j hj))
    rwa [hdl] at this) _ _ _ _ _ ⟨hS, fun j hj => by rw [getD_replicate_false] at hj; cases hj⟩ H
  rw [htl, show n + (l.toArray.size - n) = l.toArray.size by omega] at this
  exact this
/-- one operation of the walk whose value is known ahead; what follows stands behind a letter -/
theorem wpGrow_pure {k : Nat} {o : Oper} {rest : List Oper} {a : Act} {X : Nat → I} {Q : Act → (Nat → I) → Prop} (hg : o.guard = none) (h0 : sp k = none)
    (h : ∀ K : Act → Prop, (∀ a, wpGrow P md ops R S sp Q (k + 1) rest a X → K a) → ∃ v, (∀ w, S w → (execOp a.eval o).run P w = .ok (.value v) w) ∧ K (a.put o.dst v)) : wpGrow P md ops R S sp Q k (o :: rest) a X := by
  obtain ⟨v, h1, h2⟩ := h _ (fun _ h => h)
  show gStep P md ops R S sp k o _ a X
  unfold gStep
  rw [if_pos (by simp [Region.wanted, hg])]
  exact .inl ⟨h0, v, h1, h2⟩
/-- one whose value is told in letters -/
theorem wpGrow_told {k : Nat} {o : Oper} {rest : List Oper} {a : Act} {X : Nat → I} {Q : Act → (Nat → I) → Prop} (hg : o.guard = none) {vg : Tel I R S} (h0 : sp k = some vg)
    (h1 : ∀ w, S w → KnowsAll md sp X w o.after.toList → growAt P R o a w (fun u w' => ∃ x, u = vg.val x ∧ vg.fact x w'))
    (h2 : ∀ x (K : Act → Prop), (∀ a, wpGrow P md ops R S sp Q (k + 1) rest a (upd X k x) → K a) → K (a.put o.dst (vg.val x))) : wpGrow P md ops R S sp Q k (o :: rest) a X := by
  show gStep P md ops R S sp k o _ a X
  unfold gStep
  rw [if_pos (by simp [Region.wanted, hg])]
  exact .inr ⟨vg, h0, h1, fun x => h2 x _ (fun _ h => h)⟩
theorem wpGrow_skip {k : Nat} {o : Oper} {rest : List Oper} {a : Act} {X : Nat → I} {Q : Act → (Nat → I) → Prop} (hw : Region.wanted o (yielded ops a.tmps) = false) (h0 : sp k = none)
    (h2 : wpGrow P md ops R S sp Q (k + 1) rest (a.put o.dst undef) X) : wpGrow P md ops R S sp Q k (o :: rest) a X := by
  show gStep P md ops R S sp k o _ a X
  unfold gStep
  rw [if_neg (by simp [hw])]
  exact ⟨h0, h2⟩
theorem wpGrow_nil {k : Nat} {a : Act} {X : Nat → I} {Q : Act → (Nat → I) → Prop} (h : Q a X) : wpGrow P md ops R S sp Q k [] a X := h
end
end Go.Proofs.YtejifhdkgfilgaaDoor
