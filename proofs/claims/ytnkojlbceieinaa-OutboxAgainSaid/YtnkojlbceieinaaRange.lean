/- 'for x := range f { .. }', at an iterator whose rounds the caller's own state says: the state goes on with each round, and by silent steps of the iterator between. -/
import Derived.RangeFuncNested
import Derived.RangeFuncBound
import Derived.RangeFuncCalls
import Derived.RangeFuncLeaves
import Derived.Shelf.Abstract
import Derived.Shelf.RegionOpen
import Derived.WalkKit
import Derived.OwnWalkIn
import Derived.TacticsInMore
import Derived.LoopNIn
import Derived.LoopIn
import Derived.Test.YtnkojlbceieinaaMem
namespace Go.Proofs.Ytnkojlbceieinaa
open Go.RowKit Go.Shelf

/-- how a round's body may be left: it goes on in the next state, or leaves by a jump; what is no cells lies as it lay -/
def bodyEnd (J : World → Prop) (Jx : Code → World → Prop) (W : World) : Exit → Act → World → Prop
  | .normal, _, W' => KeepsOthers W W' ∧ J W'
  | .ret, _, W' => KeepsOthers W W' ∧ Jx .ret W'
  | .exit id, _, W' => KeepsOthers W W' ∧ Jx (.exit id) W'
  | .goto t, _, W' => KeepsOthers W W' ∧ Jx (.goto t) W'
  | .panic _, _, _ => False
  | .outgrown, _, _ => False

theorem putObj_below {W : World} {l : Nat} {o : Obj} {B : Nat} (h : B ≤ l) : Below B W (W.putObj l o) :=
  ⟨rfl, rfl, rfl, by simp [World.putObj], fun k hk => World.putObj_heap_other (by omega)⟩

theorem rangeFunc_state {P : Program} {n : Nat} {α β : Type} {g : Operand} {ps : Array Tmp} {assign body : Code} {Q : Exit → Act → World → Prop} {a : Act} {w : World}
    {gf : Nat} {lb : Array Value} (hg : a.eval g = .func (.func gf) #[] lb) (eg : ∀ args w, (callFunc gf args).run P w = .ok (.enter gf args) w)
    (encs : α → Array Value) (hps : ∀ x, (encs x).size = ps.size) (J : β → World → Prop) (Jx : Code → World → Prop) (s0 : β) (Fin : β → Prop) (St : β → α → β → Prop) (a₁ : α → Act)
    (hJp : ∀ s W l o o', w.heap.size ≤ l → W.heap[l]? = some o → o.isCells = false → J s W → J s (W.putObj l o'))
    (hJxp : ∀ c W l o o', w.heap.size ≤ l → W.heap[l]? = some o → o.isCells = false → Jx c W → Jx c (W.putObj l o'))
    (hJb : ∀ s W W', Below W.heap.size W W' → J s W → J s W')
    (h0 : J s0 w)
    (hiter : ∀ (l : Nat) (J' : β → World → Prop) (Jx' : World → Prop), (∀ s W, J' s W → J s W) → (∀ s s' W W', J' s W → Below W.heap.size W W' → J s' W' → J' s' W') →
      (∀ s x s' W, St s x s' → J' s W → YieldAt Fence.wide (n - 1 - 1) P l (encs x) W fun e W' => (e = .returned (.bool true) ∧ J' s' W') ∨ (e = .returned (.bool false) ∧ Jx' W')) →
      ∀ W, J' s0 W → CallsIn Fence.wide (n - 1) P gf (#[.func (.yield l) #[] #[]] ++ lb) W fun e W' => (∃ v, e = .returned v) ∧ ((∃ s, Fin s ∧ J' s W') ∨ Jx' W'))
    (hassign : ∀ (l : Nat) (x : α) (W : World) (K : Act → World → Prop), K (a₁ x) W →
      assign.wpIn (Fence.wide.inRound l) (n - 1 - 1) P (Exit.then K (fun _ _ _ => False)) { tmps := (ps.zip (encs x)).foldl (fun t (p, v) => t.setIfInBounds p v) a.tmps, defers := [] } W)
    (hbody : ∀ (l : Nat) (s : β) (x : α) (s' : β) (W : World), St s x s' → J s W → body.wpIn (Fence.wide.inRound l) (n - 1 - 1) P (bodyEnd (J s') Jx W) (a₁ x) W)
    (hdone : ∀ (D : Nat) (s : β) (W : World), w.heap.size ≤ D → Fin s → J s W → W.heap[D]? = some (.deferred (some [])) → Q .normal { a with defers := { target := .collected D, args := #[] } :: a.defers } W)
    (hstop : ∀ (D : Nat) (c : Code) (W : World), w.heap.size ≤ D → Jx c W → W.heap[D]? = some (.deferred (some [])) → c.wpIn Fence.wide n P Q { a with defers := { target := .collected D, args := #[] } :: a.defers } W) :
    (Code.rangeFunc g ps assign body).wpIn Fence.wide n P Q a w := by
  refine wpIn_rangeFunc ?_
  intro fn hfn
  obtain ⟨rec, hrec⟩ : ∃ rec : LoopState → Option Code → Loop, rec = fun st pe => { state := st, pending := pe, fn, tmps := a.tmps, params := ps, assign, body, defers := w.heap.size } := ⟨_, rfl⟩
  obtain ⟨W1, hW1⟩ : ∃ W1, (w.alloc (.deferred (some []))).alloc (.loop (rec .ready none)) = W1 := ⟨_, rfl⟩
  have hL1 : W1.heap[w.heap.size + 1]? = some (.loop (rec .ready none)) := by
    rw [← hW1]; have := World.alloc_heap_new (w.alloc (.deferred (some []))) (.loop (rec .ready none)); rwa [World.size_alloc] at this
  have hK1 : W1.heap[w.heap.size]? = some (.deferred (some [])) := by
    rw [← hW1]; exact (Below.heap_alloc _ _ _ (by simp)).trans (World.alloc_heap_new w _)
  have hB1 : Below w.heap.size w W1 := by rw [← hW1]; exact ((Below.refl _ w).alloc (Nat.le_refl _) _).alloc (by simp) _
  have hJ1 : J s0 W1 := hJb s0 w W1 hB1 h0
  refine ⟨w.heap.size + 1, [{ target := .collected w.heap.size, args := #[] }], W1, { target := .fn (.func gf) lb, args := #[.func (.yield (w.heap.size + 1)) #[] #[]] }, W1, gf,
    #[.func (.yield (w.heap.size + 1)) #[] #[]] ++ lb, W1, ?_, ?_, ?_, ?_, fun h => by simp [Fence.wide] at h, ?_⟩
  · rw [← hW1, hrec]; exact run_enterLoop_outer _ _ _ _ _
  · simp only [resolve, hg]
    simp [go_sem]
  · intro f' _; trivial
  · simp [invoke, go_sem, eg]
  · refine (hiter (w.heap.size + 1)
      (fun s W => J s W ∧ W.heap[w.heap.size + 1]? = some (.loop (rec .ready none)) ∧ W.heap[w.heap.size]? = some (.deferred (some [])))
      (fun W => ∃ c, Jx c W ∧ W.heap[w.heap.size + 1]? = some (.loop (rec .done (some c))) ∧ W.heap[w.heap.size]? = some (.deferred (some [])))
      (fun s W h => h.1) (fun s s' W W' h hb h' => ⟨h', (hb.block _ (Array.getElem?_eq_some_iff.1 h.2.1).1).trans h.2.1, (hb.block _ (Array.getElem?_eq_some_iff.1 h.2.2).1).trans h.2.2⟩) ?_ W1 ⟨hJ1, hL1, hK1⟩).mono ?_
    · rintro s x s' W hst ⟨hi, hl, hk⟩
      have hlt : w.heap.size + 1 < W.heap.size := (Array.getElem?_eq_some_iff.1 hl).1
      have hy := run_yield (P := P) (args := encs x) hl (by rw [hrec]; exact hps x)
      rw [hrec] at hy
      refine ⟨fn, _, assign, body, hy, roundIn_of_wpIn hfn (hassign _ x W _ ⟨_, run_beginRound hl (by rw [hrec]), ?_⟩)⟩
      have hl2 : (W.putObj (w.heap.size + 1) (.loop { rec .ready none with state := .busy })).heap[w.heap.size + 1]? = some (.loop { rec .ready none with state := .busy }) := World.putObj_heap_same hlt
      have hk2 : (W.putObj (w.heap.size + 1) (.loop { rec .ready none with state := .busy })).heap[w.heap.size]? = some (.deferred (some [])) := (World.putObj_heap_other (by omega)).trans hk
      refine wpIn_mono (hbody _ s x s' _ hst (hJp _ _ _ _ _ (by omega) hl rfl hi)) ?_
      have fin : ∀ (jump : Option Code) (W3 : World), KeepsOthers (W.putObj (w.heap.size + 1) (.loop { rec .ready none with state := .busy })) W3 →
          (Instr.endRound (w.heap.size + 1) jump).run P W3 = .ok (.bool jump.isNone) (W3.putObj (w.heap.size + 1) (.loop (rec (if jump.isNone then .ready else .done) jump))) ∧
          W3.heap[w.heap.size + 1]? = some (.loop { rec .ready none with state := .busy }) ∧
          (W3.putObj (w.heap.size + 1) (.loop (rec (if jump.isNone then .ready else .done) jump))).heap[w.heap.size + 1]? = some (.loop (rec (if jump.isNone then .ready else .done) jump)) ∧
          (W3.putObj (w.heap.size + 1) (.loop (rec (if jump.isNone then .ready else .done) jump))).heap[w.heap.size]? = some (.deferred (some [])) := fun jump W3 hk3 => by
        have hl3 := hk3.same _ _ hl2 rfl
        have := run_endRound (P := P) jump hl3
        rw [hrec] at this ⊢
        exact ⟨this, by rw [hrec] at hl3; exact hl3, World.putObj_heap_same (Array.getElem?_eq_some_iff.1 hl3).1, (World.putObj_heap_other (by omega)).trans (hk3.same _ _ hk2 rfl)⟩
      rintro e a3 W3 hp
      cases e with
      | normal =>
        obtain ⟨hk3, hi3⟩ := hp
        obtain ⟨hr, hl3, hl4, hk4⟩ := fin none W3 hk3
        exact ⟨_, _, hr, .inl ⟨rfl, hJp _ _ _ _ _ (by omega) hl3 rfl hi3, hl4, hk4⟩⟩
      | ret =>
        obtain ⟨hk3, hi3⟩ := hp
        obtain ⟨hr, hl3, hl4, hk4⟩ := fin (some .ret) W3 hk3
        exact ⟨_, _, hr, .inr ⟨rfl, .ret, hJxp _ _ _ _ _ (by omega) hl3 rfl hi3, hl4, hk4⟩⟩
      | exit id =>
        obtain ⟨hk3, hi3⟩ := hp
        obtain ⟨hr, hl3, hl4, hk4⟩ := fin (some (.exit id)) W3 hk3
        exact ⟨_, _, hr, .inr ⟨rfl, .exit id, hJxp _ _ _ _ _ (by omega) hl3 rfl hi3, hl4, hk4⟩⟩
      | goto t =>
        obtain ⟨hk3, hi3⟩ := hp
        obtain ⟨hr, hl3, hl4, hk4⟩ := fin (some (.goto t)) W3 hk3
        exact ⟨_, _, hr, .inr ⟨rfl, .goto t, hJxp _ _ _ _ _ (by omega) hl3 rfl hi3, hl4, hk4⟩⟩
      | panic c => exact hp.elim
      | outgrown => exact hp.elim
    · rintro e W' ⟨⟨v, rfl⟩, h⟩
      rcases h with ⟨s, hs, hj, hl, hk⟩ | ⟨c, hx, hl, hk⟩
      · refine ⟨none, W'.putObj (w.heap.size + 1) (.loop { rec .ready none with state := .exhausted }), ?_, ?_⟩
        · have := run_endLoop (P := P) hl (by rw [hrec]; intro h; cases h)
          rw [this]; rw [hrec]
        · exact hdone w.heap.size s _ (Nat.le_refl _) hs (hJp _ _ _ _ _ (by omega) hl rfl hj) ((World.putObj_heap_other (by omega)).trans hk)
      · refine ⟨some c, W'.putObj (w.heap.size + 1) (.loop { rec .done (some c) with state := .exhausted }), ?_, ?_⟩
        · have := run_endLoop (P := P) hl (by rw [hrec]; intro h; cases h)
          rw [this]; rw [hrec]
        · exact hstop w.heap.size c _ (Nat.le_refl _) (hJxp _ _ _ _ _ (by omega) hl rfl hx) ((World.putObj_heap_other (by omega)).trans hk)
end Go.Proofs.Ytnkojlbceieinaa
