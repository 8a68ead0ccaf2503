/- What a row's laid tables and arguments read as. -/
import Derived.Test.YtejifhdkgfilgaaDoorRows
import Derived.Test.YtejifhdkgfilgaaDoorOpen
import Derived.Test.YtejifhdkgfilgaaDoorDigest
import Derived.LaidMore
import Derived.LaidLaws
import Derived.MakeChecks
import Derived.OpenShut
import Derived.Handed
import Derived.SizedLaws
import Derived.ChangeSame
import Derived.ProofKit
namespace Go.Proofs.YtejifhdkgfilgaaDoor
open Go.ChangeShapes Go.WideShapes Go.ChangeAt Go.RowKit Go.Deep
theorem Tryd.own : ownKnob Tryd.prog.godebug = none := by kernel_rfl
theorem Tryd.laidOut : laidOutB Tryd.prog = true := by kernel_rfl
theorem Tryd.cells5 : Tryd.prog.cellsOf 5 = 1 := by kernel_rfl
theorem Tryd.cells23 : Tryd.prog.cellsOf 23 = 32 := by kernel_rfl
section
variable {H : Type} {P : Program} {enc : TypeId × Value → H} {w : World} {base : Nat} {sp : Nat → Bool} {held : Bool}
/-- an array of numbers reads as its numbers -/
theorem cells_ints {t e : TypeId} {n : Nat} {q : IntKind} (hu : P.underlying t = some (.array n e)) (he : P.underlying e = some (.int q)) (h1 : P.cellsOf e = 1) (hs : P.cellsOf t = n) {cs : List Value} {fuel : Nat} {x : DataW H × List MemPlace}
    (h : DataW.trod enc P w base sp held fuel t cs = some x) : ∃ zs : List Int, zs.length = n ∧ cs = zs.map (Value.int q) ∧ x = (.agg (zs.map fun z => .lit (.int q z)), []) ∧ ∀ z ∈ zs, (Lit.int q z).wf = true := by
  obtain ⟨xs, m, rfl, rfl, hcl, hxl, hel⟩ := DataW.trod_array hu h
  rw [hs] at hcl
  have hi : ∀ i, i < n → ∃ z, cs[i]? = some (.int q z) ∧ xs[i]? = some (.lit (.int q z), []) ∧ (Lit.int q z).wf = true := by
    intro i hi
    have h2 := hel i hi
    rw [h1, Nat.mul_one, List.getElem?_eq_getElem (by omega)] at h2
    obtain ⟨z, e1, e2, e3⟩ := DataW.trod_int he h2
    have h3 : ((cs.drop i).take 1)[0]? = some (.int q z) := by rw [e1]; rfl
    exact ⟨z, by simpa using h3, by rw [List.getElem?_eq_getElem (by omega), e2], e3⟩
  refine ⟨cs.map intOf, by rw [List.length_map, hcl], ?_, ?_, ?_⟩
  · apply List.ext_getElem?
    intro i
    by_cases h3 : i < n
    · obtain ⟨z, e1, _, _⟩ := hi i h3
      simp [e1, intOf]
    · rw [List.getElem?_eq_none (by omega), List.getElem?_eq_none (by simp; omega)]
  · have ea : xs.map (·.1) = (cs.map intOf).map fun z => DataW.lit (Lit.int q z) := by
      apply List.ext_getElem?
      intro i
      by_cases h3 : i < n
      · obtain ⟨z, e1, e2, _⟩ := hi i h3
        simp [e1, e2, intOf]
      · rw [List.getElem?_eq_none (by simp; omega), List.getElem?_eq_none (by simp; omega)]
    have eb : xs.flatMap (·.2) = [] := by
      rw [List.flatMap_eq_nil_iff]
      intro y hy
      obtain ⟨i, h3, rfl⟩ := List.getElem_of_mem hy
      obtain ⟨z, _, e2, _⟩ := hi i (by omega)
      rw [List.getElem?_eq_getElem h3] at e2
      rw [Option.some.inj e2]
    rw [ea, eb]
  · intro z hz
    obtain ⟨v, hv, rfl⟩ := List.mem_map.1 hz
    obtain ⟨i, h3, rfl⟩ := List.getElem_of_mem hv
    obtain ⟨z, e1, _, e3⟩ := hi i (by omega)
    rw [List.getElem?_eq_getElem h3] at e1
    rw [Option.some.inj e1]
    exact e3
end
set_option maxRecDepth 100000 in
/-- a key that comes in -/
theorem open_key {H : Type} {enc : TypeId × Value → H} {W : World} {base b0 : Nat} {sp : Nat → Bool} {held : Bool} {v : Value} {d : DataW H} {p : List MemPlace} (hv : Value.okWide Tryd.prog W .any b0 23 v) (h : DataW.Trod enc Tryd.prog W base sp held 23 v d p) :
    ∃ xs : List Nat, v = .agg (keyA xs) ∧ xs.length = 32 ∧ (∀ b ∈ xs, b < 256) ∧ p = [] := by
  simp only [Value.okWide, Tryd.underlying23] at hv
  obtain ⟨cs, rfl, hcs, _⟩ := hv
  obtain ⟨fuel, hf⟩ := h
  obtain ⟨zs, hl, hc, hx, hwf⟩ := cells_ints Tryd.underlying23 Tryd.underlying5 Tryd.cells5 Tryd.cells23 hf
  have hb : ∀ z ∈ zs, 0 ≤ z ∧ z < 256 := fun z hz => by
    have := hwf z hz
    simp only [Lit.wf, Bool.and_eq_true, decide_eq_true_eq, show IntKind.u8.min = 0 from rfl, show IntKind.u8.max = 255 from rfl] at this
    omega
  refine ⟨zs.map Int.toNat, ?_, by rw [List.length_map, hl], ?_, by injection hx⟩
  · refine congrArg Value.agg ?_
    have hc' : cs.toList = zs.map (Value.int .u8) := hc
    apply Array.ext'
    rw [hc', keyA]
    simp only [List.map_map]
    refine List.map_congr_left fun z hz => ?_
    have := hb z hz
    simp [byt]
    omega
  · intro b hbm
    obtain ⟨z, hz, rfl⟩ := List.mem_map.1 hbm
    have := hb z hz
    omega
/-- the two tables -/
def laidSha : List (String × DataW Unit) := [("cablegram/sha.rounds", Rows.laid_cablegram_sha_rounds), ("cablegram/sha.start", Rows.laid_cablegram_sha_start)]
theorem gRounds : Tryd.prog.globalNamed "cablegram/sha.rounds" = some 1 := by kernel_rfl
theorem gStart : Tryd.prog.globalNamed "cablegram/sha.start" = some 0 := by kernel_rfl
theorem tRounds : (Tryd.prog.globals[1]?).map (·.type) = some 181 := by kernel_rfl
theorem tStart : (Tryd.prog.globals[0]?).map (·.type) = some 157 := by kernel_rfl
theorem rowRounds : (((begin Tryd.prog (fun _ _ => 0) default).world.heap[1]?).bind Obj.row?).map (·.2) = some 181 := by kernel_rfl
theorem rowStart : (((begin Tryd.prog (fun _ _ => 0) default).world.heap[0]?).bind Obj.row?).map (·.2) = some 157 := by kernel_rfl
theorem gsize : 1 < Tryd.prog.globals.size := of_decide_eq_true (by kernel_rfl)
theorem shaped_row {P : Program} {w : World} (h : w.ShapedOpen P) {g : Nat} {t : TypeId} (hg : g < P.globals.size) (hr : (((begin P (fun _ _ => 0) default).world.heap[g]?).bind Obj.row?).map (·.2) = some t) : ∃ cs, w.heap[g]? = some (.cells cs t (0, 0)) := by
  cases e : ((begin P (fun _ _ => 0) default).world.heap[g]?).bind Obj.row? with
  | none => rw [e] at hr; cases hr
  | some x =>
    rw [e] at hr
    obtain ⟨z, t'⟩ := x
    obtain rfl : t' = t := by simpa using hr
    obtain ⟨cs, h1, _⟩ := h.1 g z t' hg e
    exact ⟨cs, h1⟩
theorem var_row {P : Program} {w : World} {n : String} {g : Nat} {cs cs' : Array Value} {t : TypeId} (hg : P.globalNamed n = some g) (h : w.heap[g]? = some (.cells cs t (0, 0))) (hv : w.var? P n = some cs') : cs = cs' := by
  simp only [World.var?, hg, Option.bind_some, h] at hv
  exact Option.some.inj hv
theorem cells181 : Tryd.prog.cellsOf 181 = 64 := by kernel_rfl
theorem cells157 : Tryd.prog.cellsOf 157 = 8 := by kernel_rfl
theorem cells56 : Tryd.prog.cellsOf 56 = 1 := by kernel_rfl
theorem lits_inj {q : IntKind} : ∀ {zs ys : List Int}, (zs.map fun z => (DataW.lit (Lit.int q z) : DataW Unit)) = ys.map (fun z => DataW.lit (Lit.int q z)) → zs = ys
  | [], [], _ => rfl
  | [], _ :: _, h => by simp at h
  | _ :: _, [], h => by simp at h
  | z :: zs, y :: ys, h => by
    simp only [List.map_cons, List.cons.injEq, DataW.lit.injEq, Lit.int.injEq, true_and] at h
    rw [h.1, lits_inj h.2]
theorem rounds_datum : (Rows.laid_cablegram_sha_rounds : DataW Unit) = .agg ((kTab.map fun (n : Nat) => (n : Int)).map fun z => .lit (.int .u32 z)) := by kernel_rfl
def startL : List Int := [1779033703, 3144134277, 1013904242, 2773480762, 1359893119, 2600822924, 528734635, 1541459225]
theorem start_datum : (Rows.laid_cablegram_sha_start : DataW Unit) = .agg (startL.map fun z => .lit (.int .u32 z)) := by kernel_rfl
theorem start_stA : (startL.map (Value.int .u32)).toArray = stA startS := by kernel_rfl
theorem shas_of_laid {W : World} (hs : W.ShapedOpen Tryd.prog) (h : laidMetH Tryd.prog laidSha W) : Shas W := by
  rw [MakeChecks.laidMetH_plain _ _ _ (by kernel_rfl)] at h
  obtain ⟨ps, ⟨g0, t0, cs0, f0, p0, q0, hg0, ht0, hv0, hd0, ⟨g1, t1, cs1, f1, p1, q1, hg1, ht1, hv1, hd1, _, _⟩, _⟩, _, _⟩ := h
  obtain rfl := Option.some.inj (gRounds.symm.trans hg0)
  obtain rfl := Option.some.inj (gStart.symm.trans hg1)
  obtain rfl := Option.some.inj (tRounds.symm.trans ht0)
  obtain rfl := Option.some.inj (tStart.symm.trans ht1)
  obtain ⟨c0, r0⟩ := shaped_row hs gsize rowRounds
  obtain ⟨c1, r1⟩ := shaped_row hs (by have := gsize; omega) rowStart
  obtain rfl := var_row gRounds r0 hv0
  obtain rfl := var_row gStart r1 hv1
  obtain ⟨zs0, _, e0, x0, _⟩ := cells_ints Tryd.underlying181 Tryd.underlying56 cells56 cells181 hd0
  obtain ⟨zs1, _, e1, x1, _⟩ := cells_ints Tryd.underlying157 Tryd.underlying56 cells56 cells157 hd1
  injection x0 with x0 _
  injection x1 with x1 _
  rw [rounds_datum] at x0
  rw [start_datum] at x1
  injection x0 with x0
  injection x1 with x1
  have y0 := lits_inj x0
  have y1 := lits_inj x1
  refine ⟨?_, ?_⟩
  · show W.heap[0]? = _
    rw [r1, ← start_stA, y1, ← e1]
  · show W.heap[1]? = _
    rw [r0, tabK, show (kTab.map fun (n : Nat) => Value.int .u32 (n : Int)) = (kTab.map fun (n : Nat) => (n : Int)).map (Value.int .u32) from by rw [List.map_map]; rfl, y0, ← e0]
/-- a law's row over laid tables: what the walk is given -/
theorem returnsInHanded_laid {H : Type} {enc : TypeId × Value → H} {a : Assume} {C : Checked} {os : Os} {f : FuncId} {fn : Func} {s : ChangeSpec} {conds : List PathCond} {apart fresh handsOn again : Bool} {X : World → Array Value → Prop}
    (hX : ∀ (w w' : World) (args : Array Value), w.heap = w'.heap → X w args → X w' args)
    (own : ownKnob C.prog.godebug = none) (started : os.Started) (noInit : C.prog.inits.idxOf? f = none) (hfn : C.prog.funcs[f]? = some fn)
    (witness : ∃ (w : World) (tape : Tape) (i : Input), w.os = os ∧ (w.forCall tape i).Shaped C.prog ∧ i.vars = [] ∧ Input.okWide C.prog (w.forCall tape i) .any w.heap.size f i ∧
      ((s.pre enc C.prog fn conds apart (w.forCall tape i).memory i.args ∧ X (w.forCall tape i).memory i.args) ∧ sizedMet enc C.prog fn (OpenSpec.ofChange s) apart (w.forCall tape i).memory i.args) ∧ a.holds C.prog (lone (Frame.enter C.prog f i.args .normal) [] (w.forCall tape i)))
    (contract : ∀ (W : World) (base : Nat) (args : Array Value) (ds gs : List (DataW H)) (before : List MemPlace), W.ShapedOpen C.prog →
      (∀ (j : Nat) t v, fn.params[j]? = some t → args[j]? = some v → Value.okWide C.prog W .any base t v) →
      DataW.Whole enc C.prog fn.params.toList s.vars apart W args.toList ds gs before →
      conds.all (PathCond.test C.prog ⟨fn.params.toList, ds, s.plain.varTypes C.prog, gs⟩) = true →
      (DataW.weightsEach C.prog (fn.params.toList ++ s.plain.varTypes C.prog) (ds ++ gs)).all (· ≤ reachBytes) = true → X W args →
      a.holds C.prog (lone (Frame.enter C.prog f args .normal) [] W) →
      Calls C.prog f args W fun e W' => ∃ v, e = .returned v ∧ s.post enc C.prog fn apart fresh handsOn again W args v W') :
    ReturnsInHanded a C os f .any (fun w args => (s.pre enc C.prog fn conds apart w args ∧ X w args) ∧ sizedMet enc C.prog fn (OpenSpec.ofChange s) apart w args) (s.post enc C.prog fn apart fresh handsOn again) := by
  refine returnsInHanded_of_calls own started noInit witness ?_
  intro w tape i _ hsh _ hok hpre hholds
  obtain ⟨_, _, _, fn', hfn', _, _, _, _, hval⟩ := hok
  have e : fn' = fn := Option.some.inj (hfn'.symm.trans hfn)
  subst e
  obtain ⟨⟨⟨ds, gs, before, hw, hc⟩, hx⟩, hz⟩ := hpre
  have hw' := DataW.Whole.of_heap (w' := w.forCall tape i) (by rfl) hw
  refine (contract (w.forCall tape i) w.heap.size i.args ds gs before hsh hval hw' hc (hz.weights hw) (hX _ _ _ (by rfl) hx) hholds).mono fun e W' ⟨v, he, hp⟩ => ?_
  subst he
  exact ChangeSpec.post_blind hp
/-- the door's own heap meets the condition -/
theorem door_met (os : Os) (args : Array Value) : laidMetH Tryd.prog laidSha ((World.doorLaid Tryd.prog 400 os).forCall (fun _ _ => 0) ⟨#[], args, []⟩).memory :=
  laidMetH_of_parts3 (fuel := 8) (laidMet_of_run' 8 (by kernel_rfl) (by kernel_rfl)) (by kernel_rfl) (by kernel_rfl)
end Go.Proofs.YtejifhdkgfilgaaDoor
