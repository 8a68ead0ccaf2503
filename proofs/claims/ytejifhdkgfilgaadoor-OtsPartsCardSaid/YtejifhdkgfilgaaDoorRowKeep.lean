/- Arguments that read as they did; rows of four to six arguments. -/
import Derived.Test.YtejifhdkgfilgaaDoorRowLaid
import Derived.Carry
import Derived.SevenTiedAt
import Derived.OpenShut
import Derived.Stop.Joined
namespace Go.Proofs.YtejifhdkgfilgaaDoor
open Go.ChangeShapes Go.WideShapes Go.ChangeAt Go.RowKit Go.Deep
section
variable {H : Type} {enc : TypeId × Value → H} {P : Program} {W W' : World}
theorem below_trodAll (hl : laidOutB P = true) : ∀ {ts : List TypeId} {vs : List Value} {ds : List (DataW H)} {ps : List MemPlace},
    (ts.all fun t => P.readableRec t && decide (t < P.types.size)) = true → DataW.TrodAll enc P W 0 (fun _ => true) true ts vs ds ps → Below W.heap.size W W' → (∀ x ∈ ps, x.block < W.heap.size) →
    DataW.TrodAll enc P W' 0 (fun b => decide (b < W.heap.size)) true ts vs ds ps
  | [], vs, ds, ps, _, h, _, _ => by
    obtain ⟨rfl, rfl, rfl⟩ := trodAll_nil h
    exact trodAll_mk0
  | t :: ts, vs, ds, ps, hall, h, hb, hlt => by
    obtain ⟨v, vs', d, ds', p, q, rfl, rfl, rfl, hd, hr⟩ := trodAll_cons h
    simp only [List.all_cons, Bool.and_eq_true, decide_eq_true_eq] at hall
    exact ⟨p, q, Below.trod hl hall.1.1 hall.1.2 hd hb (fun x hx => hlt x (List.mem_append_left _ hx)), below_trodAll hl (by simpa using hall.2) hr hb (fun x hx => hlt x (List.mem_append_right _ hx)), rfl⟩
variable {base : Nat} {sp : Nat → Bool} {held : Bool}
theorem trodAll_four {t t1 t2 t3 : TypeId} {args : Array Value} {ds : List (DataW H)} {ps : List MemPlace} (h : DataW.TrodAll enc P W base sp held [t, t1, t2, t3] args.toList ds ps) :
    ∃ v v1 v2 v3 d d1 d2 d3 p p1 p2 p3, args = #[v, v1, v2, v3] ∧ ds = [d, d1, d2, d3] ∧ ps = p ++ (p1 ++ (p2 ++ p3)) ∧ DataW.Trod enc P W base sp held t v d p ∧ DataW.Trod enc P W base sp held t1 v1 d1 p1 ∧ DataW.Trod enc P W base sp held t2 v2 d2 p2 ∧ DataW.Trod enc P W base sp held t3 v3 d3 p3 := by
  obtain ⟨v, vs, d, ds', p, q, ha, rfl, rfl, hd, h1⟩ := trodAll_cons h
  obtain ⟨v1, vs1, d1, ds1, p1, q1, rfl, rfl, rfl, hd1, h2⟩ := trodAll_cons h1
  obtain ⟨v2, vs2, d2, ds2, p2, q2, rfl, rfl, rfl, hd2, h3⟩ := trodAll_cons h2
  obtain ⟨v3, vs3, d3, ds3, p3, q3, rfl, rfl, rfl, hd3, h4⟩ := trodAll_cons h3
  obtain ⟨rfl, rfl, rfl⟩ := trodAll_nil h4
  exact ⟨v, v1, v2, v3, d, d1, d2, d3, p, p1, p2, p3, by cases args; simp_all, rfl, by simp, hd, hd1, hd2, hd3⟩
theorem trodAll_six {t t1 t2 t3 t4 t5 : TypeId} {args : Array Value} {ds : List (DataW H)} {ps : List MemPlace} (h : DataW.TrodAll enc P W base sp held [t, t1, t2, t3, t4, t5] args.toList ds ps) :
    ∃ v v1 v2 v3 v4 v5 d d1 d2 d3 d4 d5 p p1 p2 p3 p4 p5, args = #[v, v1, v2, v3, v4, v5] ∧ ds = [d, d1, d2, d3, d4, d5] ∧ ps = p ++ (p1 ++ (p2 ++ (p3 ++ (p4 ++ p5)))) ∧ DataW.Trod enc P W base sp held t v d p ∧ DataW.Trod enc P W base sp held t1 v1 d1 p1 ∧ DataW.Trod enc P W base sp held t2 v2 d2 p2 ∧
      DataW.Trod enc P W base sp held t3 v3 d3 p3 ∧ DataW.Trod enc P W base sp held t4 v4 d4 p4 ∧ DataW.Trod enc P W base sp held t5 v5 d5 p5 := by
  obtain ⟨v, vs, d, ds', p, q, ha, rfl, rfl, hd, h1⟩ := trodAll_cons h
  obtain ⟨v1, vs1, d1, ds1, p1, q1, rfl, rfl, rfl, hd1, h2⟩ := trodAll_cons h1
  obtain ⟨v2, vs2, d2, ds2, p2, q2, rfl, rfl, rfl, hd2, h3⟩ := trodAll_cons h2
  obtain ⟨v3, vs3, d3, ds3, p3, q3, rfl, rfl, rfl, hd3, h4⟩ := trodAll_cons h3
  obtain ⟨v4, vs4, d4, ds4, p4, q4, rfl, rfl, rfl, hd4, h5⟩ := trodAll_cons h4
  obtain ⟨v5, vs5, d5, ds5, p5, q5, rfl, rfl, rfl, hd5, h6⟩ := trodAll_cons h5
  obtain ⟨rfl, rfl, rfl⟩ := trodAll_nil h6
  exact ⟨v, v1, v2, v3, v4, v5, d, d1, d2, d3, d4, d5, p, p1, p2, p3, p4, p5, by cases args; simp_all, rfl, by simp, hd, hd1, hd2, hd3, hd4, hd5⟩
end
end Go.Proofs.YtejifhdkgfilgaaDoor
