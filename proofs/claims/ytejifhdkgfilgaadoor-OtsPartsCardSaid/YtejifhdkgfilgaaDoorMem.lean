/- Plain words for memory: a slice that reads as a list of cells, and how that is kept. -/
import Derived.WalkKit
import Derived.WalkSpells
import Derived.WalkLawsBesides
import Derived.Deep.Draws
import Derived.Deep.QuietTactic
import Derived.BigQuiet
import Derived.Lib.Hide
namespace Go.Proofs.YtejifhdkgfilgaaDoor
open Go.RowKit

/-- a byte as a cell -/
abbrev byt (b : Nat) : Value := .int .u8 (b : Int)

theorem add_zero_ (a : Addr) : a.add 0 = a := rfl
theorem add_block (a : Addr) (n : Nat) : (a.add n).block = a.block := by unfold Addr.add; split <;> rfl
theorem add_add_ (a : Addr) (i j : Nat) : (a.add i).add j = a.add (i + j) := by
  unfold Addr.add
  by_cases hi : i = 0 <;> by_cases hj : j = 0 <;> simp [hi, hj, Nat.add_assoc]

/-- the slice with address A and n elements (of one cell each) reads as xs; it lies below block B -/
structure Rd (w : World) (B : Nat) (A : Option Addr) (n : Nat) (xs : List Value) : Prop where
  len : xs.length = n
  at_ : 0 < n → ∃ a, A = some a ∧ a.block < B ∧ ∀ j u, xs[j]? = some u → w.cell? (a.add j) = some u

section
variable {w w' : World} {B B' n : Nat} {A : Option Addr} {xs : List Value}
theorem Rd.nil_ : Rd w B A 0 [] := ⟨rfl, fun h => absurd h (by omega)⟩
theorem Rd.get {k : Nat} (h : Rd w B A n xs) (hk : k < n) : ∃ a, A = some a ∧ a.block < B ∧ w.cell? (a.add k) = some (xs[k]'(by rw [h.len]; exact hk)) := by
  obtain ⟨a, e, hb, hc⟩ := h.at_ (by omega)
  exact ⟨a, e, hb, hc k _ (List.getElem?_eq_getElem _)⟩
theorem Rd.byte {xs : List Nat} {k : Nat} (h : Rd w B A n (xs.map byt)) (hk : k < n) : ∃ a x, A = some a ∧ a.block < B ∧ xs[k]? = some x ∧ w.cell? (a.add k) = some (.int .u8 (x : Int)) := by
  have hl : xs.length = n := by simpa using h.len
  obtain ⟨a, e, hb, hc⟩ := h.get hk
  exact ⟨a, xs[k], e, hb, List.getElem?_eq_getElem _, by simpa using hc⟩
theorem Rd.keep (h : Rd w B A n xs) (hk : ∀ p : Addr, p.block < B → w'.cell? p = w.cell? p) : Rd w' B A n xs :=
  ⟨h.len, fun hn => by
    obtain ⟨a, e, hb, hc⟩ := h.at_ hn
    exact ⟨a, e, hb, fun j u hu => (hk _ (by rw [add_block]; exact hb)).trans (hc j u hu)⟩⟩
theorem Rd.more (h : Rd w B A n xs) (hB : B ≤ B') : Rd w B' A n xs :=
  ⟨h.len, fun hn => by
    obtain ⟨a, e, hb, hc⟩ := h.at_ hn
    exact ⟨a, e, by omega, hc⟩⟩
theorem Rd.below {C : Nat} (h : Rd w B A n xs) (hb : Below C w w') (hBC : B ≤ C) : Rd w' B A n xs := h.keep fun p hp => hb.cell (p := p) (by omega)
theorem Rd.drew (h : Rd w B A n xs) : Rd w.drew B A n xs := ⟨h.len, h.at_⟩
theorem Rd.drewN (h : Rd w B A n xs) (k : Nat) : Rd (w.drewN k) B A n xs := ⟨h.len, h.at_⟩
end
theorem take_eq_succ {xs ys : List Nat} {k x y : Nat} (hx : xs[k]? = some x) (hy : ys[k]? = some y) (h : xs.take k = ys.take k) (e : x = y) : xs.take (k + 1) = ys.take (k + 1) := by
  subst e
  obtain ⟨h1, h1'⟩ := List.getElem?_eq_some_iff.1 hx
  obtain ⟨h2, h2'⟩ := List.getElem?_eq_some_iff.1 hy
  rw [List.take_succ_eq_append_getElem h1, List.take_succ_eq_append_getElem h2, h, h1', h2']
theorem below_drewN_ {B : Nat} {a w : World} (h : Below B a w) (n : Nat) : Below B a (w.drewN n) := ⟨h.os, h.tape, h.output, h.size, h.block⟩
theorem below_of_drew {B : Nat} {a w : World} (h : Below B a.drew w) : Below B a w := ⟨h.os, h.tape, h.output, h.size, h.block⟩
end Go.Proofs.YtejifhdkgfilgaaDoor
