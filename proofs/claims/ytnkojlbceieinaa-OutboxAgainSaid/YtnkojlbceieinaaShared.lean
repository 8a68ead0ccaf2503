/- What both laws call: whether two slices of bytes are alike; a copy of one. -/
import Derived.Test.YtnkojlbceieinaaRows
import Derived.Test.YtnkojlbceieinaaQueue
import Derived.Laws.AppendOwnNone
import Derived.Lib.SliceRun
namespace Go.Proofs.Ytnkojlbceieinaa
open Go.RowKit
theorem Same_len (w : World) (A1 A2 : Option Addr) (n1 c1 n2 c2 : Nat) (hne : n1 ≠ n2) :
    Calls Try.prog 9 #[.slice A1 n1 c1, .slice A2 n2 c2] w fun e w' => e = .returned (.bool false) ∧ w = w' := by
  have hx : ((n1 : Int) != (n2 : Int)) = true := by rw [bne_iff_ne]; omega
  go_enter Try.func9, Try.ntmps9
  go_wp2
  go_ret
  exact ⟨rfl, rfl⟩
set_option maxHeartbeats 400000 in
theorem Same_eq (w : World) (B1 B2 : Nat) (A1 A2 : Option Addr) (n c1 c2 : Nat) (xs ys : List Nat) (h1 : n ≤ 9223372036854775807)
    (R1 : Rd w B1 A1 n (xs.map byt)) (R2 : Rd w B2 A2 n (ys.map byt)) :
    Calls Try.prog 9 #[.slice A1 n c1, .slice A2 n c2] w fun e w' => e = .returned (.bool (decide (xs = ys))) ∧ ∃ q, w' = w.drewN q := by
  have hx : ((n : Int) != (n : Int)) = false := by simp
  have hl1 : xs.length = n := by simpa using R1.len
  have hl2 : ys.length = n := by simpa using R2.len
  have HL := And.intro hl1 hl2
  have HL' := Lib.hid HL
  clear hl1 hl2 HL
  go_enter Try.func9, Try.ntmps9
  go_wp2
  go_loopw [5] (fun i wr => ∃ k : Nat, k ≤ n ∧ i = .int .i64 k ∧ (∃ q, wr = w.drewN q) ∧ xs.take k = ys.take k) (fun i _ => n - (intOf i).toNat)
  case atStart => exact ⟨0, Nat.zero_le _, rfl, ⟨0, rfl⟩, rfl⟩
  case round =>
    obtain ⟨k, hk, rfl, ⟨q, rfl⟩, ht⟩ := hrel
    have HT := Lib.hid ht
    clear ht
    by_cases hlt : k < n
    · obtain ⟨a1, x, rfl, _, hx1, hc1⟩ := R1.byte hlt
      obtain ⟨a2, y, rfl, _, hy1, hc2⟩ := R2.byte hlt
      have HX := Lib.hid (And.intro hx1 hy1)
      clear hx1 hy1
      by_cases hxy : x = y
      · have hb : ((x : Int) != (y : Int)) = false := by simp [hxy]
        have HXY := Lib.hid hxy
        clear hxy
        go_wp2
        go_quiet (fail)
        go_wp2
        go_roundw
        case rel => exact ⟨k + 1, by omega, by go_num, ⟨_, rfl⟩, take_eq_succ HX.out.1 HX.out.2 HT.out HXY.out⟩
        case measure => simp [intOf]; omega
      · have hb : ((x : Int) != (y : Int)) = true := by rw [bne_iff_ne]; omega
        go_wp2
        go_quiet (fail)
        go_wp2
        go_ret
        refine ⟨?_, _, World.drewN_drewN _ _ _⟩
        have : xs ≠ ys := by
          intro e
          have := HX.out
          rw [e, this.2] at this
          exact hxy (by simpa using this.1.symm)
        simp [this]
    · go_wp2
      go_ret
      have : xs = ys := by
        have h := HT.out
        rw [List.take_of_length_le (by have := HL'.out.1; omega), List.take_of_length_le (by have := HL'.out.2; omega)] at h
        exact h
      exact ⟨by simp [this], q, rfl⟩
theorem Try.info5 : (Try.prog.info? 5).map (fun i => (i.zero, i.size, i.bytes)) = some (some (.int .u8 0), 1, 1) := by kernel_rfl
theorem clone_nil (w : World) (n c : Nat) : Calls Try.prog 19 #[.slice none n c] w fun e w' => e = .returned (.slice none 0 0) ∧ w = w' := by
  have hq : ∀ w, Sem.run Try.prog (binOp .eql 30 (.slice none n c) (.slice none 0 0)) w = .ok (.bool true) w := fun w => Lib.run_eql_slice_nil w 30 5 none n c 0 0 Try.underlying30
  go_enter Try.func19, Try.ntmps19
  go_wp2
  go_ret
  exact ⟨rfl, rfl⟩
theorem mk_own (w : World) (E : TypeId) : (w.alloc (.cells #[] E)).ownsRow w.heap.size E 1 (.slice (some ⟨w.heap.size, 0, none⟩) 0 0) 0 [] :=
  ⟨rfl, .inr ⟨w.heap.size, 0, #[], rfl, Nat.le_refl _, heap_alloc_new w _, Nat.le_refl _, by unfold maxLen; omega, rfl, rfl⟩⟩
theorem clone_some (w : World) (B : Nat) (a : Addr) (n c : Nat) (xs : List Value) (hx1 : ∀ u ∈ xs, u.oneCell' = true) (hn : n ≤ 140737488355328) (hr : Rd w B (some a) n xs) :
    Calls Try.prog 19 #[.slice (some a) n c] w fun e w' => ∃ v, e = .returned v ∧ w'.ownsRow w.heap.size 5 1 v n xs ∧ (∃ g c', v = .slice (some ⟨g, 0, none⟩) n c') ∧ Below w.heap.size w w' := by
  have hq : ∀ w, Sem.run Try.prog (binOp .eql 30 (.slice (some a) n c) (.slice none 0 0)) w = .ok (.bool false) w := fun w => Lib.run_eql_slice_nil w 30 5 (some a) n c 0 0 Try.underlying30
  have hcell : ∀ o, ∀ j u, xs[j]? = some u → (w.alloc o).cell? (a.add j) = some u := by
    intro o j u hu
    have hj : j < n := by rw [← hr.len]; exact (List.getElem?_eq_some_iff.1 hu).1
    obtain ⟨a', e, hb, hc⟩ := hr.at_ (by omega)
    injection e with e
    subst e
    have h1 := hc j u hu
    rw [World.cell?_alloc_lt w o _ (World.block_lt_of_cell? w _ h1)]
    exact h1
  have HC := Lib.hid hcell
  clear hcell
  obtain ⟨i0, hi, hz0, hz1, hz2⟩ := info_parts Try.info5
  go_enter Try.func19, Try.ntmps19
  go_wp2_with (at_builtin; go_must (refine wpList_append_own _ rfl _ _ 30 rfl w.heap.size 5 i0 (.int .u8 0) 1 1 Try.underlying30 hi hz0 hz1 hz2 rfl (by decide) _ 0 [] rfl (mk_own w 5) a n c xs rfl (by rw [hr.len]; omega) (HC.out _) hx1 (by unfold maxLen; omega) (by omega) (by simp) ?_); intro v' w1 hown' hgrow hnil)
  have ho : w1.ownsRow w.heap.size 5 1 v' n xs := by rw [Nat.zero_add, List.nil_append] at hown'; exact hown'
  have hv : v' ≠ .slice none 0 0 := fun e => by have := (hnil.1 e).1; simp [Act.eval] at this
  have hb : Below w.heap.size w w1 := ((Below.refl _ w).alloc (Nat.le_refl _) _).grown hgrow (by simp) (fun k e => by simp [Act.eval, Value.ownBlock] at e; omega)
  go_ret
  refine ⟨_, rfl, ho, ?_, hb⟩
  rcases ho.2 with ⟨e, _⟩ | ⟨g, c', cur, e, _⟩
  · exact absurd e hv
  · exact ⟨g, c', e⟩
/-- block k is a row of cells of type E, none frozen -/
def Cells (w : World) (E : TypeId) (k : Nat) : Prop := ∃ cs, w.heap[k]? = some (.cells cs E (0, 0))
theorem Cells.lt {w : World} {E : TypeId} {k : Nat} (h : Cells w E k) : k < w.heap.size := by
  obtain ⟨cs, h⟩ := h
  rcases Nat.lt_or_ge k w.heap.size with hlt | hge
  · exact hlt
  · rw [Array.getElem?_eq_none hge] at h; cases h
theorem Cells.ne {w : World} {E E' : TypeId} {k k' : Nat} (h : Cells w E k) (h' : Cells w E' k') (hne : E ≠ E') : k ≠ k' := by
  rintro rfl
  obtain ⟨cs, h⟩ := h
  obtain ⟨cs', h'⟩ := h'
  rw [h] at h'
  simp at h'
  exact hne h'.2
theorem cells_of_own {w : World} {base n : Nat} {E : TypeId} {g c : Nat} {xs : List Value} (h : w.ownsRow base E 1 (.slice (some ⟨g, 0, none⟩) n c) n xs) : Cells w E g := by
  rcases h.2 with ⟨e, _⟩ | ⟨g', cap, cur, hv, hg, hh, _⟩
  · cases e
  · injection hv with e1 e2 e3
    injection e1 with e1
    injection e1 with e4 e5
    subst e4
    exact ⟨cur, hh⟩
theorem QRow.cells {w : World} {base n size : Nat} {E : TypeId} {v : Value} {xs : List Value} (h : QRow w base E size v n xs) {g : Nat} (hg : v.ownBlock = some g) : Cells w E g := by
  rcases h.form with ⟨rfl, _⟩ | ⟨g', off, cap, cur, hv, hb, hh, r⟩
  · simp [Value.ownBlock] at hg
  · rw [hv] at hg
    simp [Value.ownBlock] at hg
    subst hg
    exact ⟨cur, hh⟩
/-- a copy of any slice of one-cell bytes -/
theorem clone_any (w : World) (B : Nat) (A : Option Addr) (n c : Nat) (xs : List Value) (hx1 : ∀ u ∈ xs, u.oneCell' = true) (hn : n ≤ 140737488355328) (hr : Rd w B A n xs) :
    Calls Try.prog 19 #[.slice A n c] w fun e w' => ∃ A' c', e = .returned (.slice A' n c') ∧ Rd w' w'.heap.size A' n xs ∧ (∀ a, A' = some a → w.heap.size ≤ a.block ∧ Cells w' 5 a.block) ∧ Below w.heap.size w w' := by
  cases A with
  | none =>
    have h0 : n = 0 := by
      rcases Nat.eq_zero_or_pos n with h | h
      · exact h
      · obtain ⟨a, e, _⟩ := hr.at_ h; cases e
    subst h0
    refine (clone_nil w 0 c).mono ?_
    rintro e w' ⟨rfl, rfl⟩
    exact ⟨none, 0, rfl, ⟨hr.len, fun h => absurd h (by omega)⟩, fun a e => (by cases e), Below.refl _ _⟩
  | some a =>
    refine (clone_some w B a n c xs hx1 hn hr).mono ?_
    rintro e w' ⟨v, rfl, ho, ⟨g, c', rfl⟩, hb⟩
    have hlt := (QRow.of_own ho).lt g rfl
    exact ⟨some ⟨g, 0, none⟩, c', rfl, ⟨hr.len, fun _ => ⟨_, rfl, hlt.2, ho.cells rfl⟩⟩, fun a e => (by cases e; exact ⟨hlt.1, cells_of_own ho⟩), hb⟩
end Go.Proofs.Ytnkojlbceieinaa
