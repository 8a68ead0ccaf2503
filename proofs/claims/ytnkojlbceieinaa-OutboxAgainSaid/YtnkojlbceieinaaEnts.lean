/- The outbox's entries in memory. -/
import Derived.Test.YtnkojlbceieinaaBoxMap
import Derived.LoopTactic
namespace Go.Proofs.Ytnkojlbceieinaa
open Go.RowKit
/-- an entry as it lies in memory, and its bytes -/
structure Ent where
  i : Int
  d : Int
  A : Option Addr
  n : Nat
  c : Nat
  xs : List Nat
/-- the cells hold the entries -/
def ECells (cur : Array Value) (L : List Ent) : Prop :=
  ∀ (k : Nat) (e : Ent), L[k]? = some e → cur[k * 3]? = some (.int .u32 e.i) ∧ cur[k * 3 + 1]? = some (.int .u64 e.d) ∧ cur[k * 3 + 2]? = some (.slice e.A e.n e.c)
/-- the closure of Got -/
theorem gotf (w : World) (i d m : Int) (A : Option Addr) (n c b : Nat) (hb : w.cell? ⟨b, 0, none⟩ = some (.int .u32 m)) :
    Calls Try.prog 22 #[.agg #[.int .u32 i, .int .u64 d, .slice A n c], .pointer (some ⟨b, 0, none⟩)] w fun e w' => e = .returned (.bool (decide (i ≤ m))) ∧ w.alloc (.cells #[.int .u32 i, .int .u64 d, .slice A n c] 60) = w' := by
  have hlt : b < w.heap.size := World.block_lt_of_cell? w ⟨b, 0, none⟩ hb
  have hb' : ∀ o, (w.alloc o).cell? ⟨b, 0, none⟩ = some (.int .u32 m) := fun o => by rw [World.cell?_alloc_lt w o _ hlt]; exact hb
  go_enter Try.func22, Try.ntmps22
  go_wp2
  go_ret
  exact ⟨rfl, rfl⟩
/-- how many entries from the first one on are above m -/
def first (m : Int) : List Ent → Nat
  | [] => 0
  | e :: L => if e.i ≤ m then 0 else first m L + 1
theorem first_le (m : Int) : ∀ L, first m L ≤ L.length
  | [] => Nat.le_refl _
  | e :: L => by unfold first; split <;> simp [first_le m L]
theorem first_above (m : Int) : ∀ (L : List Ent) (k : Nat) (e : Ent), k < first m L → L[k]? = some e → m < e.i
  | x :: L, k, e, hk, he => by
    unfold first at hk
    split at hk
    · omega
    · cases k with
      | zero => simp at he; subst he; omega
      | succ k => exact first_above m L k e (by omega) (by simpa using he)
theorem first_at (m : Int) : ∀ (L : List Ent) (e : Ent), L[first m L]? = some e → e.i ≤ m
  | x :: L, e, he => by
    unfold first at he
    split at he
    · simp at he; subst he; assumption
    · exact first_at m L e (by simpa using he)
theorem first_stop (m : Int) : ∀ (L : List Ent) (k : Nat) (e : Ent), (∀ (j : Nat) (e' : Ent), j < k → L[j]? = some e' → m < e'.i) → L[k]? = some e → e.i ≤ m → first m L = k
  | x :: L, 0, e, _, he, h => by simp at he; subst he; simp [first, h]
  | x :: L, k + 1, e, ha, he, h => by
    have h0 := ha 0 x (by omega) rfl
    rw [first, if_neg (by omega), first_stop m L k e (fun j e' hj hje => ha (j + 1) e' (by omega) (by simpa using hje)) (by simpa using he) h]
theorem first_all (m : Int) : ∀ (L : List Ent), (∀ (j : Nat) (e' : Ent), L[j]? = some e' → m < e'.i) → first m L = L.length
  | [], _ => rfl
  | x :: L, ha => by
    have h0 := ha 0 x rfl
    rw [first, if_neg (by omega), first_all m L (fun j e' hje => ha (j + 1) e' (by simpa using hje))]; rfl
/-- what IndexFunc hands back -/
def idx (m : Int) (L : List Ent) : Int := if first m L < L.length then (first m L : Int) else -1
set_option maxHeartbeats 400000 in
theorem indexFunc (w : World) (g cap b : Nat) (m : Int) (cur : Array Value) (L : List Ent) (hL : L.length ≤ 9223372036854775) (hg : w.heap[g]? = some (.cells cur 60 (0, 0))) (hc : ECells cur L) (hb : w.cell? ⟨b, 0, none⟩ = some (.int .u32 m)) :
    Calls Try.prog 25 #[.slice (some ⟨g, 0, none⟩) L.length cap, .func (.func 22) #[] #[.pointer (some ⟨b, 0, none⟩)]] w fun e w' => e = .returned (.int .i64 (idx m L)) ∧ Below w.heap.size w w' := by
  go_enter Try.func25, Try.ntmps25
  go_wp2
  go_loopw [8] (fun i wr => ∃ k : Nat, k ≤ L.length ∧ i = .int .i64 k ∧ Below w.heap.size w wr ∧ (∀ (j : Nat) (e' : Ent), j < k → L[j]? = some e' → m < e'.i)) (fun i _ => L.length - (intOf i).toNat)
  case atStart => exact ⟨0, Nat.zero_le _, rfl, Below.refl _ _, fun j e' h => absurd h (by omega)⟩
  case round =>
    obtain ⟨k, hk, rfl, hbl, habove⟩ := hrel
    by_cases hlt : k < L.length
    · obtain ⟨e, he⟩ : ∃ e, L[k]? = some e := ⟨L[k], List.getElem?_eq_getElem hlt⟩
      obtain ⟨h1, h2, h3⟩ := hc k e he
      have hgr : wr.heap[g]? = some (.cells cur 60 (0, 0)) := (hbl.block g (by
        rcases Nat.lt_or_ge g w.heap.size with h | h
        · exact h
        · rw [Array.getElem?_eq_none h] at hg; cases hg)).trans hg
      have c1 : wr.cell? ⟨g, k * 3, none⟩ = some (.int .u32 e.i) := by rw [cell_of_row wr g _ _ _ _ hgr]; exact h1
      have c2 : wr.cell? ⟨g, k * 3 + 1, none⟩ = some (.int .u64 e.d) := by rw [cell_of_row wr g _ _ _ _ hgr]; exact h2
      have c3 : wr.cell? ⟨g, k * 3 + 2, none⟩ = some (.slice e.A e.n e.c) := by rw [cell_of_row wr g _ _ _ _ hgr]; exact h3
      have cb : wr.cell? ⟨b, 0, none⟩ = some (.int .u32 m) := (hbl.cell (p := ⟨b, 0, none⟩) (World.block_lt_of_cell? w ⟨b, 0, none⟩ hb)).trans hb
      have HA := Lib.hid (And.intro habove (And.intro hbl he))
      clear habove hbl hgr h1 h2 h3 hc hg
      by_cases him : e.i ≤ m
      · have hd : decide (e.i ≤ m) = true := by simpa using him
        go_wp2_with (go_at_call 22; refine (gotf _ e.i e.d m e.A e.n e.c b cb).mono ?_; rintro e1 w1 ⟨rfl, rfl⟩)
        go_ret
        obtain ⟨ha, hbl, he⟩ := HA.out
        have hf := first_stop m L k e ha he him
        exact ⟨by rw [idx, hf, if_pos hlt]; rfl, hbl.alloc hbl.size _⟩
      · have hd : decide (e.i ≤ m) = false := by simpa using him
        go_wp2_with (go_at_call 22; refine (gotf _ e.i e.d m e.A e.n e.c b cb).mono ?_; rintro e1 w1 ⟨rfl, rfl⟩)
        go_roundw
        case rel =>
          obtain ⟨ha, hbl, he⟩ := HA.out
          refine ⟨k + 1, by omega, by go_num, hbl.alloc hbl.size _, fun j e' hj hje => ?_⟩
          rcases Nat.lt_or_ge j k with h | h
          · exact ha j e' h hje
          · obtain rfl : j = k := by omega
            rw [he] at hje; cases hje; omega
        case measure => simp [intOf]; omega
    · have HA := Lib.hid (And.intro habove hbl)
      clear habove hbl hc hg
      go_wp2
      go_ret
      obtain ⟨ha, hbl⟩ := HA.out
      have hf := first_all m L (fun j e' hje => ha j e' (by have := (List.getElem?_eq_some_iff.1 hje).1; omega) hje)
      exact ⟨by rw [idx, hf, if_neg (Nat.lt_irrefl _)]; rfl, hbl⟩
end Go.Proofs.Ytnkojlbceieinaa
