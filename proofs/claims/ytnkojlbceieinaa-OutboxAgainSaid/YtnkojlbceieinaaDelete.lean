/- slices.DeleteFunc over the outbox's entries. -/
import Derived.Test.YtnkojlbceieinaaEnts
import Derived.Lib.SliceRun
namespace Go.Proofs.Ytnkojlbceieinaa
open Go.RowKit
/-- is above m -/
def abv (m : Int) (e : Ent) : Bool := decide (m < e.i)
/-- while the entries are gone through: i stay of the first j; the rest lies as it lay -/
structure Gone (m : Int) (L : List Ent) (i j : Nat) (cur cur' : Array Value) : Prop where
  le : j ≤ L.length
  num : i = ((L.take j).filter (abv m)).length
  less : i < j
  size : cur'.size = cur.size
  done : ECells cur' ((L.take j).filter (abv m))
  rest : ∀ (k : Nat) (e : Ent), j ≤ k → L[k]? = some e → cur'[k * 3]? = some (.int .u32 e.i) ∧ cur'[k * 3 + 1]? = some (.int .u64 e.d) ∧ cur'[k * 3 + 2]? = some (.slice e.A e.n e.c)
theorem take_filter_first (m : Int) (L : List Ent) (h : first m L < L.length) : (L.take (first m L + 1)).filter (abv m) = L.take (first m L) := by
  have hx : L[first m L]? = some (L[first m L]) := List.getElem?_eq_getElem h
  rw [List.take_succ_eq_append_getElem h, List.filter_append]
  have h1 : (L.take (first m L)).filter (abv m) = L.take (first m L) := by
    rw [List.filter_eq_self]
    intro e he
    obtain ⟨k, hk⟩ := List.mem_iff_getElem?.1 he
    rw [List.getElem?_take] at hk
    split at hk
    · have := first_above m L k e (by assumption) hk
      simp [abv, this]
    · cases hk
  have h2 : abv m L[first m L] = false := by
    have := first_at m L _ hx
    simp [abv]; omega
  rw [h1]; simp [h2]
theorem Gone.start {m : Int} {L : List Ent} {cur : Array Value} (h : first m L < L.length) (hc : ECells cur L) : Gone m L (first m L) (first m L + 1) cur cur := by
  refine ⟨h, ?_, by omega, rfl, ?_, fun k e _ he => hc k e he⟩
  · rw [take_filter_first m L h]; simp; omega
  · rw [take_filter_first m L h]
    intro k e he
    rw [List.getElem?_take] at he
    split at he
    · exact hc k e he
    · cases he
theorem Gone.drop {m : Int} {L : List Ent} {i j : Nat} {cur cur' : Array Value} {e : Ent} (h : Gone m L i j cur cur') (he : L[j]? = some e) (hm : e.i ≤ m) : Gone m L i (j + 1) cur cur' := by
  obtain ⟨hj, he'⟩ := List.getElem?_eq_some_iff.1 he
  have hf : (L.take (j + 1)).filter (abv m) = (L.take j).filter (abv m) := by
    rw [List.take_succ_eq_append_getElem hj, List.filter_append, he']
    have : abv m e = false := by simp [abv]; omega
    simp [this]
  exact ⟨hj, by rw [hf]; exact h.num, by have := h.less; omega, h.size, by rw [hf]; exact h.done, fun k e' hk => h.rest k e' (by omega)⟩
theorem Gone.keep {m : Int} {L : List Ent} {i j : Nat} {cur cur' : Array Value} {e : Ent} (h : Gone m L i j cur cur') (hs : L.length * 3 ≤ cur.size) (he : L[j]? = some e) (hm : m < e.i) :
    Gone m L (i + 1) (j + 1) cur (((cur'.setIfInBounds (i * 3) (.int .u32 e.i)).setIfInBounds (i * 3 + 1) (.int .u64 e.d)).setIfInBounds (i * 3 + 2) (.slice e.A e.n e.c)) := by
  obtain ⟨hj, he'⟩ := List.getElem?_eq_some_iff.1 he
  have hi := h.less
  have hsz := h.size
  have hf : (L.take (j + 1)).filter (abv m) = (L.take j).filter (abv m) ++ [e] := by
    rw [List.take_succ_eq_append_getElem hj, List.filter_append, he']
    have : abv m e = true := by simp [abv]; omega
    simp [this]
  have hget : ∀ q, ¬ (i * 3 ≤ q ∧ q < i * 3 + 3) → (((cur'.setIfInBounds (i * 3) (.int .u32 e.i)).setIfInBounds (i * 3 + 1) (.int .u64 e.d)).setIfInBounds (i * 3 + 2) (.slice e.A e.n e.c))[q]? = cur'[q]? := by
    intro q hq
    rw [Array.getElem?_setIfInBounds, if_neg (by omega), Array.getElem?_setIfInBounds, if_neg (by omega), Array.getElem?_setIfInBounds, if_neg (by omega)]
  refine ⟨hj, by rw [hf, List.length_append, ← h.num]; rfl, by omega, by simp [hsz], ?_, ?_⟩
  · rw [hf]
    intro k e1 hk
    rcases Nat.lt_trichotomy k i with h1 | h1 | h1
    · rw [List.getElem?_append_left (by rw [← h.num]; exact h1)] at hk
      obtain ⟨a, b, c⟩ := h.done k e1 hk
      exact ⟨by rw [hget _ (by omega)]; exact a, by rw [hget _ (by omega)]; exact b, by rw [hget _ (by omega)]; exact c⟩
    · subst h1
      rw [List.getElem?_append_right (by rw [← h.num]; exact Nat.le_refl _), ← h.num, Nat.sub_self] at hk
      simp at hk
      subst hk
      refine ⟨?_, ?_, ?_⟩
      · rw [Array.getElem?_setIfInBounds, if_neg (by omega), Array.getElem?_setIfInBounds, if_neg (by omega), Array.getElem?_setIfInBounds, if_pos rfl, if_pos (by omega)]
      · rw [Array.getElem?_setIfInBounds, if_neg (by omega), Array.getElem?_setIfInBounds, if_pos rfl, if_pos (by simp; omega)]
      · rw [Array.getElem?_setIfInBounds, if_pos rfl, if_pos (by simp; omega)]
    · rw [List.getElem?_eq_none (by rw [List.length_append, ← h.num]; simp; omega)] at hk; cases hk
  · intro k e1 hk hke
    obtain ⟨a, b, c⟩ := h.rest k e1 (by omega) hke
    exact ⟨by rw [hget _ (by omega)]; exact a, by rw [hget _ (by omega)]; exact b, by rw [hget _ (by omega)]; exact c⟩

theorem run_clear_rows {P : Program} (w : World) (t e ty : TypeId) (z : Value) (ht : P.underlying t = some (.slice e)) (hv : (zeroValue e).run P w = .ok z w) (g off n c : Nat) (hn : 0 < n)
    (hc : ∀ j, j < n * z.cells.size → (w.cell? ⟨g, off + j, none⟩).isSome = true) (hf : ∀ j, w.frozen? ⟨g, j, none⟩ = false) (h1 : ∀ v ∈ (Builtin.zeroCells z.cells n).toList, v.oneCell' = true) :
    (Builtin.clear_ #[t] ty #[.slice (some ⟨g, off, none⟩) n c]).run P w = .ok (.tuple #[]) (w.setCells g off (Builtin.zeroCells z.cells n).toList) := by
  have hst := run_storeCells_cells (P := P) g off (Builtin.zeroCells z.cells n).toList 0 w (fun j hj => by simpa using hc j (by simpa [size_zeroCells] using hj)) (fun j _ => hf _) h1
  simp only [Nat.add_zero] at hst
  obtain ⟨n', rfl⟩ : ∃ n', n = n' + 1 := ⟨n - 1, by omega⟩
  simp [Builtin.clear_, run_underlying ht, hv, hst]

theorem grownBy_refl_ (w : World) (r : Option Nat) : w.grownBy w r := ⟨rfl, rfl, rfl, Nat.le_refl _, fun _ _ _ => rfl⟩
theorem grownBy_trans_ {a b c : World} {r : Option Nat} (h : a.grownBy b r) (k : b.grownBy c r) : a.grownBy c r :=
  ⟨k.os.trans h.os, k.tape.trans h.tape, k.output.trans h.output, Nat.le_trans h.size k.size, fun i hi hne => (k.block i (Nat.lt_of_lt_of_le hi h.size) hne).trans (h.block i hi hne)⟩
theorem grownBy_below {a w w' : World} {r : Option Nat} (h : a.grownBy w r) (hb : Below w.heap.size w w') : a.grownBy w' r :=
  ⟨hb.os.trans h.os, hb.tape.trans h.tape, hb.output.trans h.output, Nat.le_trans h.size hb.size, fun i hi hne => (hb.block i (Nat.lt_of_lt_of_le hi h.size)).trans (h.block i hi hne)⟩
theorem grownBy_set {a w : World} {g : Nat} (h : a.grownBy w (some g)) (o : Nat) (u : Value) : a.grownBy (w.setCell ⟨g, o, none⟩ u) (some g) :=
  ⟨h.os, h.tape, h.output, by simpa [World.setCell] using h.size, fun i hi hne => (Below.heap_setCell w ⟨g, o, none⟩ u i (fun e => hne (by rw [e]))).trans (h.block i hi hne)⟩

/-- what DeleteFunc leaves -/
def DelLeft (w : World) (g cap : Nat) (m : Int) (cur : Array Value) (L : List Ent) (e : Ending) (w' : World) : Prop :=
  ∃ cur', e = .returned (.slice (some ⟨g, 0, none⟩) (L.filter (abv m)).length cap) ∧ w'.heap[g]? = some (.cells cur' 60 (0, 0)) ∧ cur'.size = cur.size ∧ ECells cur' (L.filter (abv m)) ∧ w.grownBy w' (some g)
set_option maxHeartbeats 1000000 in
theorem deleteFunc (w : World) (g cap b : Nat) (m : Int) (cur : Array Value) (L : List Ent) (hL : L.length ≤ 1000) (hcap : L.length ≤ cap) (hg : w.heap[g]? = some (.cells cur 60 (0, 0))) (hc : ECells cur L) (hsz : L.length * 3 ≤ cur.size)
    (hb : w.cell? ⟨b, 0, none⟩ = some (.int .u32 m)) (hbg : b ≠ g) :
    Calls Try.prog 21 #[.slice (some ⟨g, 0, none⟩) L.length cap, .func (.func 22) #[] #[.pointer (some ⟨b, 0, none⟩)]] w (DelLeft w g cap m cur L) := by
  have hIdx := indexFunc w g cap b m cur L (by omega) hg hc hb
  have HI := Lib.hid hIdx
  clear hIdx
  have hglt : g < w.heap.size := by
    rcases Nat.lt_or_ge g w.heap.size with h | h
    · exact h
    · rw [Array.getElem?_eq_none h] at hg; cases hg
  have hblt : b < w.heap.size := World.block_lt_of_cell? w ⟨b, 0, none⟩ hb
  by_cases hnone : first m L < L.length
  · have hn1 : (idx m L == -1) = false := by rw [idx, if_pos hnone]; simp
    have hix : idx m L = (first m L : Int) := by rw [idx, if_pos hnone]
    have G0 := Gone.start hnone hc
    obtain ⟨i0, hi0⟩ : ∃ i0, i0 = first m L := ⟨_, rfl⟩
    rw [← hi0] at hix G0
    rw [hix] at HI hn1
    have HG := Lib.hid (And.intro G0 (And.intro hg hsz))
    have hi0l : i0 < L.length := by omega
    clear hix G0 hc hg hsz hi0 hnone
    go_enter Try.func21, Try.ntmps21
    go_wp2_with (go_at_call 25; refine HI.out.mono ?_; rintro e w1 ⟨rfl, hb1⟩)
    go_loopw [5, 6] (fun vi vj wr => ∃ (i j : Nat) (cur' : Array Value), vi = .int .i64 i ∧ vj = .int .i64 j ∧ Gone m L i j cur cur' ∧ wr.heap[g]? = some (.cells cur' 60 (0, 0)) ∧ w.grownBy wr (some g)) (fun _ vj _ => L.length - (intOf vj).toNat)
    case atStart => exact ⟨i0, i0 + 1, cur, rfl, by go_num, HG.out.1, (hb1.block g hglt).trans HG.out.2.1, grownBy_below (grownBy_refl_ _ _) hb1⟩
    case round =>
      obtain ⟨i, j, cur', rfl, rfl, hG, hgr, hgw⟩ := hrel
      have hij := hG.less
      have hjL := hG.le
      by_cases hlt : j < L.length
      · obtain ⟨e, he⟩ : ∃ e, L[j]? = some e := ⟨L[j], List.getElem?_eq_getElem hlt⟩
        obtain ⟨h1, h2, h3⟩ := hG.rest j e (Nat.le_refl _) he
        have c1 : wr.cell? ⟨g, j * 3, none⟩ = some (.int .u32 e.i) := by rw [cell_of_row wr g _ _ _ _ hgr]; exact h1
        have c2 : wr.cell? ⟨g, j * 3 + 1, none⟩ = some (.int .u64 e.d) := by rw [cell_of_row wr g _ _ _ _ hgr]; exact h2
        have c3 : wr.cell? ⟨g, j * 3 + 2, none⟩ = some (.slice e.A e.n e.c) := by rw [cell_of_row wr g _ _ _ _ hgr]; exact h3
        have cb : wr.cell? ⟨b, 0, none⟩ = some (.int .u32 m) := (World.cell?_of_block (w := w) (a := ⟨b, 0, none⟩) (hgw.block b hblt (by simp [hbg]))).trans hb
        have hsz' : cur'.size = cur.size := hG.size
        have hszL := HG.out.2.2
        have hgl : g < wr.heap.size := Nat.lt_of_lt_of_le hglt hgw.size
        have hbl : b < wr.heap.size := Nat.lt_of_lt_of_le hblt hgw.size
        have fz : ∀ o, wr.frozen? ⟨g, o, none⟩ = false := fun o => by simp [World.frozen?, hgr]
        have d1 : wr.cell? ⟨g, i * 3, none⟩ = some (cur'[i * 3]'(by omega)) := by rw [cell_of_row wr g _ _ _ _ hgr]; exact Array.getElem?_eq_getElem _
        have d2 : wr.cell? ⟨g, i * 3 + 1, none⟩ = some (cur'[i * 3 + 1]'(by omega)) := by rw [cell_of_row wr g _ _ _ _ hgr]; exact Array.getElem?_eq_getElem _
        have d3 : wr.cell? ⟨g, i * 3 + 2, none⟩ = some (cur'[i * 3 + 2]'(by omega)) := by rw [cell_of_row wr g _ _ _ _ hgr]; exact Array.getElem?_eq_getElem _
        generalize cur'[i * 3]'_ = y1 at d1
        generalize cur'[i * 3 + 1]'_ = y2 at d2
        generalize cur'[i * 3 + 2]'_ = y3 at d3
        have HR := Lib.hid (And.intro hG (And.intro hgr (And.intro hgw he)))
        clear hG hgr hgw he h1 h2 h3 hsz' hszL
        by_cases hm : e.i ≤ m
        · have hd : decide (e.i ≤ m) = true := by simpa using hm
          go_wp2_with (go_at_call 22; go_must (refine (gotf _ e.i e.d m e.A e.n e.c b (by go_simp)).mono ?_); rintro e1 w2 ⟨rfl, rfl⟩)
          go_roundw
          case rel =>
            obtain ⟨hG, hgr, hgw, he⟩ := HR.out
            exact ⟨i, j + 1, cur', rfl, by go_num, hG.drop he hm, by rw [heap_alloc_old _ _ (by rw [World.size_alloc]; omega), heap_alloc_old _ _ hgl]; exact hgr,
              grownBy_below hgw (((Below.refl _ wr).alloc (Nat.le_refl _) _).alloc (by rw [World.size_alloc]; omega) _)⟩
          case measure => simp [intOf]; omega
        · have hd : decide (e.i ≤ m) = false := by simpa using hm
          go_wp2_with (go_at_call 22; go_must (refine (gotf _ e.i e.d m e.A e.n e.c b (by go_simp)).mono ?_); rintro e1 w2 ⟨rfl, rfl⟩)
          go_roundw
          case rel =>
            obtain ⟨hG, hgr, hgw, he⟩ := HR.out
            have hs3 : ∀ x1 x2 x3, (((wr.setCell ⟨g, i * 3, none⟩ x1).setCell ⟨g, i * 3 + 1, none⟩ x2).setCell ⟨g, i * 3 + 2, none⟩ x3).heap.size = wr.heap.size := fun _ _ _ => by simp [World.setCell]
            refine ⟨i + 1, j + 1, _, by go_num, by go_num, hG.keep HG.out.2.2 he (by omega), ?_, ?_⟩
            · rw [heap_alloc_old _ _ (by rw [World.size_alloc, hs3]; omega), heap_alloc_old _ _ (by rw [hs3]; omega)]
              exact heap_setCell_same _ _ _ _ _ _ _ (heap_setCell_same _ _ _ _ _ _ _ (heap_setCell_same _ _ _ _ _ _ _ hgr))
            · refine grownBy_below (grownBy_set (grownBy_set (grownBy_set hgw _ _) _ _) _ _) (((Below.refl _ _).alloc (Nat.le_refl _) _).alloc (by rw [World.size_alloc]; omega) _)
          case measure => simp [intOf]; omega
      · have hjn : j = L.length := by omega
        have hne : ¬ cap = i := by omega
        have hz : (zeroValue 60).run Try.prog wr = .ok (.agg #[.int .u32 0, .int .u64 0, .slice none 0 0]) wr := by kernel_rfl
        have hszL := HG.out.2.2
        have hsz' : cur'.size = cur.size := hG.size
        have fz : ∀ o, wr.frozen? ⟨g, o, none⟩ = false := fun o => by simp [World.frozen?, hgr]
        have hclr := fun ty => run_clear_rows (P := Try.prog) wr 45 60 ty _ Try.underlying45 hz g (i * 3) (L.length - i) (cap - i) (by omega)
          (fun q hq => by
            have hq' : q < (L.length - i) * 3 := hq
            have h3 : i * 3 + q < cur'.size := by omega
            rw [cell_of_row wr g _ _ _ _ hgr, Array.getElem?_eq_getElem h3]; rfl) fz (by
            intro v hv
            simp only [Builtin.zeroCells, Array.toList_map, List.mem_map] at hv
            obtain ⟨q, hq, rfl⟩ := hv
            have : q % 3 = 0 ∨ q % 3 = 1 ∨ q % 3 = 2 := by omega
            rcases this with h | h | h <;> simp [Value.cells, h, Value.oneCell'])
        have HR := Lib.hid (And.intro hG (And.intro hgr hgw))
        clear hG hgr hgw hz hsz' hszL fz
        obtain ⟨zs, hzs⟩ : ∃ zs, zs = (Builtin.zeroCells (Value.agg #[.int .u32 0, .int .u64 0, .slice none 0 0]).cells (L.length - i)).toList := ⟨_, rfl⟩
        rw [← hzs] at hclr
        have HZ := Lib.hid hzs
        clear hzs
        go_wp2_with fail
        go_ret
        obtain ⟨hG, hgr, hgw⟩ := HR.out
        have hszL := HG.out.2.2
        have hsz' : cur'.size = cur.size := hG.size
        have hzl : zs.length = (L.length - i) * 3 := by rw [HZ.out]; simp [size_zeroCells, Value.cells]
        have hfull : L.take j = L := List.take_of_length_le (by omega)
        have hnum := hG.num
        have hdone := hG.done
        rw [hfull] at hnum hdone
        obtain ⟨cur2, k1, k2, k3, k4⟩ := heap_setCells g 60 (0, 0) zs (i * 3) wr cur' hgr (by omega)
        refine ⟨cur2, by rw [← hnum]; rfl, k1, by omega, fun k e he => ?_, ?_⟩
        · have hk : k < i := by rw [hnum]; exact (List.getElem?_eq_some_iff.1 he).1
          obtain ⟨a, b, c⟩ := hdone k e he
          exact ⟨by rw [k3 _ (by omega)]; exact a, by rw [k3 _ (by omega)]; exact b, by rw [k3 _ (by omega)]; exact c⟩
        · exact grownBy_trans_ hgw (grownBy_setCells g zs (i * 3) wr)
  · have hn1 : (idx m L == -1) = true := by rw [idx, if_neg hnone]; rfl
    have hfl : L.filter (abv m) = L := by
      rw [List.filter_eq_self]
      intro e he
      obtain ⟨k, hk⟩ := List.mem_iff_getElem?.1 he
      have hkl := (List.getElem?_eq_some_iff.1 hk).1
      have := first_above m L k e (by have := first_le m L; omega) hk
      simp [abv, this]
    have HF := Lib.hid (And.intro hfl (And.intro hg hc))
    clear hfl hnone hg hc hsz
    go_enter Try.func21, Try.ntmps21
    go_wp2_with (go_at_call 25; refine HI.out.mono ?_; rintro e w1 ⟨rfl, hb1⟩)
    go_ret
    refine ⟨cur, by rw [HF.out.1]; rfl, ?_, rfl, by rw [HF.out.1]; exact HF.out.2.2, grownBy_below (grownBy_refl_ _ _) hb1⟩
    exact (hb1.block g (by
      have hg := HF.out.2.1
      rcases Nat.lt_or_ge g w.heap.size with h | h
      · exact h
      · rw [Array.getElem?_eq_none h] at hg; cases hg)).trans HF.out.2.1
end Go.Proofs.Ytnkojlbceieinaa
