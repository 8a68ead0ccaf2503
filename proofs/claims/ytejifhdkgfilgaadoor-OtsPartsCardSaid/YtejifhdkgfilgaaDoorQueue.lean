/- Plain words for memory: a slice of the call's own that may begin in the middle of its row (a queue): how it is read, cut, and appended to. -/
import Derived.Test.YtejifhdkgfilgaaDoorMem
import Derived.ArgAppend
import Derived.OwnWalk
namespace Go.Proofs.YtejifhdkgfilgaaDoor
open Go.RowKit

/-- the slice value v, of n elements of type E (size cells each), reads as the cells xs; its row is the call's own (blocks from base on), nothing of it is frozen -/
structure QRow (w : World) (base : Nat) (E : TypeId) (size : Nat) (v : Value) (n : Nat) (xs : List Value) : Prop where
  len : xs.length = n * size
  form : (v = .slice none 0 0 ∧ n = 0) ∨ ∃ g off cap cur, v = .slice (some ⟨g, off, none⟩) n cap ∧ base ≤ g ∧ w.heap[g]? = some (.cells cur E (0, 0)) ∧ n ≤ cap ∧ cap ≤ maxLen ∧
    off + cap * size ≤ cur.size ∧ ∀ j u, xs[j]? = some u → cur[off + j]? = some u

theorem heap_setCells_other (b : Nat) : ∀ (vs : List Value) (o : Nat) (w : World) (k : Nat), k ≠ b → (w.setCells b o vs).heap[k]? = w.heap[k]?
  | [], _, _, _, _ => rfl
  | v :: vs, o, w, k, h => by
    show ((w.setCell ⟨b, o, none⟩ v).setCells b (o + 1) vs).heap[k]? = _
    rw [heap_setCells_other b vs (o + 1) _ k h, Below.heap_setCell _ _ _ _ h]
theorem heap_setCells_size (b : Nat) : ∀ (vs : List Value) (o : Nat) (w : World), (w.setCells b o vs).heap.size = w.heap.size
  | [], _, _ => rfl
  | v :: vs, o, w => by
    show ((w.setCell ⟨b, o, none⟩ v).setCells b (o + 1) vs).heap.size = _
    rw [heap_setCells_size b vs (o + 1) _]; simp [World.setCell]
theorem setCells_os (b : Nat) : ∀ (vs : List Value) (o : Nat) (w : World), (w.setCells b o vs).os = w.os ∧ (w.setCells b o vs).tape = w.tape ∧ (w.setCells b o vs).output = w.output
  | [], _, _ => ⟨rfl, rfl, rfl⟩
  | v :: vs, o, w => setCells_os b vs (o + 1) (w.setCell ⟨b, o, none⟩ v)
theorem grownBy_setCells (b : Nat) (vs : List Value) (o : Nat) (w : World) : w.grownBy (w.setCells b o vs) (some b) :=
  ⟨(setCells_os b vs o w).1, (setCells_os b vs o w).2.1, (setCells_os b vs o w).2.2, by rw [heap_setCells_size]; exact Nat.le_refl _, fun k _ hne => heap_setCells_other b vs o w k (fun e => hne (by rw [e]))⟩
theorem heap_setCell_same (w : World) (b o : Nat) (v : Value) (cur : Array Value) (E : TypeId) (fz : Nat × Nat) (h : w.heap[b]? = some (.cells cur E fz)) :
    (w.setCell ⟨b, o, none⟩ v).heap[b]? = some (.cells (cur.setIfInBounds o v) E fz) := by
  simp [World.setCell, Array.getElem?_modify, h]
theorem heap_setCells (b : Nat) (E : TypeId) (fz : Nat × Nat) : ∀ (vs : List Value) (o : Nat) (w : World) (cur : Array Value), w.heap[b]? = some (.cells cur E fz) → o + vs.length ≤ cur.size →
    ∃ cur', (w.setCells b o vs).heap[b]? = some (.cells cur' E fz) ∧ cur'.size = cur.size ∧ (∀ i, i < o ∨ o + vs.length ≤ i → cur'[i]? = cur[i]?) ∧ ∀ j u, vs[j]? = some u → cur'[o + j]? = some u
  | [], o, w, cur, h, _ => ⟨cur, h, rfl, fun _ _ => rfl, fun j u hu => by simp at hu⟩
  | v :: vs, o, w, cur, h, hl => by
    simp only [List.length_cons] at hl
    obtain ⟨cur', h1, h2, h3, h4⟩ := heap_setCells b E fz vs (o + 1) (w.setCell ⟨b, o, none⟩ v) _ (heap_setCell_same w b o v cur E fz h) (by simp; omega)
    refine ⟨cur', h1, by simpa using h2, fun i hi => ?_, fun j u hu => ?_⟩
    · rw [h3 i (by simp only [List.length_cons] at hi; omega), Array.getElem?_setIfInBounds, if_neg (by simp only [List.length_cons] at hi; omega)]
    · cases j with
      | zero =>
        simp only [List.getElem?_cons_zero, Option.some.injEq] at hu
        subst hu
        rw [h3 (o + 0) (by omega), Nat.add_zero, Array.getElem?_setIfInBounds, if_pos rfl, if_pos (by omega)]
      | succ j =>
        have := h4 j u (by simpa using hu)
        rw [show o + (j + 1) = o + 1 + j from by omega]; exact this

section
variable {w w' : World} {base n size : Nat} {E : TypeId} {v : Value} {xs : List Value}
theorem QRow.nil_ : QRow w base E size (.slice none 0 0) 0 [] := ⟨by simp, .inl ⟨rfl, rfl⟩⟩
theorem QRow.of_own (h : w.ownsRow base E size v n xs) : QRow w base E size v n xs := by
  obtain ⟨h1, h2⟩ := h
  refine ⟨h1, ?_⟩
  rcases h2 with h2 | ⟨g, cap, cur, hv, hg, hh, hn, hm, hs, ht⟩
  · exact .inl h2
  · refine .inr ⟨g, 0, cap, cur, hv, hg, hh, hn, hm, by omega, fun j u hu => ?_⟩
    rw [← ht, List.getElem?_take] at hu
    split at hu
    · rw [Nat.zero_add]; simpa using hu
    · cases hu
theorem QRow.keep (h : QRow w base E size v n xs) (hk : ∀ g, v.ownBlock = some g → w'.heap[g]? = w.heap[g]?) : QRow w' base E size v n xs := by
  refine ⟨h.len, ?_⟩
  rcases h.form with h2 | ⟨g, off, cap, cur, hv, hg, hh, r⟩
  · exact .inl h2
  · exact .inr ⟨g, off, cap, cur, hv, hg, by rw [hk g (by rw [hv]; rfl)]; exact hh, r⟩
theorem QRow.lt (h : QRow w base E size v n xs) : ∀ g, v.ownBlock = some g → base ≤ g ∧ g < w.heap.size := by
  intro g hg
  rcases h.form with ⟨rfl, _⟩ | ⟨g', off, cap, cur, hv, hb, hh, r⟩
  · simp [Value.ownBlock] at hg
  · rw [hv] at hg
    simp [Value.ownBlock] at hg
    subst hg
    refine ⟨hb, ?_⟩
    rcases Nat.lt_or_ge g' w.heap.size with hlt | hge
    · exact hlt
    · rw [Array.getElem?_eq_none hge] at hh; cases hh
theorem QRow.grown {row : Option Nat} (h : QRow w base E size v n xs) (hg : w.grownBy w' row) (hne : ∀ g, v.ownBlock = some g → some g ≠ row) : QRow w' base E size v n xs :=
  h.keep fun g e => hg.block g (h.lt g e).2 (hne g e)
theorem QRow.alloc (h : QRow w base E size v n xs) (o : Obj) : QRow (w.alloc o) base E size v n xs :=
  h.keep fun g e => Below.heap_alloc w o g (h.lt g e).2
theorem QRow.drewN (h : QRow w base E size v n xs) (k : Nat) : QRow (w.drewN k) base E size v n xs := h.keep fun _ _ => rfl
theorem QRow.drew (h : QRow w base E size v n xs) : QRow w.drew base E size v n xs := h.keep fun _ _ => rfl
theorem QRow.setCell (h : QRow w base E size v n xs) {p : Addr} (hp : v.ownBlock ≠ some p.block) (u : Value) : QRow (w.setCell p u) base E size v n xs :=
  h.keep fun g e => Below.heap_setCell w p u g (fun e' => hp (by rw [e, e']))
theorem QRow.below {B : Nat} (h : QRow w base E size v n xs) (hb : Below B w w') (hB : ∀ g, v.ownBlock = some g → g < B) : QRow w' base E size v n xs :=
  h.keep fun g e => hb.block g (hB g e)
/-- an element of one cell -/
theorem QRow.get {k : Nat} (h : QRow w base E 1 v n xs) (hk : k < n) : ∃ g off cap u, v = .slice (some ⟨g, off, none⟩) n cap ∧ base ≤ g ∧ n ≤ cap ∧ xs[k]? = some u ∧ w.cell? ⟨g, off + k, none⟩ = some u := by
  have hl := h.len
  rcases h.form with ⟨_, e⟩ | ⟨g, off, cap, cur, hv, hb, hh, hn, _, _, hc⟩
  · omega
  · have hx : xs[k]? = some (xs[k]'(by omega)) := List.getElem?_eq_getElem _
    exact ⟨g, off, cap, _, hv, hb, hn, hx, by rw [cell_of_row w g (off + k) cur E (0, 0) hh]; exact hc k _ hx⟩
/-- 'v[1:]' -/
theorem QRow.tail {g off cap : Nat} {u : Value} (h : QRow w base E 1 (.slice (some ⟨g, off, none⟩) (n + 1) cap) (n + 1) (u :: xs)) :
    QRow w base E 1 (.slice (if cap = 1 then some ⟨g, off, none⟩ else some ⟨g, off + 1, none⟩) n (cap - 1)) n xs := by
  have hl := h.len
  simp only [List.length_cons] at hl
  refine ⟨by omega, ?_⟩
  rcases h.form with ⟨e, _⟩ | ⟨g', off', cap', cur, hv, hb, hh, hn, hm, ho, hc⟩
  · cases e
  · injection hv with e1 e2 e3
    injection e1 with e1
    injection e1 with e4 e5
    subst e3 e4 e5
    by_cases h1 : cap = 1
    · rw [if_pos h1]
      exact .inr ⟨g, off, cap - 1, cur, rfl, hb, hh, by omega, by omega, by omega, fun j u hu => by
        have : n = 0 := by omega
        have : xs.length = 0 := by omega
        rw [List.getElem?_eq_none (by omega)] at hu; cases hu⟩
    · rw [if_neg h1]
      exact .inr ⟨g, off + 1, cap - 1, cur, rfl, hb, hh, by omega, by omega, by omega, fun j u hu => by
        rw [show off + 1 + j = off + (j + 1) from by omega]; exact hc (j + 1) u (by simpa using hu)⟩
end

/-- one cell of the call's own, just laid -/
theorem new_cell (w : World) (v : Value) (E : TypeId) : ∀ j u, [v][j]? = some u → (w.alloc (.cells #[v] E)).drew.cell? ((⟨w.heap.size, 0, none⟩ : Addr).add j) = some u := by
  intro j u hu
  match j, hu with
  | 0, hu =>
    simp at hu
    subst hu
    exact (cell_of_row _ w.heap.size 0 _ _ _ (heap_alloc_new w _)).trans rfl
/-- append, for the walk: there is room, or a new row is made -/
theorem run_append_q {P : Program} (w : World) (t ty e : TypeId) (i : TypeInfo) (z : Value) (size bytes : Nat) (ht : P.underlying t = some (.slice e)) (hi : P.info? e = some i) (hz : i.zero = some z)
    (hsize : i.size = size) (hby : i.bytes = bytes) (hzs : z.cells.size = size) (hsz : 0 < size) (base n : Nat) (v : Value) (xs : List Value) (hq : QRow w base e size v n xs) (hbase : base ≤ w.heap.size)
    (ad : Addr) (m c : Nat) (news : List Value) (hl : news.length = m * size) (hnews : ∀ j u, news[j]? = some u → w.cell? (ad.add j) = some u) (h1 : ∀ u ∈ news, u.oneCell' = true) (hm : 0 < m)
    (h63 : n + m ≤ maxLen) (hbytes : (n + m) * bytes ≤ 140737488355328) :
    ∃ v' w', (Builtin.append_ #[t, t] ty #[v, .slice (some ad) m c]).run P w = .ok v' w' ∧ QRow w' base e size v' (n + m) (xs ++ news) ∧ w.grownBy w' v.ownBlock ∧
      (v'.ownBlock = v.ownBlock ∨ ∀ k, v'.ownBlock = some k → w.heap.size ≤ k) ∧ v'.ownBlock ≠ none := by
  have hgrow : ∀ (ao : Option Addr) (cap : Nat), v = .slice ao n cap → (ao = none → n = 0 ∧ cap = 0) → (∀ b, ao = some b → ∀ j u, xs[j]? = some u → w.cell? (b.add j) = some u) → cap < n + m →
      ∃ v' w', (Builtin.append_ #[t, t] ty #[v, .slice (some ad) m c]).run P w = .ok v' w' ∧ QRow w' base e size v' (n + m) (xs ++ news) ∧ w.grownBy w' v.ownBlock ∧
      (v'.ownBlock = v.ownBlock ∨ ∀ k, v'.ownBlock = some k → w.heap.size ≤ k) ∧ v'.ownBlock ≠ none := by
    intro ao cap hv hno hc hfull
    have main : ∃ v' w', (Builtin.append_ #[t, t] ty #[v, .slice (some ad) m c]).run P w = .ok v' w' ∧ w'.ownsRow w.heap.size e size v' (n + m) (xs ++ news) ∧ w.grownBy w' none := by
      subst hv
      cases ao with
      | some b => exact run_append_arg_grows (P := P) w t ty e i z size bytes ht hi hz hsize hby hzs hsz b n cap xs hq.len (hc b rfl) ad m c news hl hnews hfull h63 hbytes
      | none =>
        obtain ⟨rfl, rfl⟩ := hno rfl
        have hx : xs = [] := List.eq_nil_of_length_eq_zero (by have := hq.len; simpa using this)
        subst hx
        obtain ⟨v', w', hr, ho, hg, _⟩ := run_append_own (P := P) w w.heap.size t ty e i z size bytes ht hi hz hsize hby hzs hsz (.slice none 0 0) 0 [] (World.ownsRow_nil _ _ _ _) ad m c news hl hnews h1 h63 hbytes (Nat.le_refl _)
        exact ⟨v', w', hr, ho, hg⟩
    obtain ⟨v', w', hr, ho, hg⟩ := main
    obtain ⟨hlen, hf⟩ := ho
    refine ⟨v', w', hr, ?_, ⟨hg.os, hg.tape, hg.output, hg.size, fun k hk _ => hg.block k hk (by simp)⟩, ?_, ?_⟩
    · have := QRow.of_own ⟨hlen, hf⟩
      refine ⟨this.len, ?_⟩
      rcases this.form with h | ⟨g, off, cap', cur, hv', hb, r⟩
      · exact .inl h
      · exact .inr ⟨g, off, cap', cur, hv', by omega, r⟩
    · rcases hf with ⟨_, h0⟩ | ⟨g, cap', cur, hv', hb, hh, _⟩
      · omega
      · exact .inr fun k hk => by rw [hv'] at hk; simp [Value.ownBlock] at hk; omega
    · rcases hf with ⟨_, h0⟩ | ⟨g, cap', cur, hv', hb, hh, _⟩
      · omega
      · rw [hv']; simp [Value.ownBlock]
  rcases hq.form with ⟨hv, hn⟩ | ⟨g, off, cap, cur, hv, hb, hh, hnc, hmc, ho, hc⟩
  · exact hgrow none 0 (by rw [hv, hn]) (fun _ => ⟨hn, rfl⟩) (fun b e => by cases e) (by omega)
  · by_cases hr : n + m ≤ cap
    · have hcap : n * size + news.length ≤ cap * size := by
        rw [hl, ← Nat.add_mul]; exact Nat.mul_le_mul_right _ hr
      subst hsize
      have hrun := run_append_room_cells (P := P) w t ty e i ht hi g off n cap ad m c news hl hnews h1 hr
        (fun j hj => by rw [cell_of_row w g _ cur e (0, 0) hh, Array.getElem?_eq_getElem (by omega)]; rfl) (fun j hj => by simp [World.frozen?, hh])
      obtain ⟨cur', k1, k2, k3, k4⟩ := heap_setCells g e (0, 0) news (off + n * i.size) w cur hh (by omega)
      refine ⟨_, _, by rw [hv]; exact hrun, ⟨by rw [List.length_append, hq.len, hl, Nat.add_mul], .inr ⟨g, off, cap, cur', rfl, hb, k1, hr, hmc, by omega, fun j u hu => ?_⟩⟩, by rw [hv]; exact grownBy_setCells _ _ _ _, .inl (by rw [hv]; rfl), by simp [Value.ownBlock]⟩
      have hlx := hq.len
      rcases Nat.lt_or_ge j xs.length with hj | hj
      · rw [List.getElem?_append_left hj] at hu
        rw [k3 (off + j) (by omega)]; exact hc j u hu
      · rw [List.getElem?_append_right hj] at hu
        have := k4 (j - xs.length) u hu
        rw [← this]; congr 1; omega
    · exact hgrow (some ⟨g, off, none⟩) cap hv (fun e => by cases e) (fun b e j u hu => by cases e; rw [Addr.add_lit, cell_of_row w g _ cur _ (0, 0) hh]; exact hc j u hu) (by omega)

/-- the same, what comes out written out -/
theorem run_append_q' {P : Program} (w : World) (t ty e : TypeId) (i : TypeInfo) (z : Value) (size bytes : Nat) (ht : P.underlying t = some (.slice e)) (hi : P.info? e = some i) (hz : i.zero = some z)
    (hsize : i.size = size) (hby : i.bytes = bytes) (hzs : z.cells.size = size) (hsz : 0 < size) (base n : Nat) (v : Value) (xs : List Value) (hq : QRow w base e size v n xs) (hbase : base ≤ w.heap.size)
    (ad : Addr) (m c : Nat) (news : List Value) (hl : news.length = m * size) (hnews : ∀ j u, news[j]? = some u → w.cell? (ad.add j) = some u) (h1 : ∀ u ∈ news, u.oneCell' = true) (hm : 0 < m)
    (h63 : n + m ≤ maxLen) (hbytes : (n + m) * bytes ≤ 140737488355328) :
    ∃ g off cap w', (Builtin.append_ #[t, t] ty #[v, .slice (some ad) m c]).run P w = .ok (.slice (some ⟨g, off, none⟩) (n + m) cap) w' ∧ QRow w' base e size (.slice (some ⟨g, off, none⟩) (n + m) cap) (n + m) (xs ++ news) ∧
      w.grownBy w' v.ownBlock ∧ (v.ownBlock = some g ∨ w.heap.size ≤ g) := by
  obtain ⟨v', w', r0, r1, r2, r3, r4⟩ := run_append_q (P := P) w t ty e i z size bytes ht hi hz hsize hby hzs hsz base n v xs hq hbase ad m c news hl hnews h1 hm h63 hbytes
  rcases r1.form with ⟨_, e⟩ | ⟨g, off, cap, cur, hv, r⟩
  · omega
  · subst hv
    refine ⟨g, off, cap, w', r0, r1, r2, ?_⟩
    rcases r3 with h | h
    · exact .inl h.symm
    · exact .inr (h g rfl)
theorem wp_append_q {P : Program} (w : World) {o : Oper} {a : Act} {K : Act → World → Prop} {Q : Exit → Act → World → Prop}
    (s x : Operand) (t : TypeId) (hop : o.op = Op.call { callee := Callee.builtin Builtin.append, args := #[s, x], argTypes := #[t, t] })
    (e : TypeId) (i : TypeInfo) (z : Value) (size bytes : Nat) (h1 : P.underlying t = some (.slice e)) (h2 : P.info? e = some i) (h3 : i.zero = some z) (h4 : i.size = size) (h5 : i.bytes = bytes) (h6 : z.cells.size = size) (h7 : 0 < size)
    (base n : Nat) (v : Value) (xs : List Value) (hs : a.eval s = v) (hq : QRow w base e size v n xs) (hbase : base ≤ w.heap.size)
    (ad : Addr) (m c : Nat) (news : List Value) (hx : a.eval x = .slice (some ad) m c) (hn : news.length = m * size) (hc : ∀ j u, news[j]? = some u → w.cell? (ad.add j) = some u) (h1c : ∀ u ∈ news, u.oneCell' = true) (hm : 0 < m)
    (b1 : n + m ≤ maxLen) (b2 : (n + m) * bytes ≤ 140737488355328)
    (hK : ∀ g off cap w', QRow w' base e size (.slice (some ⟨g, off, none⟩) (n + m) cap) (n + m) (xs ++ news) → w.grownBy w' v.ownBlock → (v.ownBlock = some g ∨ w.heap.size ≤ g) → K (a.put o.dst (.slice (some ⟨g, off, none⟩) (n + m) cap)) w') :
    Oper.wp P o a w K Q := by
  obtain ⟨g, off, cap, w', hrun, r1, r2, r3⟩ := run_append_q' (P := P) w t o.type e i z size bytes h1 h2 h3 h4 h5 h6 h7 base n v xs hq hbase ad m c news hn hc h1c hm b1 b2
  unfold Oper.wp
  simp [execOp, hop, resolve, invoke, builtin, hs, hx, hrun, Result.andThen]
  exact hK g off cap w' r1 r2 r3
/-- in a plain list of operations -/
theorem wpList_append_q {P : Program} (w : World) {ops : Array Oper} {rest : List Oper} {o : Oper} {a : Act} {Q : Exit → Act → World → Prop}
    (hgd : o.guard = none) (s x : Operand) (t : TypeId) (hop : o.op = Op.call { callee := Callee.builtin Builtin.append, args := #[s, x], argTypes := #[t, t] })
    (e : TypeId) (i : TypeInfo) (z : Value) (size bytes : Nat) (h1 : P.underlying t = some (.slice e)) (h2 : P.info? e = some i) (h3 : i.zero = some z) (h4 : i.size = size) (h5 : i.bytes = bytes) (h6 : z.cells.size = size) (h7 : 0 < size)
    (base n : Nat) (v : Value) (xs : List Value) (hs : a.eval s = v) (hq : QRow w base e size v n xs) (hbase : base ≤ w.heap.size)
    (ad : Addr) (m c : Nat) (news : List Value) (hx : a.eval x = .slice (some ad) m c) (hn : news.length = m * size) (hc : ∀ j u, news[j]? = some u → w.cell? (ad.add j) = some u) (h1c : ∀ u ∈ news, u.oneCell' = true) (hm : 0 < m)
    (b1 : n + m ≤ maxLen) (b2 : (n + m) * bytes ≤ 140737488355328)
    (hK : ∀ g off cap w', QRow w' base e size (.slice (some ⟨g, off, none⟩) (n + m) cap) (n + m) (xs ++ news) → w.grownBy w' v.ownBlock → (v.ownBlock = some g ∨ w.heap.size ≤ g) → wpList P ops Q rest (a.put o.dst (.slice (some ⟨g, off, none⟩) (n + m) cap)) w') :
    wpList P ops Q (o :: rest) a w :=
  wpList_plain hgd fun _ hK' => wp_append_q w s x t hop e i z size bytes h1 h2 h3 h4 h5 h6 h7 base n v xs hs hq hbase ad m c news hx hn hc h1c hm b1 b2 fun g off cap w' r1 r2 r3 => hK' _ _ (hK g off cap w' r1 r2 r3)
/-- at a step of a region that draws its order -/
theorem step_append_q {P : Program} (w : World) {ops : Array Oper} {o : Oper} {a : Act} {K : Act → World → Prop} {Q : Exit → Act → World → Prop} {E : Prop}
    (hgd : o.guard = none) (s x : Operand) (t : TypeId) (hop : o.op = Op.call { callee := Callee.builtin Builtin.append, args := #[s, x], argTypes := #[t, t] })
    (e : TypeId) (i : TypeInfo) (z : Value) (size bytes : Nat) (h1 : P.underlying t = some (.slice e)) (h2 : P.info? e = some i) (h3 : i.zero = some z) (h4 : i.size = size) (h5 : i.bytes = bytes) (h6 : z.cells.size = size) (h7 : 0 < size)
    (base n : Nat) (v : Value) (xs : List Value) (hs : a.eval s = v) (hq : QRow w base e size v n xs) (hbase : base ≤ w.heap.size)
    (ad : Addr) (m c : Nat) (news : List Value) (hx : a.eval x = .slice (some ad) m c) (hn : news.length = m * size) (hc : ∀ j u, news[j]? = some u → w.cell? (ad.add j) = some u) (h1c : ∀ u ∈ news, u.oneCell' = true) (hm : 0 < m)
    (b1 : n + m ≤ maxLen) (b2 : (n + m) * bytes ≤ 140737488355328)
    (hK : ∀ g off cap w', QRow w' base e size (.slice (some ⟨g, off, none⟩) (n + m) cap) (n + m) (xs ++ news) → w.grownBy w' v.ownBlock → (v.ownBlock = some g ∨ w.heap.size ≤ g) → K (a.put o.dst (.slice (some ⟨g, off, none⟩) (n + m) cap)) w') :
    if Region.wanted o (yielded ops a.tmps) = true then Oper.wp P o a w K Q else E := by
  have hw : Region.wanted o (yielded ops a.tmps) = true := by simp [Region.wanted, hgd]
  rw [if_pos hw]
  exact wp_append_q w s x t hop e i z size bytes h1 h2 h3 h4 h5 h6 h7 base n v xs hs hq hbase ad m c news hx hn hc h1c hm b1 b2 hK
end Go.Proofs.YtejifhdkgfilgaaDoor
