/- The outbox's Add. -/
import Derived.Test.YtnkojlbceieinaaOutbox
import Derived.Maps.AppendAt
namespace Go.Proofs.Ytnkojlbceieinaa
open Go.RowKit
/-- append at a row of the call's own that begins where its block begins -/
theorem run_append_o {P : Program} (w : World) (t ty e : TypeId) (i : TypeInfo) (z : Value) (size bytes : Nat) (ht : P.underlying t = some (.slice e)) (hi : P.info? e = some i) (hz : i.zero = some z)
    (hsize : i.size = size) (hby : i.bytes = bytes) (hzs : z.cells.size = size) (hsz : 0 < size) (base n : Nat) (v : Value) (xs : List Value) (hq : w.ownsRow base e size v n xs) (hbase : base ≤ w.heap.size)
    (ad : Addr) (m c : Nat) (news : List Value) (hl : news.length = m * size) (hnews : ∀ j u, news[j]? = some u → w.cell? (ad.add j) = some u) (h1 : ∀ u ∈ news, u.oneCell' = true) (hm : 0 < m)
    (h63 : n + m ≤ maxLen) (hbytes : (n + m) * bytes ≤ 140737488355328) :
    ∃ g cap w', (Builtin.append_ #[t, t] ty #[v, .slice (some ad) m c]).run P w = .ok (.slice (some ⟨g, 0, none⟩) (n + m) cap) w' ∧ w'.ownsRow base e size (.slice (some ⟨g, 0, none⟩) (n + m) cap) (n + m) (xs ++ news) ∧
      w.grownBy w' v.ownBlock ∧ (v.ownBlock = some g ∨ w.heap.size = g) := by
  obtain ⟨v', w', r0, r1, r2, r3, r4⟩ := run_append_own_at (P := P) (w := w) base t ty e i z size bytes ht hi hz hsize hby hzs hsz v n xs hq ad m c news hl hnews h1 h63 hbytes hbase
  rcases r1.2 with ⟨_, e⟩ | ⟨g, cap, cur, hv, r⟩
  · omega
  · subst hv
    refine ⟨g, cap, w', r0, r1, r2, ?_⟩
    rcases r4 with h | h
    · exact .inl h.symm
    · simp [Value.ownBlock] at h
      exact .inr h.symm
theorem step_append_o {P : Program} (w : World) {ops : Array Oper} {o : Oper} {a : Act} {K : Act → World → Prop} {Q : Exit → Act → World → Prop} {E : Prop}
    (hgd : o.guard = none) (s x : Operand) (t : TypeId) (hop : o.op = Op.call { callee := Callee.builtin Builtin.append, args := #[s, x], argTypes := #[t, t] })
    (e : TypeId) (i : TypeInfo) (z : Value) (size bytes : Nat) (h1 : P.underlying t = some (.slice e)) (h2 : P.info? e = some i) (h3 : i.zero = some z) (h4 : i.size = size) (h5 : i.bytes = bytes) (h6 : z.cells.size = size) (h7 : 0 < size)
    (base n : Nat) (v : Value) (xs : List Value) (hs : a.eval s = v) (hq : w.ownsRow base e size v n xs) (hbase : base ≤ w.heap.size)
    (ad : Addr) (m c : Nat) (news : List Value) (hx : a.eval x = .slice (some ad) m c) (hn : news.length = m * size) (hc : ∀ j u, news[j]? = some u → w.cell? (ad.add j) = some u) (h1c : ∀ u ∈ news, u.oneCell' = true) (hm : 0 < m)
    (b1 : n + m ≤ maxLen) (b2 : (n + m) * bytes ≤ 140737488355328)
    (hK : ∀ g cap w', w'.ownsRow base e size (.slice (some ⟨g, 0, none⟩) (n + m) cap) (n + m) (xs ++ news) → w.grownBy w' v.ownBlock → (v.ownBlock = some g ∨ w.heap.size = g) → K (a.put o.dst (.slice (some ⟨g, 0, none⟩) (n + m) cap)) w') :
    if Region.wanted o (yielded ops a.tmps) = true then Oper.wp P o a w K Q else E := by
  have hw : Region.wanted o (yielded ops a.tmps) = true := by simp [Region.wanted, hgd]
  rw [if_pos hw]
  obtain ⟨g, cap, w', hrun, r1, r2, r3⟩ := run_append_o (P := P) w t o.type e i z size bytes h1 h2 h3 h4 h5 h6 h7 base n v xs hq hbase ad m c news hn hc h1c hm b1 b2
  unfold Oper.wp
  simp [execOp, hop, resolve, invoke, builtin, hs, hx, hrun, Result.andThen]
  exact hK g cap w' r1 r2 r3

/-- the entries as cells -/
def Ent.cells (e : Ent) : List Value := [.int .u32 e.i, .int .u64 e.d, .slice e.A e.n e.c]
def ecells : List Ent → List Value
  | [] => []
  | e :: L => e.cells ++ ecells L
theorem ecells_len : ∀ L, (ecells L).length = L.length * 3
  | [] => rfl
  | e :: L => by simp [ecells, Ent.cells, ecells_len L]; omega
theorem ecells_append : ∀ L M, ecells (L ++ M) = ecells L ++ ecells M
  | [], M => rfl
  | e :: L, M => by simp [ecells, ecells_append L M]
theorem ecells_get : ∀ (L : List Ent) (k : Nat) (e : Ent), L[k]? = some e → (ecells L)[k * 3]? = some (.int .u32 e.i) ∧ (ecells L)[k * 3 + 1]? = some (.int .u64 e.d) ∧ (ecells L)[k * 3 + 2]? = some (.slice e.A e.n e.c)
  | x :: L, 0, e, h => by simp at h; subst h; exact ⟨rfl, rfl, rfl⟩
  | x :: L, k + 1, e, h => by
    have := ecells_get L k e (by simpa using h)
    have h3 : ∀ j, (ecells (x :: L))[j + 3]? = (ecells L)[j]? := fun j => rfl
    rw [show (k + 1) * 3 = k * 3 + 3 from by omega, show k * 3 + 3 + 1 = k * 3 + 1 + 3 from by omega, show k * 3 + 3 + 2 = k * 3 + 2 + 3 from by omega, h3, h3, h3]
    exact this
theorem take_of_ecells {cur : Array Value} {L : List Ent} (hs : L.length * 3 ≤ cur.size) (h : ECells cur L) : cur.toList.take (L.length * 3) = ecells L := by
  apply List.ext_getElem?
  intro t
  rcases Nat.lt_or_ge t (L.length * 3) with ht | ht
  · rw [List.getElem?_take_of_lt ht, Array.getElem?_toList]
    have hk : t / 3 < L.length := by omega
    have hL : L[t / 3]? = some L[t / 3] := List.getElem?_eq_getElem hk
    obtain ⟨a0, a1, a2⟩ := h _ _ hL
    obtain ⟨b0, b1, b2⟩ := ecells_get L _ _ hL
    have : t = t / 3 * 3 ∨ t = t / 3 * 3 + 1 ∨ t = t / 3 * 3 + 2 := by omega
    rcases this with e | e | e
    · rw [e, a0, b0]
    · rw [e, a1, b1]
    · rw [e, a2, b2]
  · rw [List.getElem?_eq_none (by simp; omega), List.getElem?_eq_none (by rw [ecells_len]; omega)]
theorem ecells_of_take {cur : Array Value} {L : List Ent} (h : cur.toList.take (L.length * 3) = ecells L) : ECells cur L := by
  intro k e he
  have hk : k < L.length := by
    rcases Nat.lt_or_ge k L.length with h | h
    · exact h
    · rw [List.getElem?_eq_none h] at he; cases he
  have g := ecells_get L k e he
  rw [← h] at g
  rw [List.getElem?_take_of_lt (by omega), List.getElem?_take_of_lt (by omega), List.getElem?_take_of_lt (by omega)] at g
  simpa using g
theorem ERow.owns {w : World} {base : Nat} {v : Value} {L : List Ent} (h : ERow w base v L) : w.ownsRow base 60 3 v L.length (ecells L) := by
  rcases h with ⟨rfl, rfl⟩ | ⟨g, cap, cur, hv, hb, hh, hl, hm, hs, hc⟩
  · exact ⟨rfl, .inl ⟨rfl, rfl⟩⟩
  · exact ⟨ecells_len L, .inr ⟨g, cap, cur, hv, hb, hh, hl, hm, hs, take_of_ecells (by omega) hc⟩⟩
theorem ERow.of_owns {w : World} {base : Nat} {v : Value} {L : List Ent} (h : w.ownsRow base 60 3 v L.length (ecells L)) : ERow w base v L := by
  rcases h.2 with ⟨rfl, h0⟩ | ⟨g, cap, cur, hv, hb, hh, hl, hm, hs, hc⟩
  · exact .inl ⟨rfl, List.eq_nil_of_length_eq_zero h0⟩
  · exact .inr ⟨g, cap, cur, hv, hb, hh, hl, hm, hs, ecells_of_take hc⟩
theorem Add_full (w0 w : World) (base bx : Nat) (v : Value) (L : List Ent) (h : OBox w0 w base bx v L) (i now : Int) (A0 : Option Addr) (m c0 : Nat) (hf : L.length = 4) :
    Calls Try.prog 13 #[.pointer (some ⟨bx, 0, none⟩), .int .u32 i, .slice A0 m c0, .int .u64 now] w fun e w' => e = .returned (.int .i64 63) ∧ w = w' := by
  have hc := h.cell
  obtain ⟨A, c, rfl⟩ := h.row.form
  have hge : decide ((L.length : Int) ≥ 4) = true := by simp [hf]
  go_enter Try.func13, Try.ntmps13
  go_wp2
  go_ret
  exact ⟨rfl, rfl⟩
theorem Add_bad (w0 w : World) (base bx : Nat) (v : Value) (L : List Ent) (h : OBox w0 w base bx v L) (i now : Int) (A0 : Option Addr) (m c0 : Nat) (hf : L.length < 4) (x : Ent) (hx : L[L.length - 1]? = some x) (hi : i ≠ (x.i + 1) % 4294967296) :
    Calls Try.prog 13 #[.pointer (some ⟨bx, 0, none⟩), .int .u32 i, .slice A0 m c0, .int .u64 now] w fun e w' => e = .returned (.int .i64 1) ∧ w = w' := by
  have hc := h.cell
  rcases h.row with ⟨rfl, rfl⟩ | ⟨g, cap, cur, rfl, hgb, hg, hcap, hcm, hsz, hcc⟩
  · simp at hx
  have h0 : 0 < L.length := by cases L <;> simp_all
  have hge : decide ((L.length : Int) ≥ 4) = false := by simp; omega
  have hgt : decide ((L.length : Int) > 0) = true := by simp; omega
  have hxc := (hcc _ _ hx).1
  have hcell : w.cell? ⟨g, (L.length - 1) * 3, none⟩ = some (.int .u32 x.i) := by rw [cell_of_row w g _ _ _ _ hg]; exact hxc
  have hi' : (i != (x.i + 1) % 4294967296) = true := by simpa using hi
  go_enter Try.func13, Try.ntmps13
  go_wp2
  go_ret
  exact ⟨rfl, rfl⟩
theorem Try.info60 : (Try.prog.info? 60).map (fun i => (i.zero, i.size, i.bytes)) = some (some (.agg #[.int .u32 0, .int .u64 0, .slice none 0 0]), 3, 40) := by kernel_rfl
/-- what Add leaves, where it takes the entry -/
def AddLeft (w0 w : World) (base bx : Nat) (v : Value) (L : List Ent) (i now : Int) (m : Nat) (xs : List Nat) (e : Ending) (w' : World) : Prop :=
  e = .returned (.int .i64 0) ∧ w.heap.size ≤ w'.heap.size ∧ ∃ v' A1 c1, OBox w0 w' base bx v' (L ++ [⟨i, now, A1, m, c1, xs⟩]) ∧ (v'.ownBlock = v.ownBlock ∨ ∀ k, v'.ownBlock = some k → w.heap.size ≤ k) ∧
    ∀ k, k < w.heap.size → k ≠ bx → v.ownBlock ≠ some k → w'.heap[k]? = w.heap[k]?
theorem add_left {w0 w w1 w2 : World} {base bx : Nat} {v : Value} {L : List Ent} {i now : Int} {m g cap c1 : Nat} {A1 : Option Addr} {xs : List Nat} (h : OBox w0 w base bx v L) (hf : L.length < 4)
    (hm : m ≤ 140737488355328) (hi0 : 0 ≤ i) (hi1 : i ≤ 4294967295) (hd0 : 0 ≤ now) (hd1 : now ≤ 18446744073709551615) (hb : Below w.heap.size w w1) (hr : Rd w1 w1.heap.size A1 m (xs.map byt)) (hdis : ∀ a, A1 = some a → w.heap.size ≤ a.block ∧ Cells w1 5 a.block)
    (hq : w2.ownsRow base 60 3 (.slice (some ⟨g, 0, none⟩) (L.length + 1) cap) (L.length + 1) (ecells L ++ [.int .u32 i, .int .u64 now, .slice A1 m c1])) (o : Obj) (hgr : (w1.alloc o).grownBy w2 v.ownBlock) (hfr : v.ownBlock = some g ∨ (w1.alloc o).heap.size = g) :
    AddLeft w0 w base bx v L i now m xs (.returned (.int .i64 0)) (w2.setCell ⟨bx, 0, none⟩ (.slice (some ⟨g, 0, none⟩) (L.length + 1) cap)) := by
  have hs2 := hgr.size
  rw [World.size_alloc] at hs2 hfr
  have hs1 := hb.size
  have hold : ∀ k, k < w.heap.size → v.ownBlock ≠ some k → w2.heap[k]? = w.heap[k]? := fun k hk hne => by
    rw [hgr.block k (by rw [World.size_alloc]; omega) (fun e => hne e.symm), heap_alloc_old w1 _ (by omega), hb.block k hk]
  have hnx : v.ownBlock ≠ some bx := fun e => by have := (h.row.cells e).1.ne h.cellsx (by decide); exact this rfl
  have hx2 := hold bx h.lt hnx
  have h0 := h.base0
  have hbx := h.bxb
  have hbel : Below base w0 w2 := h.below.trans ⟨by rw [hgr.os]; exact hb.os, by rw [hgr.tape]; exact hb.tape, by rw [hgr.output]; exact hb.output, by omega, fun k hk => hold k (by omega) (fun e => by have := (h.row.cells e).2; omega)⟩
  have h5 : ∀ k, Cells w1 5 k → w2.heap[k]? = w1.heap[k]? := fun k hk => by
    rw [hgr.block k (by rw [World.size_alloc]; have := hk.lt; omega) (fun e => ?_), heap_alloc_old w1 _ hk.lt]
    have hg := (h.row.cells e.symm).1
    have : Cells w1 60 k := ⟨_, (hb.block k hg.lt).trans hg.choose_spec⟩
    exact hk.ne this (by decide) rfl
  have h5w : ∀ k, Cells w 5 k → w2.heap[k]? = w.heap[k]? := fun k hk => hold k hk.lt (fun e => hk.ne (h.row.cells e).1 (by decide) rfl)
  refine ⟨rfl, by simp [World.setCell]; omega, _, A1, c1, OBox.put hbel (by omega) hbx (hx2.trans h.box) ?_ ?_ (by simp; omega), ?_, ?_⟩
  · refine ERow.of_owns ?_
    rw [List.length_append, ecells_append]
    exact hq
  · intro e he
    rcases List.mem_append.1 he with he | he
    · exact (h.good e he).turn (by omega) h5w
    · simp at he
      subst he
      exact ⟨Own5.turn ⟨hr, fun _ a e => (hdis a e).2⟩ (by omega) h5, hm, hi0, hi1, hd0, hd1⟩
  · rcases hfr with e | e
    · exact .inl e.symm
    · exact .inr fun k hk => by simp [Value.ownBlock] at hk; omega
  · intro k hk hne hv
    rw [Below.heap_setCell _ _ _ _ hne]
    exact hold k hk hv
set_option maxHeartbeats 800000 in
theorem Add_ok (w0 w : World) (base bx : Nat) (v : Value) (L : List Ent) (h : OBox w0 w base bx v L) (i now : Int) (B : Nat) (A0 : Option Addr) (m c0 : Nat) (xs : List Nat) (hf : L.length < 4) (hm : m ≤ 140737488355328)
    (hi0 : 0 ≤ i) (hi1 : i ≤ 4294967295) (hd0 : 0 ≤ now) (hd1 : now ≤ 18446744073709551615) (hr : Rd w B A0 m (xs.map byt)) (hlast : ∀ x, L[L.length - 1]? = some x → i = (x.i + 1) % 4294967296) :
    Calls Try.prog 13 #[.pointer (some ⟨bx, 0, none⟩), .int .u32 i, .slice A0 m c0, .int .u64 now] w (AddLeft w0 w base bx v L i now m xs) := by
  have hc := h.cell
  have hlt := h.lt
  obtain ⟨i0, hi, hz0, hz1, hz2⟩ := info_parts Try.info60
  have hge : decide ((L.length : Int) ≥ 4) = false := by simp; omega
  have hx1 : ∀ u ∈ xs.map byt, u.oneCell' = true := by simp [byt, Value.oneCell']
  have ho := h.row.owns
  have hbase := h.base0
  have hold : ∀ w1 o w2, Below w.heap.size w w1 → (w1.alloc o).grownBy w2 v.ownBlock → w2.heap[bx]? = w.heap[bx]? := by
    intro w1 o w2 hb hgr
    have hs1 := hb.size
    have hnx : v.ownBlock ≠ some bx := fun e => by have := (h.row.cells e).1.ne h.cellsx (by decide); exact this rfl
    rw [hgr.block bx (by rw [World.size_alloc]; omega) (fun e => hnx e.symm), heap_alloc_old w1 _ (by omega), hb.block bx hlt]
  have hown1 : ∀ w1 o, Below w.heap.size w w1 → (w1.alloc o).ownsRow base 60 3 v L.length (ecells L) := by
    intro w1 o hb
    refine (h.row.keep fun g e => ?_).owns
    have hg := (h.row.cells e).1.lt
    have hs1 := hb.size
    rw [heap_alloc_old w1 _ (by omega), hb.block g hg]
  have hw : (L = [] ∧ ∃ A c, v = .slice A 0 c) ∨ ∃ (g cap : Nat) (x : Ent), v = .slice (some ⟨g, 0, none⟩) L.length cap ∧ g < w.heap.size ∧ 0 < L.length ∧ L.length ≤ cap ∧ w.cell? ⟨g, (L.length - 1) * 3, none⟩ = some (.int .u32 x.i) ∧ (i != (x.i + 1) % 4294967296) = false := by
    rcases h.row with ⟨rfl, rfl⟩ | ⟨g, cap, cur, rfl, hgb, hg, hcap, hcm, hsz, hcc⟩
    · exact .inl ⟨rfl, _, _, rfl⟩
    · rcases Nat.eq_zero_or_pos L.length with h0 | h0
      · obtain rfl := List.eq_nil_of_length_eq_zero h0
        exact .inl ⟨rfl, _, _, rfl⟩
      · have hx : L[L.length - 1]? = some L[L.length - 1] := List.getElem?_eq_getElem (by omega)
        refine .inr ⟨g, cap, L[L.length - 1], rfl, (h.row.cells (g := g) rfl).1.lt, h0, hcap, ?_, by have := hlast _ hx; simpa using this⟩
        rw [cell_of_row w g _ _ _ _ hg]; exact (hcc _ _ hx).1
  have HR := Lib.hid hr
  have HO := Lib.hid hown1
  have HH := Lib.hid hold
  have hfz := h.frozen 0
  have H := Lib.hid h
  clear h hlast hr hold hown1 ho
  rcases hw with ⟨rfl, A00, c00, rfl⟩ | ⟨g0, cap0, x, rfl, hg0, hpos, hcap0, hcell, hne⟩
  · have hgt : decide ((([] : List Ent).length : Int) > 0) = false := by simp
    go_enter Try.func13, Try.ntmps13
    go_wp2
    go_region_law
      (first
        | (go_simp; go_at_call 19; refine (clone_any _ B A0 m c0 _ hx1 hm HR.out.drew).mono ?_; rintro e w1 ⟨A1, c1, rfl, hr1, hf1, hb0⟩; have hb1 : Below w.heap.size w w1 := below_of_drew hb0; clear hb0; have HF := Lib.hid (And.intro hr1 hf1); clear hf1 hr1; have hc1 : w1.cell? ⟨bx, 0, none⟩ = some (.slice A00 0 c00) := (hb1.cell (p := ⟨bx, 0, none⟩) hlt).trans hc; have hal : ∀ o, (w1.alloc o).cell? ⟨bx, 0, none⟩ = some (.slice A00 0 c00) := fun o => by rw [World.cell?_alloc_lt w1 o _ (Nat.lt_of_lt_of_le hlt hb1.size)]; exact hc1)
        | (refine step_append_o _ rfl (.tmp 39) (.tmp 45) _ rfl 60 i0 (.agg #[.int .u32 0, .int .u64 0, .slice none 0 0]) 3 40 Try.underlying45 hi hz0 hz1 hz2 rfl (by decide) base _ _ _ rfl (HO.out _ _ hb1) (by have := hb1.size; rw [World.size_alloc]; omega) ⟨_, 0, none⟩ 1 1 [.int .u32 i, .int .u64 now, .slice A1 m c1] rfl rfl (World.news_of_block (heap_alloc_new _ _)) (by simp [Value.oneCell']) (by decide) (by unfold maxLen; omega) (by omega) ?_; intro g cap w2 hq' hgr hfr; have hk := HH.out _ _ _ hb1 hgr; have h1' : w2.cell? ⟨bx, 0, none⟩ = some (.slice A00 0 c00) := (World.cell?_of_block (w := w) (a := ⟨bx, 0, none⟩) hk).trans hc; have h2' : w2.frozen? ⟨bx, 0, none⟩ = false := (World.frozen?_of_block (w := w) (a := ⟨bx, 0, none⟩) hk).trans hfz; clear hk))
    all_goals
      go_wp2
      go_ret
      exact add_left H.out hf hm hi0 hi1 hd0 hd1 hb1 HF.out.1 HF.out.2 hq' _ hgr hfr
  · have hgt : decide ((L.length : Int) > 0) = true := by simp; omega
    go_enter Try.func13, Try.ntmps13
    go_wp2
    go_region_law
      (first
        | (go_simp; go_at_call 19; refine (clone_any _ B A0 m c0 _ hx1 hm HR.out.drew).mono ?_; rintro e w1 ⟨A1, c1, rfl, hr1, hf1, hb0⟩; have hb1 : Below w.heap.size w w1 := below_of_drew hb0; clear hb0; have HF := Lib.hid (And.intro hr1 hf1); clear hf1 hr1; have hc1 : w1.cell? ⟨bx, 0, none⟩ = some (.slice (some ⟨g0, 0, none⟩) L.length cap0) := (hb1.cell (p := ⟨bx, 0, none⟩) hlt).trans hc; have hal : ∀ o, (w1.alloc o).cell? ⟨bx, 0, none⟩ = some (.slice (some ⟨g0, 0, none⟩) L.length cap0) := fun o => by rw [World.cell?_alloc_lt w1 o _ (Nat.lt_of_lt_of_le hlt hb1.size)]; exact hc1)
        | (refine step_append_o _ rfl (.tmp 39) (.tmp 45) _ rfl 60 i0 (.agg #[.int .u32 0, .int .u64 0, .slice none 0 0]) 3 40 Try.underlying45 hi hz0 hz1 hz2 rfl (by decide) base _ _ _ rfl (HO.out _ _ hb1) (by have := hb1.size; rw [World.size_alloc]; omega) ⟨_, 0, none⟩ 1 1 [.int .u32 i, .int .u64 now, .slice A1 m c1] rfl rfl (World.news_of_block (heap_alloc_new _ _)) (by simp [Value.oneCell']) (by decide) (by unfold maxLen; omega) (by omega) ?_; intro g cap w2 hq' hgr hfr; have hk := HH.out _ _ _ hb1 hgr; have h1' : w2.cell? ⟨bx, 0, none⟩ = some (.slice (some ⟨g0, 0, none⟩) L.length cap0) := (World.cell?_of_block (w := w) (a := ⟨bx, 0, none⟩) hk).trans hc; have h2' : w2.frozen? ⟨bx, 0, none⟩ = false := (World.frozen?_of_block (w := w) (a := ⟨bx, 0, none⟩) hk).trans hfz; clear hk))
    all_goals
      go_wp2
      go_ret
      exact add_left H.out hf hm hi0 hi1 hd0 hd1 hb1 HF.out.1 HF.out.2 hq' _ hgr hfr
end Go.Proofs.Ytnkojlbceieinaa
