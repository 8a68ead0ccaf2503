/- The outbox's Due: a range over a function that walks the entries and marks those that are due. -/
import Derived.Test.YtnkojlbceieinaaAdd
import Derived.Test.YtnkojlbceieinaaRange
namespace Go.Proofs.Ytnkojlbceieinaa
open Go.RowKit Go.Shelf
/-- when an entry is due again -/
def later (now : Int) : Int := now + min 5 (18446744073709551615 - now)
def Ent.upd (now : Int) (e : Ent) : Ent := if e.d ≤ now then { e with d := later now } else e
def updTo (now : Int) (j : Nat) (L : List Ent) : List Ent := (L.take j).map (Ent.upd now) ++ L.drop j
def dueOf (now : Int) (L : List Ent) : List (List Nat) := (L.filter (fun e => decide (e.d ≤ now))).map (·.xs)
theorem updTo_len (now : Int) (j : Nat) (L : List Ent) : (updTo now j L).length = L.length := by simp [updTo]; omega
theorem updTo_zero (now : Int) (L : List Ent) : updTo now 0 L = L := by simp [updTo]
theorem updTo_all (now : Int) (L : List Ent) : updTo now L.length L = L.map (Ent.upd now) := by simp [updTo]
theorem updTo_at (now : Int) {j : Nat} {L : List Ent} (h : j < L.length) : (updTo now j L)[j]? = some L[j] := by
  have h1 : ((L.take j).map (Ent.upd now)).length = j := by simp; omega
  rw [updTo, List.getElem?_append_right (by omega), h1, Nat.sub_self, List.getElem?_drop, Nat.add_zero, List.getElem?_eq_getElem h]
theorem updTo_succ (now : Int) {j : Nat} {L : List Ent} (h : j < L.length) (k : Nat) : (updTo now (j + 1) L)[k]? = if k = j then some (Ent.upd now L[j]) else (updTo now j L)[k]? := by
  have h1 : ((L.take j).map (Ent.upd now)).length = j := by simp; omega
  have h2 : ((L.take (j + 1)).map (Ent.upd now)).length = j + 1 := by simp; omega
  rcases Nat.lt_trichotomy k j with hk | hk | hk
  · rw [if_neg (by omega), updTo, updTo, List.getElem?_append_left (by omega), List.getElem?_append_left (by omega)]
    simp [hk, show k < j + 1 from by omega]
  · subst hk
    rw [if_pos rfl, updTo, List.getElem?_append_left (by omega)]
    simp [h]
  · rw [if_neg (by omega), updTo, updTo, List.getElem?_append_right (by omega), List.getElem?_append_right (by omega), h1, h2, List.getElem?_drop, List.getElem?_drop]
    congr 1; omega
theorem updTo_skip (now : Int) {j : Nat} {L : List Ent} (h : j < L.length) (hd : ¬ L[j].d ≤ now) : updTo now (j + 1) L = updTo now j L := by
  apply List.ext_getElem?
  intro k
  rw [updTo_succ now h]
  split
  · subst_vars; rw [updTo_at now h, Ent.upd, if_neg hd]
  · rfl
theorem dueOf_succ (now : Int) {j : Nat} {L : List Ent} (h : j < L.length) : dueOf now (L.take (j + 1)) = dueOf now (L.take j) ++ (if L[j].d ≤ now then [L[j].xs] else []) := by
  rw [List.take_succ_eq_append_getElem h, dueOf, List.filter_append, List.map_append]
  congr 1
  by_cases hd : L[j].d ≤ now <;> simp [hd]

/-- blocks of cells lie as they lay -/
def KeepsCells (w w' : World) : Prop := ∀ (k : Nat) (E : TypeId), Cells w E k → w'.heap[k]? = w.heap[k]?
theorem OBox.turn {w0 w w' : World} {base bx : Nat} {v : Value} {L : List Ent} (h : OBox w0 w base bx v L) (hb : Below base w w') (hk : KeepsCells w w') : OBox w0 w' base bx v L :=
  ⟨h.below.trans hb, Nat.le_trans h.base0 hb.size, h.bxb, (hk bx _ h.cellsx).trans h.box, h.row.keep fun g e => hk g _ (h.row.cells e).1, fun e he => (h.good e he).turn hb.size fun k hc => hk k _ hc, h.small⟩
/-- where Due's loop is: j entries are over -/
structure DState (w0 w W : World) (base bx pb nb n2 ob : Nat) (v : Value) (now : Int) (L : List Ent) (j : Nat) : Prop where
  box : OBox w0 W base bx v (updTo now j L)
  H0 : base ≤ w.heap.size
  ptr : W.heap[pb]? = some (.cells #[.pointer (some ⟨bx, 0, none⟩)] 44 (0, 0))
  now1 : W.heap[nb]? = some (.cells #[.int .u64 now] 48 (0, 0))
  now2 : W.heap[n2]? = some (.cells #[.int .u64 now] 48 (0, 0))
  out : ∃ vo us, W.heap[ob]? = some (.cells #[vo] 26 (0, 0)) ∧ QRow W w.heap.size 30 1 vo us.length us ∧ SRows W (Cells W 5) us (dueOf now (L.take j))
  obb : w.heap.size ≤ ob
  size : w.heap.size ≤ W.heap.size
  old : ∀ k, k < w.heap.size → v.ownBlock ≠ some k → W.heap[k]? = w.heap[k]?
theorem DState.turn {w0 w W W' : World} {base bx pb nb n2 ob : Nat} {v : Value} {now : Int} {L : List Ent} {j : Nat} (h : DState w0 w W base bx pb nb n2 ob v now L j) (hb : Below w.heap.size W W') (hk : KeepsCells W W') :
    DState w0 w W' base bx pb nb n2 ob v now L j := by
  obtain ⟨vo, us, o1, o2, o3⟩ := h.out
  refine ⟨h.box.turn (hb.mono h.H0) hk, h.H0, (hk _ _ ⟨_, h.ptr⟩).trans h.ptr, (hk _ _ ⟨_, h.now1⟩).trans h.now1, (hk _ _ ⟨_, h.now2⟩).trans h.now2, ⟨vo, us, (hk _ _ ⟨_, o1⟩).trans o1, o2.keep fun g e => hk g _ (o2.cells e), o3.keep (fun k hc => hk k _ hc) (fun k hc => ?_) hb.size⟩, h.obb, Nat.le_trans h.size hb.size, fun k hk' hv => (hb.block k hk').trans (h.old k hk' hv)⟩
  obtain ⟨cs, hc⟩ := hc
  exact ⟨cs, (hk k _ ⟨cs, hc⟩).trans hc⟩
theorem KeepsCells.of_below {w w' : World} (h : Below w.heap.size w w') : KeepsCells w w' := fun k _ hc => h.block k hc.lt
theorem DState.keep {w0 w W W' : World} {base bx pb nb n2 ob : Nat} {v : Value} {now : Int} {L : List Ent} {j : Nat} (h : DState w0 w W base bx pb nb n2 ob v now L j) (hb : Below W.heap.size W W') :
    DState w0 w W' base bx pb nb n2 ob v now L j := h.turn (hb.mono h.size) (.of_below hb)
theorem DState.put {w0 w W : World} {base bx pb nb n2 ob : Nat} {v : Value} {now : Int} {L : List Ent} {j : Nat} (h : DState w0 w W base bx pb nb n2 ob v now L j) {l : Nat} {o o' : Obj} (hl : w.heap.size ≤ l) (ho : W.heap[l]? = some o) (hc : o.isCells = false) :
    DState w0 w (W.putObj l o') base bx pb nb n2 ob v now L j :=
  h.turn (putObj_below hl) (fun k E ⟨cs, hk⟩ => World.putObj_heap_other (fun e => by rw [e, ho] at hk; cases hk; simp [Obj.isCells] at hc))
theorem DState.skip {w0 w W : World} {base bx pb nb n2 ob : Nat} {v : Value} {now : Int} {L : List Ent} {j : Nat} (h : DState w0 w W base bx pb nb n2 ob v now L j) (hj : j < L.length) (hd : ¬ L[j].d ≤ now) :
    DState w0 w W base bx pb nb n2 ob v now L (j + 1) := by
  obtain ⟨vo, us, o1, o2, o3⟩ := h.out
  refine ⟨by rw [updTo_skip now hj hd]; exact h.box, h.H0, h.ptr, h.now1, h.now2, ⟨vo, us, o1, o2, ?_⟩, h.obb, h.size, h.old⟩
  rw [dueOf_succ now hj, if_neg hd, List.append_nil]; exact o3

set_option maxHeartbeats 400000 in
theorem due_iter (n : Nat) (hn : 3 ≤ n) (L : List Ent) (w0 w : World) (base bx pb nb n2 ob g cap : Nat) (A : Option Addr) (hA : 0 < L.length → A = some ⟨g, 0, none⟩) (now : Int) (l : Nat) (J' : Nat → World → Prop) (Jx' : World → Prop)
    (hJ : ∀ s W, J' s W → DState w0 w W base bx pb nb n2 ob (.slice A L.length cap) now L s)
    (hk : ∀ s s' W W', J' s W → Below W.heap.size W W' → DState w0 w W' base bx pb nb n2 ob (.slice A L.length cap) now L s' → J' s' W')
    (hY : ∀ s (x : Nat) s' W, (x = s ∧ s' = s + 1 ∧ ∃ h : s < L.length, L[s].d ≤ now) → J' s W → YieldAt Fence.wide (n - 1) Try.prog l #[.pointer (some ⟨g, x * 3, none⟩)] W fun e W' => (e = .returned (.bool true) ∧ J' s' W') ∨ (e = .returned (.bool false) ∧ Jx' W'))
    (W : World) (h0 : J' 0 W) : CallsIn Fence.wide n Try.prog 24 #[.func (.yield l) #[] #[], .pointer (some ⟨pb, 0, none⟩), .pointer (some ⟨n2, 0, none⟩)] W fun e W' => (∃ v, e = .returned v) ∧ ((∃ s, s = L.length ∧ J' s W') ∨ Jx' W') := by
  have hptr : ∀ s W, J' s W → W.cell? ⟨pb, 0, none⟩ = some (.pointer (some ⟨bx, 0, none⟩)) ∧ W.cell? ⟨n2, 0, none⟩ = some (.int .u64 now) ∧ W.cell? ⟨bx, 0, none⟩ = some (.slice A L.length cap) ∧ L.length ≤ 4 := by
    intro s W h
    have d := hJ s W h
    have hs := d.box.small
    rw [updTo_len] at hs
    exact ⟨by rw [cell_of_row W pb 0 _ _ _ d.ptr]; rfl, by rw [cell_of_row W n2 0 _ _ _ d.now2]; rfl, d.box.cell, hs⟩
  have hent : ∀ s W (hs : s < L.length), J' s W → W.cell? ⟨g, s * 3 + 1, none⟩ = some (.int .u64 L[s].d) := by
    intro s W hs h
    have d := hJ s W h
    rcases d.box.row with ⟨e, _⟩ | ⟨g', cap', cur, e, _, hg, hle, _, _, hc⟩
    · rw [hA (by omega)] at e; cases e
    · rw [updTo_len, hA (by omega)] at e
      injection e with e1 _ _
      injection e1 with e1
      injection e1 with e1
      subst e1
      rw [cell_of_row W g _ _ _ _ hg]
      exact (hc s _ (updTo_at now hs)).2.1
  refine callsIn_of_wp Try.func24 rfl trivial ?_ rfl
  simp only [Try.ntmps24, List.size_toArray, List.length_cons, List.length_nil, Nat.reduceAdd, Nat.reduceSub, Array.replicate_succ, Array.replicate_zero, List.push_toArray, List.append_toArray, List.nil_append, List.cons_append]
  obtain ⟨p1, p2, p3, p4⟩ := hptr 0 W h0
  have HJ := Lib.hid hJ
  have HK := Lib.hid hk
  have HY := Lib.hid hY
  have HP := Lib.hid hptr
  have HE := Lib.hid hent
  have H0 := Lib.hid h0
  clear hJ hk hY hptr hent h0
  gi_wp2
  gi_loopw [10] (fun i wr => ∃ j : Nat, j ≤ L.length ∧ i = .int .i64 j ∧ J' j wr) (fun i _ => L.length - (intOf i).toNat)
  case atStart => exact ⟨0, Nat.zero_le _, rfl, H0.out⟩
  case round =>
    clear H0 p1 p2 p3 p4
    obtain ⟨j, hj, rfl, hJs⟩ := hrel
    obtain ⟨p1, p2, p3, p4⟩ := HP.out j wr hJs
    have HS := Lib.hid hJs
    by_cases hlt : j < L.length
    · have hA' := hA (by omega)
      subst hA'
      have he := HE.out j wr hlt hJs
      by_cases hd : L[j].d ≤ now
      · have hdt : decide (L[j].d ≤ now) = true := by simpa using hd
        clear hJs
        have hdr : Below wr.heap.size wr wr.drew := below_drewN_ (Below.refl _ _) 1
        obtain ⟨fn, tmps, assign, body, hy, hR⟩ := HY.out j j (j + 1) wr.drew ⟨rfl, rfl, hlt, hd⟩ (HK.out j j wr _ HS.out hdr ((HJ.out j wr HS.out).keep hdr))
        gi_wp2
        gi_region_with (refine ⟨fun _ => by omega, ?_⟩; refine hR.mono ?_; rintro e W3 hh; obtain ⟨b, rfl, hb⟩ : ∃ b, e = .returned (.bool b) ∧ ((b = true ∧ J' (j + 1) W3) ∨ (b = false ∧ Jx' W3)) := by (rcases hh with ⟨h1, h2⟩ | ⟨h1, h2⟩; exact ⟨_, h1, .inl ⟨rfl, h2⟩⟩; exact ⟨_, h1, .inr ⟨rfl, h2⟩⟩))
        all_goals
          rcases hb with ⟨rfl, hJ3⟩ | ⟨rfl, hJx3⟩
          · gi_wp2
            go_roundw
            case rel => exact ⟨j + 1, by omega, by go_num, hJ3⟩
            case measure => simp [intOf]; omega
          · gi_wp2
            refine bodyPost_ret (results_none rfl _ _ _) rfl ?_
            exact ⟨⟨_, rfl⟩, .inr hJx3⟩
      · have hdt : decide (L[j].d ≤ now) = false := by simpa using hd
        have hsk : ∀ q, J' (j + 1) (wr.drewN q) := fun q => HK.out j (j + 1) wr _ HS.out (below_drewN_ (Below.refl _ _) q) (((HJ.out j wr HS.out).skip hlt hd).keep (below_drewN_ (Below.refl _ _) q))
        have HQ := Lib.hid hsk
        clear hJs hsk
        gi_wp2
        refine wpIn_region_quiet_lit rfl (by kernel_rfl) (by kernel_rfl) ?_
        repeat (gi_big_quiet_step (fail))
        refine BigFrame.wpQuietIn_skip (fun _ _ _ _ => trivial) rfl ?_
        simp only [Act.put, List.setIfInBounds_toArray, List.set_cons_succ, List.set_cons_zero]
        repeat (gi_big_quiet_step (fail))
        refine wpQuietIn_nil ?_
        rintro _ ⟨nq, rfl⟩
        gi_wp2
        go_roundw
        case rel => exact ⟨j + 1, by omega, by go_num, HQ.out _⟩
        case measure => simp [intOf]; omega
    · clear hJs
      gi_wp2
      go_end0
      obtain rfl : j = L.length := by omega
      exact ⟨⟨_, rfl⟩, .inl ⟨_, rfl, HS.out⟩⟩
/-- due hands back a function value that holds the box's address and the moment -/
theorem due_any (w : World) (bx : Nat) (now : Int) :
    Calls Try.prog 20 #[.pointer (some ⟨bx, 0, none⟩), .int .u64 now] w fun e w' => e = .returned (.func (.func 24) #[] #[.pointer (some ⟨w.heap.size, 0, none⟩), .pointer (some ⟨w.heap.size + 1, 0, none⟩)]) ∧
      (w.alloc (.cells #[.pointer (some ⟨bx, 0, none⟩)] 44)).alloc (.cells #[.int .u64 now] 48) = w' := by
  go_enter Try.func20, Try.ntmps20
  go_wp2
  go_ret
  exact ⟨rfl, rfl⟩
end Go.Proofs.Ytnkojlbceieinaa
