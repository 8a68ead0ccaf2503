/- The outbox's Due as a whole. -/
import Derived.Test.YtnkojlbceieinaaDueStep
namespace Go.Proofs.Ytnkojlbceieinaa
open Go.RowKit Go.Shelf
attribute [local go_sem] Oper.semAt_some
attribute [-go_sem] Builtin.append_
/-- what Due leaves -/
def DueLeft (w0 w : World) (base bx : Nat) (v : Value) (now : Int) (L : List Ent) (e : Ending) (w' : World) : Prop :=
  ∃ (A : Option Addr) (n c : Nat) (us : List Value), e = .returned (.slice A n c) ∧ n = (dueOf now L).length ∧ Rd w' w'.heap.size A n us ∧ SRows w' (Cells w' 5) us (dueOf now L) ∧ (∀ a, A = some a → Cells w' 30 a.block) ∧
    OBox w0 w' base bx v (L.map (Ent.upd now)) ∧ w.heap.size ≤ w'.heap.size ∧ ∀ k, k < w.heap.size → v.ownBlock ≠ some k → w'.heap[k]? = w.heap[k]?
theorem due_left {w0 w W : World} {base bx pb nb n2 ob : Nat} {v vo : Value} {now : Int} {L : List Ent} (h : DState w0 w W base bx pb nb n2 ob v now L L.length) (ho : W.heap[ob]? = some (.cells #[vo] 26 (0, 0))) :
    DueLeft w0 w base bx v now L (.returned vo) W := by
  obtain ⟨vo', us, o1, o2, o3⟩ := h.out
  rw [ho] at o1
  obtain rfl : vo = vo' := by simpa using o1
  rw [List.take_length] at o3
  have hb := h.box
  rw [updTo_all] at hb
  have hlen := o2.len
  rcases o2.form with ⟨rfl, h0⟩ | ⟨g, off, cap, cur, hv, hg, hh, hle, hm, hs, hc⟩
  · obtain rfl := List.eq_nil_of_length_eq_zero h0
    exact ⟨none, 0, 0, [], rfl, o3.1, ⟨rfl, fun h => absurd h (by omega)⟩, o3, fun a e => (by cases e), hb, h.size, h.old⟩
  · subst hv
    refine ⟨_, us.length, cap, us, rfl, o3.1, ⟨rfl, fun _ => ⟨_, rfl, Cells.lt ⟨_, hh⟩, fun j u hu => ?_⟩⟩, o3, fun a e => (by cases e; exact ⟨_, hh⟩), hb, h.size, h.old⟩
    rw [Addr.add_lit, cell_of_row W g _ _ _ _ hh]; exact hc j u hu
set_option maxHeartbeats 1000000 in
theorem Due_any (w0 w : World) (base bx : Nat) (v : Value) (now : Int) (L : List Ent) (h : OBox w0 w base bx v L) (hn0 : 0 ≤ now) (hn1 : now ≤ 18446744073709551615) :
    Calls Try.prog 14 #[.pointer (some ⟨bx, 0, none⟩), .int .u64 now] w (DueLeft w0 w base bx v now L) := by
  obtain ⟨A, cap, rfl⟩ := h.row.form
  obtain ⟨g, hA⟩ : ∃ g, 0 < L.length → A = some ⟨g, 0, none⟩ := by
    rcases h.row with ⟨e, rfl⟩ | ⟨g, c, cur, e, _⟩
    · exact ⟨0, fun h => by simp at h⟩
    · injection e with e _ _; exact ⟨g, fun _ => e⟩
  obtain ⟨W4, hW4⟩ : ∃ W4, (((w.alloc (.cells #[.int .u64 now] 48)).alloc (.cells #[.slice none 0 0] 26)).alloc (.cells #[.pointer (some ⟨bx, 0, none⟩)] 44)).alloc (.cells #[.int .u64 now] 48) = W4 := ⟨_, rfl⟩
  have s4 : W4.heap.size = w.heap.size + 4 := by rw [← hW4]; simp
  have hD0 : DState w0 w W4 base bx (w.heap.size + 2) w.heap.size (w.heap.size + 3) (w.heap.size + 1) (.slice A L.length cap) now L 0 := by
    have hb : Below w.heap.size w W4 := by
      rw [← hW4]
      exact ((((Below.refl _ w).alloc (Nat.le_refl _) _).alloc (by simp) _).alloc (by simp; omega) _).alloc (by simp; omega) _
    refine ⟨by rw [updTo_zero]; exact h.keep hb, h.base0, ?_, ?_, ?_, ⟨.slice none 0 0, [], ?_, QRow.nil_, SRows.nil_⟩, by omega, hb.size, fun k hk _ => hb.block k hk⟩
    · rw [← hW4, heap_alloc_old _ _ (by simp only [World.size_alloc]; omega)]
      have := heap_alloc_new ((w.alloc (.cells #[.int .u64 now] 48)).alloc (.cells #[.slice none 0 0] 26)) (.cells #[.pointer (some ⟨bx, 0, none⟩)] 44)
      simpa only [World.size_alloc] using this
    · rw [← hW4, heap_alloc_old _ _ (by simp only [World.size_alloc]; omega), heap_alloc_old _ _ (by simp only [World.size_alloc]; omega), heap_alloc_old _ _ (by simp only [World.size_alloc]; omega)]
      exact heap_alloc_new w _
    · rw [← hW4]
      have := heap_alloc_new (((w.alloc (.cells #[.int .u64 now] 48)).alloc (.cells #[.slice none 0 0] 26)).alloc (.cells #[.pointer (some ⟨bx, 0, none⟩)] 44)) (.cells #[.int .u64 now] 48)
      simpa only [World.size_alloc] using this
    · rw [← hW4, heap_alloc_old _ _ (by simp only [World.size_alloc]; omega), heap_alloc_old _ _ (by simp only [World.size_alloc]; omega)]
      have := heap_alloc_new (w.alloc (.cells #[.int .u64 now] 48)) (.cells #[.slice none 0 0] 26)
      simpa only [World.size_alloc] using this
  refine (callsIn_wide (n := 9)).1 ?_
  refine callsIn_of_wp_marks Try.func14 rfl trivial ?_ rfl
  simp only [Try.ntmps14, List.size_toArray, List.length_cons, List.length_nil, Nat.reduceAdd, Nat.reduceSub, Array.replicate_succ, Array.replicate_zero, List.push_toArray, List.append_toArray, List.nil_append, List.cons_append]
  have H := Lib.hid h
  clear h
  gi_wp2_with (refine ⟨trivial, ?_⟩; gi_at_call 20; refine (callsIn_wide.2 (due_any _ _ _)).mono ?_; rintro e _ ⟨rfl, rfl⟩)
  simp only [Nat.add_assoc, Nat.reduceAdd]
  refine rangeFunc_state (α := Nat) (β := Nat) (gf := 24) (lb := #[.pointer (some ⟨w.heap.size + 2, 0, none⟩), .pointer (some ⟨w.heap.size + 3, 0, none⟩)]) rfl (enters_of Try.func24 (by kernel_rfl) rfl) (fun x => #[.pointer (some ⟨g, x * 3, none⟩)]) (fun _ => rfl)
    (fun j W => DState w0 w W base bx (w.heap.size + 2) w.heap.size (w.heap.size + 3) (w.heap.size + 1) (.slice A L.length cap) now L j) (fun _ _ => False) 0 (fun j => j = L.length) (fun s x s' => x = s ∧ s' = s + 1 ∧ ∃ h : s < L.length, L[s].d ≤ now)
    (fun x => { tmps := #[.pointer (some ⟨bx, 0, none⟩), .int .u64 now, undef, .pointer (some ⟨w.heap.size, 0, none⟩), .slice none 0 0, .pointer (some ⟨w.heap.size + 1, 0, none⟩), .pointer (some ⟨g, x * 3, none⟩), .pointer (some ⟨bx, 0, none⟩), .int .u64 now,
      .func (.func 24) #[] #[.pointer (some ⟨w.heap.size + 2, 0, none⟩), .pointer (some ⟨w.heap.size + 3, 0, none⟩)], .pointer (some ⟨g, x * 3, none⟩), undef, undef, undef, undef, undef, undef, undef, undef, undef, undef, undef, undef, undef, undef, undef, undef, undef], defers := [] })
    (fun s W l o o' hl ho hc hJ => hJ.put (by omega) ho hc) (fun _ _ _ _ _ _ _ _ h => h) (fun s W W' hb hJ => hJ.keep hb) hD0 ?iter ?assign ?body ?done ?stop
  case iter =>
    intro l J' Jx' h1 h2 h3 W h4
    exact due_iter _ (by decide) L w0 w base bx _ _ _ _ g cap A hA now l J' Jx' h1 h2 h3 W h4
  case assign =>
    intro l x W K hK
    gi_wp2
    exact hK
  case body =>
    rintro l s x s' W ⟨rfl, rfl, hlt, hd⟩ hJ
    obtain rfl := hA (by omega)
    obtain ⟨vo, us, o1, o2, o3⟩ := hJ.out
    have hul : us.length ≤ 4 := by
      have h1 := o3.1
      have h2 := hJ.box.small
      rw [updTo_len] at h2
      rw [h1, dueOf, List.length_map]
      exact Nat.le_trans (List.length_filter_le _ _) (by simp; omega)
    obtain ⟨i0, hi, hz0, hz1, hz2⟩ := info_parts Try.info30
    have hlo : w.heap.size + 1 < W.heap.size := Cells.lt ⟨_, o1⟩
    have hco : W.cell? ⟨w.heap.size + 1, 0, none⟩ = some vo := by rw [cell_of_row W _ 0 _ _ _ o1]; rfl
    have hfo : W.frozen? ⟨w.heap.size + 1, 0, none⟩ = false := by simp [World.frozen?, o1]
    obtain ⟨cur, hgW, hcur⟩ : ∃ cur, W.heap[g]? = some (.cells cur 60 (0, 0)) ∧ ECells cur (updTo now x L) := by
      rcases hJ.box.row with ⟨e, _⟩ | ⟨g', cap', cur, e, _, hg, hle, _, _, hc⟩
      · cases e
      · injection e with e1 _ _
        injection e1 with e1
        injection e1 with e1
        subst e1
        exact ⟨cur, hg, hc⟩
    have hlg : g < W.heap.size := Cells.lt ⟨_, hgW⟩
    obtain ⟨c0, c1, c2⟩ := hcur x _ (updTo_at now hlt)
    have hcb : W.cell? ⟨g, x * 3 + 2, none⟩ = some (.slice L[x].A L[x].n L[x].c) := by rw [cell_of_row W g _ _ _ _ hgW]; exact c2
    have hcd : W.cell? ⟨g, x * 3 + 1, none⟩ = some (.int .u64 L[x].d) := by rw [cell_of_row W g _ _ _ _ hgW]; exact c1
    have hfd : W.frozen? ⟨g, x * 3 + 1, none⟩ = false := by simp [World.frozen?, hgW]
    have hgo : g ≠ w.heap.size + 1 := Cells.ne ⟨_, hgW⟩ ⟨_, o1⟩ (by decide)
    have hgood := hJ.box.good L[x] (List.mem_of_getElem? (updTo_at now hlt))
    have hkeep2 : ∀ w1 o w2 k E, Below W.heap.size W w1 → (w1.alloc o).grownBy w2 vo.ownBlock → Cells W E k → E ≠ 30 → w2.heap[k]? = W.heap[k]? := by
      intro w1 o w2 k E hb1 hgr hk hE
      have hl := hk.lt
      have := hb1.size
      rw [hgr.block k (by rw [World.size_alloc]; omega) (fun e => ?_), heap_alloc_old w1 _ (by omega), hb1.block k hl]
      exact hk.ne (o2.cells e.symm) hE rfl
    have hnow1 := hJ.now1
    have hsz := hJ.size
    have HR := Lib.hid hgood.own.rd
    have hnn := hgood.n
    have HK := Lib.hid hkeep2
    have HJ := Lib.hid hJ
    have HO := Lib.hid (And.intro o1 (And.intro o2 (And.intro o3 (And.intro hgW hnow1))))
    clear hJ o1 o2 o3 hgW hcur c0 c1 c2 hgood hkeep2 hnow1
    have hx1 := byt_one L[x].xs
    gi_wp2
    gi_region_with (refine ⟨trivial, ?_⟩; gi_at_call 19; refine (CallsIn.inRound l (callsIn_wide.2 (clone_any _ _ _ _ _ _ hx1 hnn HR.out.drew))).mono ?_; rintro e w1 ⟨A1, c1, rfl, hr1, hf1, hb0⟩; have hb1 : Below W.heap.size W w1 := below_of_drew hb0; clear hb0; have HF := Lib.hid (And.intro hr1 hf1); clear hr1 hf1; have hc1 : w1.cell? ⟨w.heap.size + 1, 0, none⟩ = some vo := (hb1.cell (p := ⟨w.heap.size + 1, 0, none⟩) hlo).trans hco; have hal : ∀ o, (w1.alloc o).cell? ⟨w.heap.size + 1, 0, none⟩ = some vo := (fun o => by rw [World.cell?_alloc_lt w1 o _ (Nat.lt_of_lt_of_le hlo hb1.size)]; exact hc1); obtain ⟨g2, off2, cap2, w2, hap, hq', hgr, hfr⟩ := run_append_q' (P := Try.prog) (w1.alloc (.cells #[.slice A1 L[x].n c1] 30)) 26 26 30 i0 (.slice none 0 0) 1 24 Try.underlying26 hi hz0 hz1 hz2 rfl (by decide) w.heap.size us.length vo us ((HO.out.2.1.below hb1 (fun g e => (HO.out.2.1.lt g e).2)).alloc _) (by have := hb1.size; rw [World.size_alloc]; omega) ⟨w1.heap.size, 0, none⟩ 1 1 [.slice A1 L[x].n c1] rfl (World.news_of_block (heap_alloc_new _ _)) (by simp [Value.oneCell']) (by decide) (by unfold maxLen; omega) (by omega); have ho2 := HK.out _ _ _ _ 26 hb1 hgr ⟨_, HO.out.1⟩ (by decide); have hg2 := HK.out _ _ _ _ 60 hb1 hgr ⟨_, HO.out.2.2.2.1⟩ (by decide); have hn2 := HK.out _ _ _ _ 48 hb1 hgr ⟨_, HO.out.2.2.2.2⟩ (by decide); have hc2 : w2.cell? ⟨w.heap.size + 1, 0, none⟩ = some vo := (World.cell?_of_block (w := W) (a := ⟨w.heap.size + 1, 0, none⟩) ho2).trans hco; have hf2 : w2.frozen? ⟨w.heap.size + 1, 0, none⟩ = false := (World.frozen?_of_block (w := W) (a := ⟨w.heap.size + 1, 0, none⟩) ho2).trans hfo; have hd2 : w2.cell? ⟨g, x * 3 + 1, none⟩ = some (.int .u64 L[x].d) := (World.cell?_of_block (w := W) (a := ⟨g, x * 3 + 1, none⟩) hg2).trans hcd; have he2 : w2.frozen? ⟨g, x * 3 + 1, none⟩ = false := (World.frozen?_of_block (w := W) (a := ⟨g, x * 3 + 1, none⟩) hg2).trans hfd; have hm2 : w2.cell? ⟨w.heap.size, 0, none⟩ = some (.int .u64 now) := (by rw [cell_of_row w2 _ 0 _ _ _ (hn2.trans HO.out.2.2.2.2)]; rfl); have HG := Lib.hid (And.intro hq' hgr); clear hq' hgr hfr ho2 hg2 hn2)
    all_goals
      gi_wp2
      all_goals first
        | rw [show now + 5 = later now from by unfold later; omega]
        | rw [show now + (18446744073709551615 - now) = later now from by unfold later; omega]
      all_goals exact dstep (A := some ⟨g, 0, none⟩) (fun _ => rfl) HJ.out hlt hd hn0 hn1 HO.out.1 HO.out.2.1 HO.out.2.2.1 hb1 hnn HF.out.1 HF.out.2 HG.out.1 HG.out.2
  case done =>
    rintro D s W hD rfl hJ hK
    obtain ⟨vo, us, o1, o2, o3⟩ := hJ.out
    have hc : W.cell? ⟨w.heap.size + 1, 0, none⟩ = some vo := by rw [cell_of_row W (w.heap.size + 1) 0 _ _ _ o1]; rfl
    have HJ := Lib.hid hJ
    have H2 := Lib.hid (And.intro o1 o3)
    clear hJ o1 o2 o3
    gi_wp2
    refine ⟨by simp, .inl ⟨_, _, rfl, run_takeDeferred hK, ?_⟩⟩
    refine ⟨_, results_tmp rfl _ _ _, ?_⟩
    have hJ2 := HJ.out.put (o' := .deferred none) (by omega) hK rfl
    refine due_left hJ2 ?_
    have hne : w.heap.size + 1 ≠ D := fun e => by rw [← e, H2.out.1] at hK; cases hK
    rw [World.putObj_heap_other hne]
    exact H2.out.1
  case stop =>
    rintro D c W _ h _
    exact h.elim
end Go.Proofs.Ytnkojlbceieinaa
