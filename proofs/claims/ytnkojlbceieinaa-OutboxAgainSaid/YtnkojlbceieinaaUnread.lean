/- The inbox's Unread; whether two lists of slices of bytes are alike. -/
import Derived.Test.YtnkojlbceieinaaBox

namespace Go.Proofs.Ytnkojlbceieinaa
open Go.RowKit

/-- slice values that read as lists of bytes, each in a block of S -/
def SRows (w : World) (S : Nat → Prop) (us : List Value) (L : List (List Nat)) : Prop :=
  us.length = L.length ∧ ∀ (k : Nat) (u : Value), us[k]? = some u → ∃ (A : Option Addr) (n c : Nat) (xs : List Nat), u = Value.slice A n c ∧ L[k]? = some xs ∧ n ≤ 140737488355328 ∧ Rd w w.heap.size A n (xs.map byt) ∧ (0 < n → ∀ a, A = some a → S a.block)
theorem rd_keep {w w' : World} {S : Nat → Prop} {A : Option Addr} {n : Nat} {xs : List Value} (h : Rd w w.heap.size A n xs) (hS : 0 < n → ∀ a, A = some a → S a.block) (hk : ∀ k, S k → w'.heap[k]? = w.heap[k]?) (hs : w.heap.size ≤ w'.heap.size) :
    Rd w' w'.heap.size A n xs :=
  ⟨h.len, fun hn => by
    obtain ⟨a, e, hb, hc⟩ := h.at_ hn
    exact ⟨a, e, by omega, fun j u hu => (World.cell?_of_block (w := w) (by rw [add_block]; exact hk _ (hS hn a e))).trans (hc j u hu)⟩⟩
theorem SRows.keep {w w' : World} {S S' : Nat → Prop} {us : List Value} {L : List (List Nat)} (h : SRows w S us L) (hk : ∀ k, S k → w'.heap[k]? = w.heap[k]?) (hS : ∀ k, S k → S' k) (hs : w.heap.size ≤ w'.heap.size) :
    SRows w' S' us L :=
  ⟨h.1, fun k u hu => by
    obtain ⟨A, n, c, xs, e, hx, hn, hr, ha⟩ := h.2 k u hu
    exact ⟨A, n, c, xs, e, hx, hn, rd_keep hr ha hk hs, fun h0 a e => hS _ (ha h0 a e)⟩⟩
theorem SRows.nil_ {w : World} {S : Nat → Prop} : SRows w S [] [] := ⟨rfl, fun k u hu => by simp at hu⟩
theorem SRows.snoc {w : World} {S : Nat → Prop} {us : List Value} {L : List (List Nat)} {A : Option Addr} {n c : Nat} {xs : List Nat} (h : SRows w S us L) (hn : n ≤ 140737488355328) (hr : Rd w w.heap.size A n (xs.map byt)) (hS : 0 < n → ∀ a, A = some a → S a.block) :
    SRows w S (us ++ [.slice A n c]) (L ++ [xs]) := by
  refine ⟨by simp [h.1], fun k u hu => ?_⟩
  rcases Nat.lt_trichotomy k us.length with hk | hk | hk
  · rw [List.getElem?_append_left hk] at hu
    obtain ⟨A', n', c', xs', e, hx, r⟩ := h.2 k u hu
    exact ⟨A', n', c', xs', e, by rw [List.getElem?_append_left (by rw [← h.1]; exact hk)]; exact hx, r⟩
  · subst hk
    rw [List.getElem?_append_right (Nat.le_refl _), Nat.sub_self] at hu
    simp at hu
    subst hu
    exact ⟨A, n, c, xs, rfl, by rw [h.1, List.getElem?_append_right (Nat.le_refl _), Nat.sub_self]; rfl, hn, hr, hS⟩
  · rw [List.getElem?_eq_none (by simp; omega)] at hu; cases hu
theorem SRows.tail {w : World} {S : Nat → Prop} {u : Value} {us : List Value} {x : List Nat} {L : List (List Nat)} (h : SRows w S (u :: us) (x :: L)) : SRows w S us L :=
  ⟨by have := h.1; simpa using this, fun k u hu => by
    have := h.2 (k + 1) u (by simpa using hu)
    simpa using this⟩

theorem byt_one (xs : List Nat) : ∀ u ∈ xs.map byt, u.oneCell' = true := by
  intro u hu
  obtain ⟨x, _, rfl⟩ := List.mem_map.1 hu
  rfl

set_option maxHeartbeats 400000 in
theorem Lists_eq (w : World) (B : Nat) (A1 A2 : Option Addr) (n c1 c2 : Nat) (us vs : List Value) (L M : List (List Nat)) (hn : n ≤ 9223372036854775807)
    (R1 : Rd w B A1 n us) (R2 : Rd w B A2 n vs) (S1 S2 : Nat → Prop) (U : SRows w S1 us L) (V : SRows w S2 vs M) (hLM : L = M) :
    Calls Try.prog 11 #[.slice A1 n c1, .slice A2 n c2] w fun e w' => e = .returned (.bool true) ∧ ∃ q, w' = w.drewN q := by
  have hx : ((n : Int) != (n : Int)) = false := by simp
  have HLM := Lib.hid hLM
  clear hLM
  go_enter Try.func11, Try.ntmps11
  go_wp2
  go_loopw [5] (fun i wr => ∃ k : Nat, k ≤ n ∧ i = .int .i64 k ∧ (∃ q, wr = w.drewN q)) (fun i _ => n - (intOf i).toNat)
  case atStart => exact ⟨0, Nat.zero_le _, rfl, ⟨0, rfl⟩⟩
  case round =>
    obtain ⟨k, hk, rfl, ⟨q, rfl⟩⟩ := hrel
    by_cases hlt : k < n
    · obtain ⟨a1, rfl, _, hc1⟩ := R1.get hlt
      obtain ⟨a2, rfl, _, hc2⟩ := R2.get hlt
      obtain ⟨b1, m1, d1, xs, e1, hxs, hm1, r1, _⟩ := U.2 k _ (List.getElem?_eq_getElem (by rw [R1.len]; exact hlt))
      obtain ⟨b2, m2, d2, ys, e2, hys, hm2, r2, _⟩ := V.2 k _ (List.getElem?_eq_getElem (by rw [R2.len]; exact hlt))
      rw [e1] at hc1
      rw [e2] at hc2
      have hxy : xs = ys := by rw [HLM.out, hys] at hxs; exact (Option.some.inj hxs).symm
      subst hxy
      have hmm : m1 = m2 := by have := r1.len; have := r2.len; omega
      subst hmm
      obtain ⟨W, hW⟩ : ∃ W, W = w.drewN q := ⟨_, rfl⟩
      have cS := fun q' => (Same_eq (W.drewN q') _ _ b1 b2 m1 d1 d2 xs xs (by omega) (by rw [hW]; exact (r1.drewN q).drewN q') (by rw [hW]; exact (r2.drewN q).drewN q')).mono (R' := fun e w' => e = .returned (.bool true) ∧ ∃ m, w' = (W.drewN q').drewN m) (fun e w' ⟨h1, h2⟩ => ⟨by simpa using h1, h2⟩)
      have CS := Lib.hid cS
      have hc1' : W.cell? (a1.add k) = some (.slice b1 m1 d1) := by rw [hW]; exact hc1
      have hc2' : W.cell? (a2.add k) = some (.slice b2 m1 d2) := by rw [hW]; exact hc2
      rw [← hW]
      have HW := Lib.hid hW
      clear cS e1 e2 hxs hys r1 r2 hc1 hc2 hW
      go_wp2
      go_quiet ((go_at_call 9; exact Calls.quiet_of (CS.out _)))
      go_wp2
      go_roundw
      case rel => exact ⟨k + 1, by omega, by go_num, ⟨_, by rw [HW.out, World.drewN_drewN]⟩⟩
      case measure => simp [intOf]; omega
    · go_wp2
      go_ret
      exact ⟨rfl, q, rfl⟩
/-- one more copy at the end of a list of one's own -/
theorem rows_step {wr w1 w2 : World} {base k m1 c1 : Nat} {v : Value} {vs : List Value} {L : List (List Nat)} {A1 : Option Addr} {xs : List Nat} (hq : QRow wr base 30 1 v k vs)
    (hs : SRows wr (Cells wr 5) vs L) (hb1 : Below wr.heap.size wr w1) (hm : m1 ≤ 140737488355328) (hr : Rd w1 w1.heap.size A1 m1 (xs.map byt)) (hf : ∀ a, A1 = some a → wr.heap.size ≤ a.block ∧ Cells w1 5 a.block)
    (hgr : (w1.alloc (.cells #[.slice A1 m1 c1] 30)).grownBy w2 v.ownBlock) :
    SRows w2 (Cells w2 5) (vs ++ [.slice A1 m1 c1]) (L ++ [xs]) ∧ ∀ B, B ≤ base → base ≤ wr.heap.size → Below B wr w2 := by
  have hs1 := hb1.size
  have hs2 := hgr.size
  rw [World.size_alloc] at hs2
  have hv : ∀ g, v.ownBlock = some g → g < wr.heap.size := fun g e => (hq.lt g e).2
  have h5 : ∀ k, Cells w1 5 k → w2.heap[k]? = w1.heap[k]? := fun k hk => by
    have hl := hk.lt
    rw [hgr.block k (by rw [World.size_alloc]; omega) (fun e => ?_), heap_alloc_old w1 _ hl]
    have hg := hq.cells e.symm
    have hlg := hv k e.symm
    obtain ⟨cs, hg⟩ := hg
    exact hk.ne (E' := 30) (k' := k) ⟨cs, (hb1.block k hlg).trans hg⟩ (by decide) rfl
  have hk1 : ∀ k, Cells wr 5 k → Cells w1 5 k := fun k hk => by
    have hl := hk.lt
    obtain ⟨cs, hk⟩ := hk
    exact ⟨cs, (hb1.block k hl).trans hk⟩
  have hk2 : ∀ k, Cells w1 5 k → Cells w2 5 k := fun k hk => by
    have := h5 k hk
    obtain ⟨cs, hk⟩ := hk
    exact ⟨cs, this.trans hk⟩
  refine ⟨?_, ?_⟩
  · have s1 : SRows w1 (Cells w1 5) vs L := hs.keep (fun k hk => hb1.block k hk.lt) hk1 hs1
    have s2 : SRows w2 (Cells w2 5) vs L := s1.keep h5 hk2 (by omega)
    exact s2.snoc hm (rd_keep (S := Cells w1 5) hr (fun _ a e => (hf a e).2) h5 (by omega)) (fun _ a e => hk2 _ (hf a e).2)
  · intro B hB hBs
    exact ((hb1.mono (by omega)).alloc (by omega) _).grown hgr (by rw [World.size_alloc]; omega) (fun k e => by have := (hq.lt k e).1; omega)
set_option maxHeartbeats 400000 in
theorem Unread_any (w : World) (bx n c : Nat) (A : Option Addr) (us : List Value) (L : List (List Nat)) (S : Nat → Prop) (hx : w.cell? ⟨bx, 1, none⟩ = some (.slice A n c)) (hn : n ≤ 8)
    (R : Rd w w.heap.size A n us) (U : SRows w S us L) :
    Calls Try.prog 10 #[.pointer (some ⟨bx, 0, none⟩)] w fun e w' => ∃ A' c' vs, e = .returned (.slice A' n c') ∧ Rd w' w'.heap.size A' n vs ∧ SRows w' (Cells w' 5) vs L ∧ Below w.heap.size w w' := by
  obtain ⟨i0, hi, hz0, hz1, hz2⟩ := info_parts Try.info30
  have hUL : us.length = L.length := U.1
  have HUL := Lib.hid hUL
  clear hUL
  go_enter Try.func10, Try.ntmps10
  go_wp2
  go_loopw [3, 11] (fun v i wr => ∃ (k : Nat) (vs : List Value), k ≤ n ∧ i = .int .i64 k ∧ QRow wr w.heap.size 30 1 v k vs ∧ SRows wr (Cells wr 5) vs (L.take k) ∧ Below w.heap.size w wr) (fun _ i _ => n - (intOf i).toNat)
  case atStart => exact ⟨0, [], Nat.zero_le _, rfl, QRow.nil_, SRows.nil_, Below.refl _ _⟩
  case round =>
    obtain ⟨k, vs, hk, rfl, hq, hs, hb⟩ := hrel
    by_cases hlt : k < n
    · obtain ⟨a1, rfl, hab, hc1⟩ := R.get hlt
      obtain ⟨b1, m1, d1, xs, e1, hxs, hm1, r1, _⟩ := U.2 k _ (List.getElem?_eq_getElem (by rw [R.len]; exact hlt))
      rw [e1] at hc1
      have hc2 : wr.cell? (a1.add k) = some (.slice b1 m1 d1) := (hb.cell (p := a1.add k) (by rw [add_block]; exact hab)).trans hc1
      have hr1 := r1.below hb (Nat.le_refl _)
      have hLk : L.take (k + 1) = L.take k ++ [xs] := by
        obtain ⟨h1, h1'⟩ := List.getElem?_eq_some_iff.1 hxs
        rw [List.take_succ_eq_append_getElem h1, h1']
      have HQ := Lib.hid (And.intro hq (And.intro hs hLk))
      have HB := Lib.hid hb
      clear hq hs hxs e1 hc1 hLk hb r1
      go_wp2_with (first
        | (go_at_call 19; refine (clone_any _ _ b1 m1 d1 _ (byt_one xs) hm1 hr1).mono ?_; rintro e w1 ⟨A1, c1, rfl, hr2, hf2, hb2⟩; have HF := Lib.hid hf2; clear hf2)
        | (at_builtin; go_must (refine wpList_append_q _ rfl (.tmp 15) (.tmp 18) _ rfl 30 i0 (.slice none 0 0) 1 24 Try.underlying26 hi hz0 hz1 hz2 rfl (by decide) w.heap.size k _ vs rfl ((HQ.out.1.below hb2 (fun g e => (HQ.out.1.lt g e).2)).alloc _) (by have := hb2.size; have := HB.out.size; rw [World.size_alloc]; omega) ⟨_, 0, none⟩ 1 1 [.slice A1 m1 c1] rfl rfl (World.news_of_block (heap_alloc_new _ _)) (by simp [Value.oneCell']) (by decide) (by unfold maxLen; omega) (by omega) ?_); intro g off cap w2 hq' hgr hfr; have hst := rows_step HQ.out.1 HQ.out.2.1 hb2 hm1 hr2 HF.out hgr; have HS := Lib.hid hst; clear hst; have HG := Lib.hid hq'; clear hq' hgr hfr))
      go_roundw
      case rel => exact ⟨k + 1, _, by omega, by go_num, HG.out, by rw [HQ.out.2.2]; exact HS.out.1, HB.out.trans (HS.out.2 _ (Nat.le_refl _) HB.out.size)⟩
      case measure => simp [intOf]; omega
    · have hkn : k = n := by omega
      subst hkn
      have HQ := Lib.hid (And.intro hq (And.intro hs hb))
      clear hq hs hb
      go_wp2
      go_ret
      have hLk : L.take k = L := List.take_of_length_le (by rw [← HUL.out, R.len]; omega)
      have h := HQ.out
      rw [hLk] at h
      obtain ⟨hq, hs, hb⟩ := h
      rcases hq.form with ⟨rfl, h0⟩ | ⟨g, off, cap, cur, rfl, hg, hh, h1, h2, h3, hc⟩
      · subst h0
        exact ⟨none, 0, vs, rfl, ⟨by simpa using hq.len, fun h => absurd h (by omega)⟩, hs, hb⟩
      · refine ⟨some ⟨g, off, none⟩, cap, vs, rfl, ⟨by simpa using hq.len, fun _ => ⟨_, rfl, (hq.lt g rfl).2, fun j u hu => ?_⟩⟩, hs, hb⟩
        rw [Addr.add_lit, cell_of_row _ g _ cur _ (0, 0) hh]
        exact hc j u hu
end Go.Proofs.Ytnkojlbceieinaa
