/- The chapter's examples of the inbox: they are as the law's 'awake' has them. -/
import Derived.Test.YtnkojlbceieinaaBoxMap
namespace Go.Proofs.Ytnkojlbceieinaa
open Go.RowKit
open Go.ChangeMaps (setBlock)
theorem Put_own (w0 w : World) (base bx c : Nat) (mo : Value) (A : Option Addr) (us : List Value) (L : List (List Nat)) (h : BoxAt w0 w base bx mo A c us L) (hL : L.length < 8)
    (m c0 : Nat) (A0 : Option Addr) (xs : List Nat) (hm : m ≤ 140737488355328) (o : Own5 w A0 m xs) :
    Calls Try.prog 7 #[.pointer (some ⟨bx, 0, none⟩), .slice A0 m c0] w fun e w' => e = .returned (.int .i64 0) ∧ (∃ A' c' us', BoxAt w0 w' base bx mo A' c' us' (L ++ [xs])) ∧ ∀ A1 n ys, Own5 w A1 n ys → Own5 w' A1 n ys := by
  refine (Put_box w0 w base bx c mo A us L h hL _ m c0 A0 xs hm o.rd).mono ?_
  rintro e w' ⟨rfl, hs, A', c', us', hb, hk, _⟩
  exact ⟨rfl, ⟨A', c', us', hb⟩, fun A1 n ys o1 => o1.turn hs fun k hc => hk k hc.lt (hc.ne (E' := 28) ⟨_, h.box⟩ (by decide)) (fun e => hc.ne (h.row.cells (g := k) (by rw [ownBlock_slice]; exact e)) (by decide) rfl)⟩
theorem Fetch_own (w0 w : World) (base bx c : Nat) (mo : Value) (A : Option Addr) (us : List Value) (x : List Nat) (L : List (List Nat)) (h : BoxAt w0 w base bx mo A c us (x :: L)) (hL : L.length ≤ 8) :
    Calls Try.prog 8 #[.pointer (some ⟨bx, 0, none⟩)] w fun e w' => ∃ A1 m c1, e = .returned (.tuple #[.slice A1 m c1, .int .i64 0]) ∧ Own5 w' A1 m x ∧ (∃ A' c' us', BoxAt w0 w' base bx mo A' c' us' L) ∧ ∀ A1 n ys, Own5 w A1 n ys → Own5 w' A1 n ys := by
  refine (Fetch_box w0 w base bx c mo A us x L h hL).mono ?_
  rintro e w' ⟨A1, m, c1, rfl, hr, hm, hs, h5, A', c', us', hb, hk, _⟩
  exact ⟨A1, m, c1, rfl, ⟨hr, h5⟩, ⟨A', c', us', hb⟩, fun A1 n ys o1 => o1.turn hs fun k hc => hk k (hc.ne (E' := 28) ⟨_, h.box⟩ (by decide))⟩
theorem Same_own (w : World) (A1 A2 : Option Addr) (n c1 c2 : Nat) (xs : List Nat) (hn : n ≤ 9223372036854775807) (o1 : Own5 w A1 n xs) (o2 : Own5 w A2 n xs) :
    Calls Try.prog 9 #[.slice A1 n c1, .slice A2 n c2] w fun e w' => e = .returned (.bool true) ∧ ∃ q, w' = w.drewN q :=
  (Same_eq w _ _ A1 A2 n c1 c2 xs xs hn o1.rd o2.rd).mono fun e w' ⟨h1, h2⟩ => ⟨by simpa using h1, h2⟩
theorem BoxMap.alloc {w0 w : World} {base bx bm c : Nat} {A : Option Addr} {us : List Value} {L : List (List Nat)} {es : Array MapEntry} (h : BoxMap w0 w base bx bm c A us L es) (o : Obj) : BoxMap w0 (w.alloc o) base bx bm c A us L es := h.keep ((Below.refl _ w).alloc (Nat.le_refl _) o)
theorem BoxAt.new (w : World) : BoxAt w (w.alloc (.cells #[.map none, .slice none 0 0] 28)) w.heap.size w.heap.size (.map none) none 0 [] [] :=
  ⟨(Below.refl _ w).alloc (Nat.le_refl _) _, by rw [World.size_alloc]; omega, Nat.le_refl _, heap_alloc_new w _, QRow.nil_, SRows.nil_⟩
theorem Own5.alloc {w : World} {A : Option Addr} {n : Nat} {xs : List Nat} (h : Own5 w A n xs) (o : Obj) : Own5 (w.alloc o) A n xs := h.keep ((Below.refl _ w).alloc (Nat.le_refl _) o)
theorem Own5.drewN {w : World} {A : Option Addr} {n : Nat} {xs : List Nat} (h : Own5 w A n xs) (k : Nat) : Own5 (w.drewN k) A n xs := h.keep (below_drewN_ (Below.refl _ w) k)
theorem Own5.lit_at (w : World) (b H : Nat) (hH : w.heap.size = H) : Own5 (w.alloc (.cells #[.int .u8 (b : Int)] 5)) (some ⟨H, 0, none⟩) 1 [b] := hH ▸ Own5.lit w b
set_option maxHeartbeats 1000000 in
theorem awake_inbox (w : World) : Calls Try.prog 5 #[] w fun e w' => e = .returned (.bool true) ∧ Below w.heap.size w w' := by
  go_enter Try.func5, Try.ntmps5
  go_wp2_with fail
  have B0 := (BoxAt.new w).alloc (.cells #[.int .u8 97] 5)
  have O0 := Own5.lit (w.alloc (.cells #[.map none, .slice none 0 0] 28)) 97
  rw [World.size_alloc] at O0
  refine (Hold_box w _ _ _ 0 1 none _ [] [] 2 3 [97] 1 B0 (by decide) (by decide) (by decide) O0).mono ?_
  rintro e w1 ⟨bm, A1, c1, rfl, B1, O1⟩
  have H1 := Lib.hid (And.intro B1 O1)
  clear B0 O0 B1 O1
  go_wp2_with fail
  refine (Hold_ahead _ _ _ 2 6 (by decide) (by decide) (by decide)).mono ?_
  rintro e _ ⟨rfl, rfl⟩
  go_wp2_with fail
  refine (Hold_stale _ _ _ 2 2 (by decide)).mono ?_
  rintro e _ ⟨rfl, rfl⟩
  go_wp2_with fail
  have B2 := (H1.out.1.alloc (.cells #[.int .u8 98] 5)).alloc (.cells #[.int .u8 99] 5)
  have O2 := (H1.out.2.alloc (.cells #[.int .u8 98] 5)).alloc (.cells #[.int .u8 99] 5)
  refine (Turn_miss_box w _ _ _ bm 0 none [] [] 3 2 _ (by decide) B2).mono ?_
  rintro e w2 ⟨rfl, B3, o3⟩
  have O3 := o3 _ _ _ O2
  have H3 := Lib.hid (And.intro B3 O3)
  clear B2 O2 B3 O3 o3
  go_wp2_with fail
  refine (Turn_hit_box w _ _ _ bm 0 none [] [] 3 _ H3.out.1).mono ?_
  rintro e w3 ⟨rfl, B4, o4⟩
  have H4 := Lib.hid (And.intro B4 (o4 _ _ _ H3.out.2))
  clear B4 o4
  go_wp2_with fail
  refine (Turn_empty_box w _ _ _ bm 0 none [] [] 3 H4.out.1).mono ?_
  rintro e w4 ⟨rfl, B5, o5⟩
  have H5 := Lib.hid (And.intro B5 (o5 _ _ _ H4.out.2))
  clear B5 o5
  go_wp2_with fail
  have B6 := H5.out.1.box.alloc (.cells #[.int .u8 97] 5)
  have O6 := Own5.lit w4 97
  refine (Put_own w _ _ _ 0 _ none [] [] B6 (by decide) 1 1 _ [97] (by decide) O6).mono ?_
  rintro e w5 ⟨rfl, ⟨A7, c7, us7, B7⟩, o7⟩
  have H7 := Lib.hid (And.intro B7 (o7 _ _ _ (H5.out.2.alloc _)))
  clear B6 O6 B7 o7
  go_wp2_with fail
  have B8 := H7.out.1.alloc (.cells #[.int .u8 98] 5)
  have O8 := Own5.lit w5 98
  refine (Put_own w _ _ _ c7 _ A7 us7 _ B8 (by decide) 1 1 _ [98] (by decide) O8).mono ?_
  rintro e w6 ⟨rfl, ⟨A9, c9, us9, B9⟩, o9⟩
  have H9 := Lib.hid (And.intro B9 (o9 _ _ _ (H7.out.2.alloc _)))
  clear B8 O8 B9 o9
  go_wp2_with fail
  refine (Fetch_own w _ _ _ c9 _ A9 us9 [97] [[98]] H9.out.1 (by decide)).mono ?_
  rintro e w7 ⟨Ah, mh, ch, rfl, Oh, ⟨A10, c10, us10, B10⟩, o10⟩
  obtain rfl : mh = 1 := by have := Oh.rd.len; simpa using this.symm
  have H10 := Lib.hid (And.intro B10 (And.intro (o10 _ _ _ H9.out.2) Oh))
  clear B10 o10 Oh
  go_wp2_with fail
  refine (Fetch_own w _ _ _ c10 _ A10 us10 [98] [] H10.out.1 (by decide)).mono ?_
  rintro e w8 ⟨Ai, mi, ci, rfl, Oi, ⟨A11, c11, us11, B11⟩, o11⟩
  obtain rfl : mi = 1 := by have := Oi.rd.len; simpa using this.symm
  have H11 := Lib.hid (And.intro B11 (And.intro (o11 _ _ _ H10.out.2.1) (And.intro (o11 _ _ _ H10.out.2.2) Oi)))
  clear B11 o11 Oi
  go_wp2_with fail
  refine (Fetch_empty _ _ c11 A11 H11.out.1.cell).mono ?_
  rintro e _ ⟨rfl, rfl⟩
  go_wp2_with fail
  refine (Same_own _ A1 _ 1 c1 1 [97] (by decide) (H11.out.2.1.alloc _) (Own5.lit w8 97)).mono ?_
  rintro e _ ⟨rfl, q1, rfl⟩
  go_wp2_with fail
  refine (Same_own _ Ah _ 1 ch 1 [97] (by decide) (((H11.out.2.2.1.alloc _).drewN q1).alloc _) (Own5.lit_at _ 97 _ (by simp))).mono ?_
  rintro e _ ⟨rfl, q2, rfl⟩
  go_wp2_with fail
  refine (Same_own _ Ai _ 1 ci 1 [98] (by decide) (((((H11.out.2.2.2.alloc _).drewN q1).alloc _).drewN q2).alloc _) (Own5.lit_at _ 98 _ (by simp))).mono ?_
  rintro e _ ⟨rfl, q3, rfl⟩
  go_wp2_with fail
  go_ret
  refine ⟨rfl, ?_⟩
  have hb : Below w8.heap.size w8 _ := below_drewN_ ((below_drewN_ ((below_drewN_ ((Below.refl _ w8).alloc (Nat.le_refl _) (.cells #[.int .u8 97] 5)) q1).alloc (by simp) (.cells #[.int .u8 97] 5)) q2).alloc (by simp; omega) (.cells #[.int .u8 98] 5)) q3
  exact H11.out.1.below.trans (hb.mono H11.out.1.base0)
end Go.Proofs.Ytnkojlbceieinaa
