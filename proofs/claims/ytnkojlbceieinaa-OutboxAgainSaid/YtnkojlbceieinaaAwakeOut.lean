/- The chapter's examples of the outbox: they are as the law's 'awake' has them. -/
import Derived.Test.YtnkojlbceieinaaDueAll
import Derived.Test.YtnkojlbceieinaaAwakeIn
namespace Go.Proofs.Ytnkojlbceieinaa
open Go.RowKit
/-- a list of slices of bytes, of the call's own -/
def Res (W : World) (v : Value) (D : List (List Nat)) : Prop :=
  ∃ (A : Option Addr) (c : Nat) (us : List Value), v = .slice A D.length c ∧ Rd W W.heap.size A D.length us ∧ SRows W (Cells W 5) us D ∧ ∀ a, A = some a → Cells W 30 a.block
theorem cells_keep {w w' : World} {E : TypeId} (hk : ∀ k, Cells w E k → w'.heap[k]? = w.heap[k]?) : ∀ k, Cells w E k → Cells w' E k := fun k hc => by
  have := hk k hc
  obtain ⟨cs, hc⟩ := hc
  exact ⟨cs, this.trans hc⟩
theorem Res.turn {w w' : World} {v : Value} {D : List (List Nat)} (h : Res w v D) (hs : w.heap.size ≤ w'.heap.size) (h5 : ∀ k, Cells w 5 k → w'.heap[k]? = w.heap[k]?) (h30 : ∀ k, Cells w 30 k → w'.heap[k]? = w.heap[k]?) : Res w' v D := by
  obtain ⟨A, c, us, rfl, hr, hS, hA⟩ := h
  exact ⟨A, c, us, rfl, rd_keep (S := Cells w 30) hr (fun _ => hA) h30 hs, hS.keep h5 (cells_keep h5) hs, fun a e => cells_keep h30 _ (hA a e)⟩
theorem Res.keep {w w' : World} {v : Value} {D : List (List Nat)} (h : Res w v D) (hb : Below w.heap.size w w') : Res w' v D := h.turn hb.size (fun k hk => hb.block k hk.lt) (fun k hk => hb.block k hk.lt)
theorem Res.alloc {w : World} {v : Value} {D : List (List Nat)} (h : Res w v D) (o : Obj) : Res (w.alloc o) v D := h.keep ((Below.refl _ w).alloc (Nat.le_refl _) o)
theorem Res.drewN {w : World} {v : Value} {D : List (List Nat)} (h : Res w v D) (k : Nat) : Res (w.drewN k) v D := h.keep (below_drewN_ (Below.refl _ w) k)
theorem Res.lit (w : World) (b H : Nat) (hH : w.heap.size = H) : Res ((w.alloc (.cells #[.int .u8 (b : Int)] 5)).alloc (.cells #[.slice (some ⟨H, 0, none⟩) 1 1] 30)) (.slice (some ⟨H + 1, 0, none⟩) 1 1) [[b]] := by
  subst hH
  have hn := heap_alloc_new (w.alloc (.cells #[.int .u8 (b : Int)] 5)) (.cells #[.slice (some ⟨w.heap.size, 0, none⟩) 1 1] 30)
  rw [World.size_alloc] at hn
  have ho := (Own5.lit w b).alloc (.cells #[.slice (some ⟨w.heap.size, 0, none⟩) 1 1] 30)
  refine ⟨_, _, [.slice (some ⟨w.heap.size, 0, none⟩) 1 1], rfl, ⟨rfl, fun _ => ⟨_, rfl, by simp, fun j u hu => ?_⟩⟩, ?_, fun a e => by cases e; exact ⟨_, hn⟩⟩
  · rw [Addr.add_lit, cell_of_row _ _ _ _ _ _ hn]
    match j, hu with
    | 0, hu => simpa using hu
  · have := SRows.snoc (L := []) (us := []) SRows.nil_ (by decide : (1 : Nat) ≤ 140737488355328) (c := 1) ho.rd ho.c5
    exact this
theorem Lists_own (w : World) (v1 v2 : Value) (D : List (List Nat)) (hD : D.length ≤ 4) (h1 : Res w v1 D) (h2 : Res w v2 D) : Calls Try.prog 11 #[v1, v2] w fun e w' => e = .returned (.bool true) ∧ ∃ q, w' = w.drewN q := by
  obtain ⟨A1, c1, us, rfl, r1, s1, _⟩ := h1
  obtain ⟨A2, c2, vs, rfl, r2, s2, _⟩ := h2
  exact Lists_eq w _ A1 A2 _ c1 c2 us vs D D (by omega) r1 r2 _ _ s1 s2 rfl
/-- Due, and what the caller holds -/
theorem Due_own (w0 w : World) (base bx : Nat) (v : Value) (now : Int) (L : List Ent) (h : OBox w0 w base bx v L) (hn0 : 0 ≤ now) (hn1 : now ≤ 18446744073709551615) :
    Calls Try.prog 14 #[.pointer (some ⟨bx, 0, none⟩), .int .u64 now] w fun e w' => ∃ r, e = .returned r ∧ Res w' r (dueOf now L) ∧ OBox w0 w' base bx v (L.map (Ent.upd now)) ∧ ∀ u D, Res w u D → Res w' u D := by
  refine (Due_any w0 w base bx v now L h hn0 hn1).mono ?_
  rintro e w' ⟨A, n, c, us, rfl, rfl, hr, hs, hA, hb, hsz, hk⟩
  exact ⟨_, rfl, ⟨A, c, us, rfl, hr, hs, hA⟩, hb, fun u D hR => hR.turn hsz (fun k hc => hk k hc.lt fun e => hc.ne (h.row.cells e).1 (by decide) rfl) (fun k hc => hk k hc.lt fun e => hc.ne (h.row.cells e).1 (by decide) rfl)⟩
theorem Add_own (w0 w : World) (base bx : Nat) (v : Value) (L : List Ent) (h : OBox w0 w base bx v L) (i now : Int) (B : Nat) (A0 : Option Addr) (m c0 : Nat) (xs : List Nat) (hf : L.length < 4) (hm : m ≤ 140737488355328)
    (hi0 : 0 ≤ i) (hi1 : i ≤ 4294967295) (hd0 : 0 ≤ now) (hd1 : now ≤ 18446744073709551615) (hr : Rd w B A0 m (xs.map byt)) (hl : ∀ x, L[L.length - 1]? = some x → i = (x.i + 1) % 4294967296) :
    Calls Try.prog 13 #[.pointer (some ⟨bx, 0, none⟩), .int .u32 i, .slice A0 m c0, .int .u64 now] w fun e w' => e = .returned (.int .i64 0) ∧ (∃ v' A1 c1, OBox w0 w' base bx v' (L ++ [⟨i, now, A1, m, c1, xs⟩])) ∧ ∀ u D, Res w u D → Res w' u D := by
  refine (Add_ok w0 w base bx v L h i now B A0 m c0 xs hf hm hi0 hi1 hd0 hd1 hr hl).mono ?_
  rintro e w' ⟨rfl, hsz, v', A1, c1, hb, _, hk⟩
  exact ⟨rfl, ⟨v', A1, c1, hb⟩, fun u D hR => hR.turn hsz (fun k hc => hk k hc.lt (hc.ne h.cellsx (by decide)) fun e => hc.ne (h.row.cells e).1 (by decide) rfl) (fun k hc => hk k hc.lt (hc.ne h.cellsx (by decide)) fun e => hc.ne (h.row.cells e).1 (by decide) rfl)⟩
theorem Got_own (w0 w : World) (base bx : Nat) (v : Value) (m : Int) (L : List Ent) (h : OBox w0 w base bx v L) :
    Calls Try.prog 15 #[.pointer (some ⟨bx, 0, none⟩), .int .u32 m] w fun e w' => e = .returned (.int .i64 ((L.length : Int) - (L.filter (abv m)).length)) ∧ (∃ v', OBox w0 w' base bx v' (L.filter (abv m))) ∧ ∀ u D, Res w u D → Res w' u D := by
  refine (Got_any w0 w base bx v m L h).mono ?_
  rintro e w' ⟨rfl, hsz, v', hb, _, hk⟩
  exact ⟨rfl, ⟨v', hb⟩, fun u D hR => hR.turn hsz (fun k hc => hk k hc.lt (hc.ne h.cellsx (by decide)) fun e => hc.ne (h.row.cells e).1 (by decide) rfl) (fun k hc => hk k hc.lt (hc.ne h.cellsx (by decide)) fun e => hc.ne (h.row.cells e).1 (by decide) rfl)⟩
set_option maxHeartbeats 1000000 in
theorem awake_outbox (w : World) : Calls Try.prog 12 #[] w fun e w' => e = .returned (.bool true) ∧ Below w.heap.size w w' := by
  go_enter Try.func12, Try.ntmps12
  go_wp2_with fail
  have B0 := (OBox.new w).alloc (.cells #[.int .u8 97] 5)
  have O0 := Own5.lit (w.alloc (.cells #[.slice none 0 0] 47)) 97
  rw [World.size_alloc] at O0
  refine (Add_own w _ _ _ _ [] B0 1 0 _ _ 1 1 [97] (by decide) (by decide) (by decide) (by decide) (by decide) (by decide) O0.rd (by simp)).mono ?_
  rintro e w1 ⟨rfl, ⟨v1, A1, c1, B1⟩, _⟩
  clear B0 O0
  have H1 := Lib.hid B1
  clear B1
  go_wp2_with fail
  have O1 := Own5.lit w1 98
  refine (Add_own w _ _ _ _ _ (H1.out.alloc (.cells #[.int .u8 98] 5)) 2 3 _ _ 1 1 [98] (by simp) (by decide) (by decide) (by decide) (by decide) (by decide) O1.rd (by simp)).mono ?_
  rintro e w2 ⟨rfl, ⟨v2, A2, c2, B2⟩, _⟩
  clear O1
  have H2 := Lib.hid B2
  clear B2
  go_wp2_with fail
  refine (Due_own w _ _ _ v2 0 _ H2.out (by decide) (by decide)).mono ?_
  rintro e w3 ⟨r3, rfl, R3, B3, _⟩
  replace R3 : Res w3 r3 [[97]] := R3
  have H3 := Lib.hid (And.intro B3 R3)
  clear B3 R3
  go_wp2_with fail
  refine (Due_own w _ _ _ v2 4 _ H3.out.1 (by decide) (by decide)).mono ?_
  rintro e w4 ⟨r4, rfl, R4, B4, k4⟩
  replace R4 : Res w4 r4 [[98]] := R4
  have H4 := Lib.hid (And.intro B4 (And.intro (k4 _ _ H3.out.2) R4))
  clear B4 R4 k4
  go_wp2_with fail
  refine (Due_own w _ _ _ v2 5 _ H4.out.1 (by decide) (by decide)).mono ?_
  rintro e w5 ⟨r5, rfl, R5, B5, k5⟩
  replace R5 : Res w5 r5 [[97]] := R5
  have H5 := Lib.hid (And.intro B5 (And.intro (k5 _ _ H4.out.2.1) (And.intro (k5 _ _ H4.out.2.2) R5)))
  clear B5 R5 k5
  go_wp2_with fail
  refine (Got_own w _ _ _ v2 1 _ H5.out.1).mono ?_
  rintro e w6 ⟨he, ⟨v6, B6⟩, k6⟩
  obtain rfl : e = .returned (.int .i64 1) := he
  have H6 := Lib.hid (And.intro B6 (And.intro (k6 _ _ H5.out.2.1) (And.intro (k6 _ _ H5.out.2.2.1) (k6 _ _ H5.out.2.2.2))))
  clear B6 k6
  go_wp2_with fail
  refine (Due_own w _ _ _ v6 100 _ H6.out.1 (by decide) (by decide)).mono ?_
  rintro e w7 ⟨r7, rfl, R7, B7, k7⟩
  replace R7 : Res w7 r7 [[98]] := R7
  replace B7 : OBox w w7 w.heap.size w.heap.size v6 [⟨2, 105, A2, 1, c2, [98]⟩] := B7
  have H7 := Lib.hid (And.intro B7 (And.intro (k7 _ _ H6.out.2.1) (And.intro (k7 _ _ H6.out.2.2.1) (And.intro (k7 _ _ H6.out.2.2.2) R7))))
  clear B7 R7 k7
  go_wp2_with fail
  refine (Add_bad w _ _ _ v6 _ (H7.out.1.alloc (.cells #[.int .u8 99] 5)) 4 0 _ 1 1 (by simp) _ rfl (by simp)).mono ?_
  rintro e _ ⟨rfl, rfl⟩
  go_wp2_with fail
  obtain ⟨W8, hW8⟩ : ∃ W8, ((((w7.alloc (.cells #[.int .u8 99] 5)).alloc (.cells #[.int .u8 97] 5)).alloc (.cells #[.slice (some ⟨w7.heap.size + 1, 0, none⟩) 1 1] 30)).alloc (.cells #[.int .u8 98] 5)).alloc (.cells #[.slice (some ⟨w7.heap.size + 1 + 1 + 1, 0, none⟩) 1 1] 30) = W8 := ⟨_, rfl⟩
  have hb8 : Below w7.heap.size w7 W8 := by
    rw [← hW8]
    exact (((((Below.refl _ w7).alloc (Nat.le_refl _) _).alloc (by simp) _).alloc (by simp; omega) _).alloc (by simp; omega) _).alloc (by simp; omega) _
  have ra : Res W8 (.slice (some ⟨w7.heap.size + 1 + 1, 0, none⟩) 1 1) [[97]] := by
    rw [← hW8]
    exact ((Res.lit (w7.alloc (.cells #[.int .u8 99] 5)) 97 (w7.heap.size + 1) (by simp)).alloc _).alloc _
  have rb : Res W8 (.slice (some ⟨w7.heap.size + 1 + 1 + 1 + 1, 0, none⟩) 1 1) [[98]] := by
    rw [← hW8]
    exact Res.lit (((w7.alloc (.cells #[.int .u8 99] 5)).alloc (.cells #[.int .u8 97] 5)).alloc (.cells #[.slice (some ⟨w7.heap.size + 1, 0, none⟩) 1 1] 30)) 98 (w7.heap.size + 1 + 1 + 1) (by simp)
  have HR := Lib.hid (And.intro ra (And.intro rb (And.intro (H7.out.2.1.keep hb8) (And.intro (H7.out.2.2.1.keep hb8) (And.intro (H7.out.2.2.2.1.keep hb8) (H7.out.2.2.2.2.keep hb8))))))
  have HB := Lib.hid (H7.out.1.below.trans (hb8.mono H7.out.1.base0))
  clear ra rb hb8
  rw [hW8]
  clear hW8
  refine (Lists_own _ _ _ [[97]] (by decide) HR.out.2.2.1 HR.out.1).mono ?_
  rintro e _ ⟨rfl, q1, rfl⟩
  go_wp2_with fail
  refine (Lists_own _ _ _ [[98]] (by decide) (HR.out.2.2.2.1.drewN _) (HR.out.2.1.drewN _)).mono ?_
  rintro e _ ⟨rfl, q2, rfl⟩
  go_wp2_with fail
  refine (Lists_own _ _ _ [[97]] (by decide) (HR.out.2.2.2.2.1.drewN _) (HR.out.1.drewN _)).mono ?_
  rintro e _ ⟨rfl, q3, rfl⟩
  go_wp2_with fail
  refine (Lists_own _ _ _ [[98]] (by decide) (HR.out.2.2.2.2.2.drewN _) (HR.out.2.1.drewN _)).mono ?_
  rintro e _ ⟨rfl, q4, rfl⟩
  go_wp2_with fail
  go_ret
  exact ⟨rfl, below_drewN_ HB.out _⟩
end Go.Proofs.Ytnkojlbceieinaa
