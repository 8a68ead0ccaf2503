/- The law of the outbox: what was not got is due again and again. The walk. -/
import Derived.Test.YtnkojlbceieinaaAwakeOut
namespace Go.Proofs.Ytnkojlbceieinaa
open Go.RowKit
/-- Add, whatever comes of it -/
theorem Add_any (w0 w : World) (base bx : Nat) (v : Value) (L : List Ent) (h : OBox w0 w base bx v L) (i now : Int) (B : Nat) (A0 : Option Addr) (m c0 : Nat) (xs : List Nat) (hm : m ≤ 140737488355328)
    (hi0 : 0 ≤ i) (hi1 : i ≤ 4294967295) (hd0 : 0 ≤ now) (hd1 : now ≤ 18446744073709551615) (hr : Rd w B A0 m (xs.map byt)) :
    Calls Try.prog 13 #[.pointer (some ⟨bx, 0, none⟩), .int .u32 i, .slice A0 m c0, .int .u64 now] w fun e w' => ∃ z v' L', e = .returned (.int .i64 z) ∧ OBox w0 w' base bx v' L' ∧ ∀ x ∈ L', x ∈ L ∨ x.d = now := by
  have h4 := h.small
  by_cases hf : L.length = 4
  · refine (Add_full w0 w base bx v L h i now A0 m c0 hf).mono ?_
    rintro e w' ⟨rfl, rfl⟩
    exact ⟨_, v, L, rfl, h, fun x hx => .inl hx⟩
  · by_cases hb : ∃ x, L[L.length - 1]? = some x ∧ i ≠ (x.i + 1) % 4294967296
    · obtain ⟨x, hx, hi⟩ := hb
      refine (Add_bad w0 w base bx v L h i now A0 m c0 (by omega) x hx hi).mono ?_
      rintro e w' ⟨rfl, rfl⟩
      exact ⟨_, v, L, rfl, h, fun x hx => .inl hx⟩
    · refine (Add_own w0 w base bx v L h i now B A0 m c0 xs (by omega) hm hi0 hi1 hd0 hd1 hr fun x hx => ?_).mono ?_
      · rcases Decidable.em (i = (x.i + 1) % 4294967296) with h' | h'
        · exact h'
        · exact absurd ⟨x, hx, h'⟩ hb
      · rintro e w' ⟨rfl, ⟨v', A1, c1, hb'⟩, _⟩
        refine ⟨_, v', _, rfl, hb', fun x hx => ?_⟩
        rcases List.mem_append.1 hx with hx | hx
        · exact .inl hx
        · simp at hx; subst hx; exact .inr rfl
/-- no entry is due later than the law's far moment -/
def Low (L : List Ent) : Prop := ∀ e ∈ L, e.d ≤ 1099511627780
theorem Low.upd {L : List Ent} (h : Low L) (now : Int) (hn : now < 1099511627776) : Low (L.map (Ent.upd now)) := by
  intro e he
  obtain ⟨x, hx, rfl⟩ := List.mem_map.1 he
  unfold Ent.upd
  split
  · show later now ≤ _
    unfold later; omega
  · exact h x hx
def farL (L : List Ent) : List Ent := L.map fun e => { e with d := 2199023255557 }
theorem far_upd {L : List Ent} (h : Low L) : L.map (Ent.upd 2199023255552) = farL L :=
  List.map_congr_left fun e he => by
    have := h e he
    unfold Ent.upd
    rw [if_pos (by omega)]
    rfl
theorem far_due {L : List Ent} (h : Low L) : dueOf 2199023255552 L = L.map (·.xs) := by
  unfold dueOf
  rw [List.filter_eq_self.2 fun e he => by have := h e he; simp; omega]
theorem far4_due (L : List Ent) : dueOf 2199023255556 (farL L) = [] := by
  unfold dueOf farL
  rw [List.filter_eq_nil_iff.2 fun e he => by obtain ⟨x, _, rfl⟩ := List.mem_map.1 he; simp]
  rfl
theorem far4_upd (L : List Ent) : (farL L).map (Ent.upd 2199023255556) = farL L := by
  unfold farL
  rw [List.map_map]
  exact List.map_congr_left fun e _ => by simp [Function.comp, Ent.upd]
theorem far5_due (L : List Ent) : dueOf 2199023255557 (farL L) = L.map (·.xs) := by
  unfold dueOf
  rw [List.filter_eq_self.2 fun e he => by obtain ⟨x, _, rfl⟩ := List.mem_map.1 he; simp]
  unfold farL
  rw [List.map_map]; rfl
theorem far_got {w : World} {L : List Ent} (h : ∀ e ∈ L, e.Ok w) : L.filter (abv 4294967295) = [] :=
  List.filter_eq_nil_iff.2 fun e he => by have := (h e he).i1; simp [abv]; omega
/-- the calls, as the law reads them -/
def Ops2 (w : World) (A : Option Addr) (n : Nat) : Prop :=
  ∀ i, i < n → ∃ (a : Addr) (kd ix now : Int) (A0 : Option Addr) (m c : Nat) (xs : List Nat) (A4 : Option Addr) (m4 c4 : Nat), A = some a ∧ a.block < w.heap.size ∧ w.cell? (a.add (i * 5)) = some (.int .i64 kd) ∧ w.cell? (a.add (i * 5 + 1)) = some (.int .u32 ix) ∧
    w.cell? (a.add (i * 5 + 2)) = some (.int .u64 now) ∧ w.cell? (a.add (i * 5 + 3)) = some (.slice A0 m c) ∧ w.cell? (a.add (i * 5 + 4)) = some (.slice A4 m4 c4) ∧ 0 ≤ ix ∧ ix ≤ 4294967295 ∧ 0 ≤ now ∧ now ≤ 18446744073709551615 ∧
    m ≤ 140737488355328 ∧ Rd w w.heap.size A0 m (List.map byt xs) ∧ (0 < m → ∀ a, A0 = some a → a.block < w.heap.size)
set_option maxHeartbeats 1000000 in
theorem out_long (w : World) (A : Option Addr) (n c : Nat) (hn : 60 < n) (hn2 : n ≤ 9223372036854775807) : Calls Try.prog 4 #[.slice A n c] w fun e w' => e = .returned (.bool true) ∧ Below w.heap.size w w' := by
  go_enter Try.func4, Try.ntmps4
  go_wp2_with (go_at_call 12; refine (awake_outbox _).mono ?_; rintro e w1 ⟨rfl, hb1⟩)
  go_ret
  exact ⟨rfl, hb1.alloc (by exact hb1.size) _⟩
set_option maxHeartbeats 1000000 in
theorem out_short (w : World) (A : Option Addr) (n c : Nat) (hn : n ≤ 60) (hO : Ops2 w A n) : Calls Try.prog 4 #[.slice A n c] w fun e w' => e = .returned (.bool true) ∧ Below w.heap.size w w' := by
  have hx60 : decide ((n : Int) > 60) = false := by simp; omega
  go_enter Try.func4, Try.ntmps4
  go_wp2_with (go_at_call 12; refine (awake_outbox _).mono ?_; rintro e w1 ⟨rfl, hb1⟩)
  have b0 : OBox w (w1.alloc (.cells #[.slice none 0 0] 47)) w.heap.size w1.heap.size (.slice none 0 0) [] :=
    ⟨hb1.alloc hb1.size _, by have := hb1.size; rw [World.size_alloc]; omega, hb1.size, heap_alloc_new w1 _, .inl ⟨rfl, rfl⟩, fun e he => (by cases he), by decide⟩
  obtain ⟨bx, hbx⟩ : ∃ bx, bx = w1.heap.size := ⟨_, rfl⟩
  rw [← hbx] at b0
  rw [← hbx]
  have H0 := Lib.hid b0
  clear b0 hb1 hbx
  go_loopw [5] (fun i wr => ∃ (k : Nat) (v : Value) (L : List Ent), k ≤ n ∧ i = .int .i64 k ∧ OBox w wr w.heap.size bx v L ∧ Low L) (fun i _ => n - (intOf i).toNat)
  case atStart => exact ⟨0, _, [], Nat.zero_le _, rfl, H0.out, fun e he => by cases he⟩
  case round =>
    obtain ⟨k, v, L, hk, rfl, hB, hL⟩ := hrel
    by_cases hlt : k < n
    · obtain ⟨a, kd, ix, now, A0, m, c0, xs, A4, m4, c4, rfl, hab, h0, h1, h2, h3, h4, hx0, hx1, hn0, hn1, hm, hr, hlo⟩ := hO k hlt
      have hbl := hB.below
      have hcell : ∀ j u, w.cell? (a.add (k * 5 + j)) = some u → wr.cell? (a.add (k * 5 + j)) = some u := fun j u h => (hbl.cell (p := a.add (k * 5 + j)) (by rw [add_block]; exact hab)).trans h
      have h0' : wr.cell? (a.add (k * 5)) = some (.int .i64 kd) := (hbl.cell (p := a.add (k * 5)) (by rw [add_block]; exact hab)).trans h0
      have g1 : (⟨(a.add (k * 5)).block, (a.add (k * 5)).off + 1, none⟩ : Addr) = a.add (k * 5 + 1) := (add_add_ a (k * 5) 1)
      have g2 : (⟨(a.add (k * 5)).block, (a.add (k * 5)).off + 2, none⟩ : Addr) = a.add (k * 5 + 2) := (add_add_ a (k * 5) 2)
      have g3 : (⟨(a.add (k * 5)).block, (a.add (k * 5)).off + 3, none⟩ : Addr) = a.add (k * 5 + 3) := (add_add_ a (k * 5) 3)
      have g4 : (⟨(a.add (k * 5)).block, (a.add (k * 5)).off + 4, none⟩ : Addr) = a.add (k * 5 + 4) := (add_add_ a (k * 5) 4)
      have h1' := hcell 1 _ h1
      have h2' := hcell 2 _ h2
      have h3' := hcell 3 _ h3
      have h4' := hcell 4 _ h4
      rw [← g1] at h1'
      rw [← g2] at h2'
      rw [← g3] at h3'
      rw [← g4] at h4'
      clear g1 g2 g3 g4
      have hrw : Rd wr wr.heap.size A0 m (List.map byt xs) := rd_keep (S := (· < w.heap.size)) hr hlo (fun j hj => hbl.block j hj) hB.base0
      have HI := Lib.hid (And.intro hB (And.intro hL hrw))
      clear hB hL hrw h0 h1 h2 h3 h4 hcell hbl
      by_cases hbig : now ≥ 1099511627776
      · have hbd : decide (1099511627776 ≤ now) = true := by simpa using hbig
        go_wp2
        go_ret
        exact ⟨rfl, (HI.out.1.alloc _).below⟩
      · have hbd : decide (1099511627776 ≤ now) = false := by simpa using hbig
        by_cases e1 : kd = 1
        · subst e1
          go_wp2_with (go_at_call 13; refine (Add_any w _ _ bx v L (HI.out.1.alloc _) ix now _ A0 m c0 xs hm hx0 hx1 hn0 hn1 (HI.out.2.2.below ((Below.refl _ wr).alloc (Nat.le_refl _) _) (Nat.le_refl _))).mono ?_; rintro e w2 ⟨z, v', L', rfl, hB2, hL2⟩; have HN := Lib.hid (And.intro hB2 hL2); clear hB2 hL2)
          go_roundw
          case rel =>
            refine ⟨k + 1, v', L', by omega, by go_num, HN.out.1, fun x hx => ?_⟩
            rcases HN.out.2 x hx with hx | hx
            · exact HI.out.2.1 x hx
            · omega
          case measure => simp [intOf]; omega
        · have t1 : (kd == 1) = false := by simpa using e1
          by_cases e5 : kd = 5
          · subst e5
            go_wp2_with (go_at_call 13; refine (Add_any w _ _ bx v L (HI.out.1.alloc _) ix now _ A0 m c0 xs hm hx0 hx1 hn0 hn1 (HI.out.2.2.below ((Below.refl _ wr).alloc (Nat.le_refl _) _) (Nat.le_refl _))).mono ?_; rintro e w2 ⟨z, v', L', rfl, hB2, hL2⟩; have HN := Lib.hid (And.intro hB2 hL2); clear hB2 hL2)
            go_roundw
            case rel =>
              refine ⟨k + 1, v', L', by omega, by go_num, HN.out.1, fun x hx => ?_⟩
              rcases HN.out.2 x hx with hx | hx
              · exact HI.out.2.1 x hx
              · omega
            case measure => simp [intOf]; omega
          · have t5 : (kd == 5) = false := by simpa using e5
            by_cases e2 : kd = 2
            · subst e2
              go_wp2_with (go_at_call 14; refine (Due_own w _ _ bx v now L (HI.out.1.alloc _) hn0 hn1).mono ?_; rintro e w2 ⟨r, rfl, _, hB2, _⟩; have HN := Lib.hid hB2; clear hB2)
              go_roundw
              case rel => exact ⟨k + 1, v, _, by omega, by go_num, HN.out, HI.out.2.1.upd now (by omega)⟩
              case measure => simp [intOf]; omega
            · have t2 : (kd == 2) = false := by simpa using e2
              by_cases e3 : kd = 3
              · subst e3
                go_wp2_with (go_at_call 15; refine (Got_own w _ _ bx v ix L (HI.out.1.alloc _)).mono ?_; rintro e w2 ⟨rfl, ⟨v', hB2⟩, _⟩; have HN := Lib.hid hB2; clear hB2)
                go_roundw
                case rel => exact ⟨k + 1, v', _, by omega, by go_num, HN.out, fun x hx => HI.out.2.1 x (List.mem_filter.1 hx).1⟩
                case measure => simp [intOf]; omega
              · have t3 : (kd == 3) = false := by simpa using e3
                go_wp2
                go_roundw
                case rel => exact ⟨k + 1, v, L, by omega, by go_num, HI.out.1.alloc _, HI.out.2.1⟩
                case measure => simp [intOf]; omega
    · have HI := Lib.hid (And.intro hB hL)
      clear hB hL
      go_wp2_with fail
      refine (Len_any w wr _ bx v L HI.out.1).mono ?_
      rintro e _ ⟨rfl, rfl⟩
      go_wp2_with fail
      refine (Due_own w wr _ bx v 2199023255552 L HI.out.1 (by decide) (by decide)).mono ?_
      rintro e wa ⟨ra, rfl, Ra, Ba, _⟩
      rw [far_upd HI.out.2] at Ba
      rw [far_due HI.out.2] at Ra
      obtain ⟨Aa, ca, ua, hra, Ra'⟩ := Ra
      subst hra
      have Ra : Res wa (.slice Aa (L.map (·.xs)).length ca) (L.map (·.xs)) := ⟨Aa, ca, ua, rfl, Ra'⟩
      rw [List.length_map] at Ra ⊢
      have HA := Lib.hid (And.intro Ba Ra)
      clear Ba Ra Ra'
      go_wp2_with fail
      refine (Due_own w wa _ bx v 2199023255556 _ HA.out.1 (by decide) (by decide)).mono ?_
      rintro e wb ⟨rb, rfl, Rb, Bb, kb⟩
      rw [far4_upd] at Bb
      rw [far4_due] at Rb
      obtain ⟨Ab, cb, ub, hrb, _⟩ := Rb
      subst hrb
      have HB := Lib.hid (And.intro Bb (kb _ _ HA.out.2))
      clear Bb kb
      go_wp2_with fail
      refine (Due_own w wb _ bx v 2199023255557 _ HB.out.1 (by decide) (by decide)).mono ?_
      rintro e wc ⟨rc, rfl, Rc, Bc, kc⟩
      rw [far5_due] at Rc
      obtain ⟨Ac, cc, uc, hrc, Rc'⟩ := Rc
      subst hrc
      have Rc : Res wc (.slice Ac (L.map (·.xs)).length cc) (L.map (·.xs)) := ⟨Ac, cc, uc, rfl, Rc'⟩
      rw [List.length_map] at Rc ⊢
      have HC := Lib.hid (And.intro Bc (And.intro (kc _ _ HB.out.2) Rc))
      clear Bc Rc Rc' kc
      go_wp2_with fail
      refine (Got_own w wc _ bx v 4294967295 _ HC.out.1).mono ?_
      rintro e wd ⟨he, ⟨vd, Bd⟩, kd⟩
      rw [far_got HC.out.1.good] at Bd he
      have hl2 : ((List.map (Ent.upd 2199023255557) (farL L)).length : Int) - (([] : List Ent).length : Nat) = L.length := by simp [farL]
      rw [hl2] at he
      subst he
      have HD := Lib.hid (And.intro Bd (And.intro (kd _ _ HC.out.2.1) (kd _ _ HC.out.2.2)))
      clear Bd kd hl2
      go_wp2_with fail
      refine (Len_any w wd _ bx vd [] HD.out.1).mono ?_
      rintro e _ ⟨rfl, rfl⟩
      go_wp2_with fail
      have hs4 := HI.out.1.small
      refine (Lists_own wd _ _ (L.map (·.xs)) (by simp; exact hs4) HD.out.2.1 HD.out.2.2).mono ?_
      rintro e _ ⟨rfl, q, rfl⟩
      go_wp2_with fail
      go_ret
      exact ⟨rfl, below_drewN_ HD.out.1.below _⟩
end Go.Proofs.Ytnkojlbceieinaa
