/- The law of the inbox: what is put is fetched, in order, each once. The walk. -/
import Derived.Test.YtnkojlbceieinaaInv
namespace Go.Proofs.Ytnkojlbceieinaa
open Go.RowKit
/-- the calls, as the law reads them: what is done, and the bytes -/
def Ops (w : World) (A : Option Addr) (n : Nat) : Prop :=
  ∀ i, i < n → ∃ a d A0 m c xs, A = some a ∧ a.block < w.heap.size ∧ w.cell? (a.add (i * 6)) = some (.int .i64 d) ∧ w.cell? (a.add (i * 6 + 3)) = some (.slice A0 m c) ∧ m ≤ 140737488355328 ∧ Rd w w.heap.size A0 m (List.map byt xs) ∧ (0 < m → ∀ a, A0 = some a → a.block < w.heap.size)
set_option maxHeartbeats 1000000 in
theorem law_long (w : World) (A : Option Addr) (n c : Nat) (hn : 80 < n) (hn2 : n ≤ 9223372036854775807) : Calls Try.prog 3 #[.slice A n c] w fun e w' => e = .returned (.bool true) ∧ Below w.heap.size w w' := by
  go_enter Try.func3, Try.ntmps3
  go_wp2_with (go_at_call 5; refine (awake_inbox _).mono ?_; rintro e w1 ⟨rfl, hb1⟩)
  go_ret
  exact ⟨rfl, hb1.alloc (by exact hb1.size) _⟩
theorem Same_any (w : World) (B1 B2 : Nat) (A1 A2 : Option Addr) (n1 c1 n2 c2 : Nat) (xs : List Nat) (hn : n1 ≤ 9223372036854775807) (r1 : Rd w B1 A1 n1 (xs.map byt)) (r2 : Rd w B2 A2 n2 (xs.map byt)) :
    Calls Try.prog 9 #[.slice A1 n1 c1, .slice A2 n2 c2] w fun e w' => e = .returned (.bool true) ∧ ∃ q, w' = w.drewN q := by
  obtain rfl : n1 = n2 := by rw [← r1.len, r2.len]
  exact (Same_eq w _ _ A1 A2 n1 c1 c2 xs xs hn r1 r2).mono fun e w' ⟨h1, h2⟩ => ⟨by simpa using h1, h2⟩
set_option maxHeartbeats 1000000 in
theorem law_short (w : World) (A : Option Addr) (n c : Nat) (hn : n ≤ 80) (hO : Ops w A n) : Calls Try.prog 3 #[.slice A n c] w fun e w' => e = .returned (.bool true) ∧ Below w.heap.size w w' := by
  obtain ⟨i0, hi, hz0, hz1, hz2⟩ := info_parts Try.info30
  have hx80 : decide (80 < (n : Int)) = false := by simp; omega
  go_enter Try.func3, Try.ntmps3
  go_wp2_with (go_at_call 5; refine (awake_inbox _).mono ?_; rintro e w1 ⟨rfl, hb1⟩)
  have b0 : BoxAt w (w1.alloc (.cells #[.map none, .slice none 0 0] 28)) w.heap.size w1.heap.size (.map none) none 0 [] [] :=
    ⟨hb1.alloc hb1.size _, by have := hb1.size; rw [World.size_alloc]; omega, hb1.size, heap_alloc_new w1 _, QRow.nil_, SRows.nil_⟩
  have inv0 : Inv w (w1.alloc (.cells #[.map none, .slice none 0 0] 28)) w1.heap.size (.slice none 0 0) none 0 [] [] [] :=
    ⟨b0, QRow.nil_, SRows.nil_, by simp [Value.ownBlock], fun g e => by simp [Value.ownBlock] at e, by decide⟩
  obtain ⟨bx, hbx⟩ : ∃ bx, bx = w1.heap.size := ⟨_, rfl⟩
  rw [← hbx] at inv0
  rw [← hbx]
  have H0 := Lib.hid inv0
  clear inv0 b0 hb1 hbx
  go_loopw [5, 6] (fun v i wr => ∃ (k : Nat) (A' : Option Addr) (c' : Nat) (us ws : List Value) (L : List (List Nat)), k ≤ n ∧ i = .int .i64 k ∧ Inv w wr bx v A' c' us ws L) (fun _ i _ => n - (intOf i).toNat)
  case atStart => exact ⟨0, none, 0, [], [], [], Nat.zero_le _, rfl, H0.out⟩
  case round =>
    obtain ⟨k, A', c', us, ws, L, hk, rfl, hinv⟩ := hrel
    have hL8 := hinv.small
    by_cases hlt : k < n
    · obtain ⟨a, d, A0, m, c0, xs, rfl, hab, hd, hB, hm, hr, hlo⟩ := hO k hlt
      have hbl := hinv.box.below
      have hd' : wr.cell? (a.add (k * 6)) = some (.int .i64 d) := (hbl.cell (p := a.add (k * 6)) (by rw [add_block]; exact hab)).trans hd
      have hB' : wr.cell? ⟨(a.add (k * 6)).block, (a.add (k * 6)).off + 3, none⟩ = some (.slice A0 m c0) := by
        have e : (⟨(a.add (k * 6)).block, (a.add (k * 6)).off + 3, none⟩ : Addr) = a.add (k * 6 + 3) := (add_add_ a (k * 6) 3)
        rw [e]
        exact (hbl.cell (p := a.add (k * 6 + 3)) (by rw [add_block]; exact hab)).trans hB
      by_cases h3 : d = 3
      · subst h3
        by_cases hfull : L.length = 8
        · have hcell := hinv.box.cell
          rw [hfull] at hcell
          have HI := Lib.hid hinv
          clear hinv hfull hd hB
          go_wp2_with (first
            | (go_at_call 6; refine (Room_any _ bx 8 c' A' (by decide) hcell).mono ?_; rintro e _ ⟨rfl, rfl⟩)
            | (go_at_call 7; refine (Put_full _ bx c' A' _ hcell).mono ?_; rintro e _ ⟨rfl, rfl⟩))
          go_roundw
          case rel => exact ⟨k + 1, A', c', us, ws, L, by omega, by go_num, HI.out⟩
          case measure => simp [intOf]; omega
        · have hL : L.length < 8 := by omega
          have hcell := hinv.box.cell
          have hpos : decide ((L.length : Int) < 8) = true := by simp; omega
          have hrw : Rd wr wr.heap.size A0 m (List.map byt xs) := rd_keep (S := (· < w.heap.size)) hr hlo (fun j hj => hbl.block j hj) hinv.box.base0
          have HI := Lib.hid hinv
          clear hinv hfull hd hB
          go_wp2_with (first
            | (go_at_call 6; refine (Room_any _ bx L.length c' A' hL8 hcell).mono ?_; rintro e _ ⟨rfl, rfl⟩)
            | (go_at_call 7; refine (Put_box w _ _ bx c' _ A' us L HI.out.box hL _ m c0 A0 xs hm hrw).mono ?_; rintro e w2 ⟨rfl, hs2, A2, c2, us2, hb2, hk2, hA2⟩; have hB2 : w2.cell? ⟨(a.add (k * 6)).block, (a.add (k * 6)).off + 3, none⟩ = some (.slice A0 m c0) := (hb2.below.cell (p := ⟨(a.add (k * 6)).block, (a.add (k * 6)).off + 3, none⟩) (by rw [add_block]; exact hab)).trans ((hbl.cell (p := ⟨(a.add (k * 6)).block, (a.add (k * 6)).off + 3, none⟩) (by rw [add_block]; exact hab)).symm.trans hB'); have hp := HI.out.put hs2 hk2 hA2; have HP := Lib.hid (And.intro hb2 hp); clear hb2 hk2 hA2 hp)
            | (at_builtin; go_must (refine wpList_append_q _ rfl (.tmp 47) (.tmp 53) _ rfl 30 i0 (.slice none 0 0) 1 24 Try.underlying26 hi hz0 hz1 hz2 rfl (by decide) w.heap.size L.length _ ws rfl (HP.out.2.1.alloc _) (by have := HP.out.1.base0; rw [World.size_alloc]; omega) ⟨_, 0, none⟩ 1 1 [.slice A0 m c0] rfl rfl (World.news_of_block (heap_alloc_new _ _)) (by simp [Value.oneCell']) (by decide) (by unfold maxLen; omega) (by omega) ?_); intro g off cap w3 hq' hgr hfr; have hnew := Inv.put2 hL HP.out.1 HP.out.2 hm hr hlo hq' hgr hfr; have HN := Lib.hid hnew; clear hnew hq' hgr hfr))
          go_roundw
          case rel => exact ⟨k + 1, _, _, _, _, _, by omega, by go_num, HN.out⟩
          case measure => simp [intOf]; omega
      · have h3' : (d == 3) = false := by simpa using h3
        cases L with
        | nil =>
          have hcell := hinv.box.cell
          simp only [List.length_nil] at hcell
          obtain ⟨Av, cv, hv0⟩ : ∃ (Av : Option Addr) (cv : Nat), u5 = .slice Av 0 cv := by
            rcases hinv.want.form with ⟨e, _⟩ | ⟨g, off, cap, cur, e, _⟩
            · exact ⟨none, 0, e⟩
            · exact ⟨_, _, e⟩
          subst hv0
          have HI := Lib.hid hinv
          clear hinv hd hB h3
          go_wp2_with (go_at_call 8; refine (Fetch_empty _ bx c' A' hcell).mono ?_; rintro e _ ⟨rfl, rfl⟩)
          go_roundw
          case rel => exact ⟨k + 1, A', c', us, ws, [], by omega, by go_num, HI.out⟩
          case measure => simp [intOf]; omega
        | cons x L =>
          have hbox := hinv.box
          have hw := hinv.want
          simp only [List.length_cons] at hw hL8
          obtain ⟨g, off, cap, u0, hv0, hg, hnc, hu0, hcw⟩ := hw.get (k := 0) (by omega)
          subst hv0
          obtain ⟨u', ws1, hws⟩ : ∃ u' ws1, ws = u' :: ws1 := by
            cases ws with
            | nil => simp at hu0
            | cons p q => exact ⟨p, q, rfl⟩
          subst hws
          obtain rfl : u' = u0 := by simpa using hu0
          obtain ⟨A5, m5, c5, ys, rfl, hys, hm5, hr5, hS5⟩ := hinv.lists.2 0 _ hu0
          obtain rfl : x = ys := by simpa using hys
          have hcw' : wr.cell? ⟨g, off, none⟩ = some (.slice A5 m5 c5) := hcw
          have hgx : g ≠ bx := fun e => hinv.neb (by rw [e]; rfl)
          have hpos : decide (0 < (L.length : Int) + 1) = true := by simp
          have HI := Lib.hid (And.intro hinv (And.intro hr5 hS5))
          clear hinv hd hB h3 hw hbox hu0 hys hcw hr5 hS5
          go_wp2_with (first
            | (go_at_call 8; refine (Fetch_box w _ _ bx c' _ A' us x L HI.out.1.box (by omega)).mono ?_; rintro e w2 ⟨A1, m1, c1, rfl, hr1, hm1, hs2, h51, A2, c2, us2, hb2, hk2, hA2⟩; have hcw2 : w2.cell? ⟨g, off, none⟩ = some (.slice A5 m5 c5) := (World.cell?_of_block (w := wr) (a := ⟨g, off, none⟩) (hk2 g hgx)).trans hcw'; have HF := Lib.hid (And.intro hr1 (And.intro hs2 (And.intro hb2 (And.intro hk2 hA2)))); clear hr1 h51 hs2 hb2 hk2 hA2)
            | (go_at_call 9; go_must (refine (Same_any _ _ _ A1 A5 m1 c1 m5 c5 x (by omega) HF.out.1 (rd_keep (S := (· < w.heap.size)) HI.out.2.1 HI.out.2.2 (fun j hj => HF.out.2.2.2.1 j (HI.out.1.old hj).1) HF.out.2.1)).mono ?_); rintro e _ ⟨rfl, q, rfl⟩))
          go_roundw
          case rel => exact ⟨k + 1, _, _, _, _, _, by omega, by go_num, Inv.fetch HI.out.1 HF.out.2.1 HF.out.2.2.1 HF.out.2.2.2.1 HF.out.2.2.2.2⟩
          case measure => simp [intOf]; omega
    · have hw := hinv.want
      obtain ⟨Av, cv, hv0⟩ : ∃ (Av : Option Addr) (cv : Nat), u5 = .slice Av L.length cv := by
        rcases hw.form with ⟨e, h0⟩ | ⟨g, off, cap, cur, e, _⟩
        · exact ⟨none, 0, by rw [e, h0]⟩
        · exact ⟨_, _, e⟩
      subst hv0
      have HI := Lib.hid hinv
      clear hinv hw
      go_wp2_with (first
        | (go_at_call 10; refine (Unread_any _ bx L.length c' A' us L _ HI.out.box.cell hL8 HI.out.box.row.rd HI.out.box.lists).mono ?_; rintro e w2 ⟨A2, c2, vs, rfl, r2, s2, b2⟩; have HR := Lib.hid (And.intro r2 (And.intro s2 b2)); clear r2 s2 b2)
        | (go_at_call 11; go_must (refine (Lists_eq _ w2.heap.size A2 Av L.length c2 cv vs ws L L (by omega) HR.out.1 (QRow.rd (HI.out.want.below HR.out.2.2 (fun g e => (HI.out.want.lt g e).2))) _ _ HR.out.2.1 (HI.out.lists.keep (fun j hj => HR.out.2.2.block j (by have := HI.out.box.base0; omega)) (fun _ h => h) HR.out.2.2.size) rfl).mono ?_); rintro e _ ⟨rfl, q, rfl⟩))
      go_ret
      exact ⟨rfl, below_drewN_ (HI.out.box.below.trans (HR.out.2.2.mono HI.out.box.base0)) q⟩
end Go.Proofs.Ytnkojlbceieinaa
