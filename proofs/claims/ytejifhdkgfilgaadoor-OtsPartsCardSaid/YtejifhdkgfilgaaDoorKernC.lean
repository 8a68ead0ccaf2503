/- The one-time signature at numbers, for the kernel. -/
import Derived.Test.YtejifhdkgfilgaaDoorKernB
import Derived.Test.YtejifhdkgfilgaaDoorRecover
namespace Go.Proofs.YtejifhdkgfilgaaDoor
def seedB : List Nat := 1 :: List.replicate 31 0
def tagB : List Nat := 2 :: List.replicate 31 0
theorem seedB_len : seedB.length = 32 := rfl
theorem tagB_len : tagB.length = 32 := rfl
theorem seedB_lt : ∀ b ∈ seedB, b < 256 := by decide
theorem tagB_lt : ∀ b ∈ tagB, b < 256 := by decide
theorem u64n_nat (n : Nat) (h : n < 65536) : u64n (n : Int) = n := by rw [u64n]; omega
theorem key_nat (xs : List Nat) (hl : xs.length = 32) (hb : ∀ b ∈ xs, b < 256) : xs = highB (ofHigh xs) 32 := by
  refine ofHigh_inj (by rw [hl, highB_len]) hb (highB_ltN _ _) ?_
  have := ofHigh_bound hb
  rw [hl] at this
  rw [ofHigh_highB, Nat.mod_eq_of_lt this]
def tagN : Nat := 904625697166532776746648320380374280103671755200316906558262375061821325312
noncomputable def stepN (c i v : Nat) : Nat := fc (Nat.add (Nat.mul (Nat.add (Nat.mul (Nat.add (Nat.mul (Nat.add (Nat.mul tagN 65536) c) 65536) i) 115792089237316195423570985008687907853269984665640564039457584007913129639936) v) 3121748550315992231381597229793166305748598142664971150859156959625371738819765620120306103063491971159826931121406622895447975679288285306290176) 1560874275157996115690798614896583152874299071332485575429578479812685869409882810060153051531745985579913465560703311447723987839644142653145632) fun P => digN P 2 startN
noncomputable def alongN (c n : Nat) : Nat → Nat → Nat := Nat.rec (motive := fun _ => Nat → Nat → Nat) (fun _ x => x) (fun _ ih i x => fc (stepN c i x) fun y => ih (Nat.succ i) y) n
theorem step_nat (c i : Nat) (hc : c < 65536) (hi : i < 65536) (v : List Nat) (hl : v.length = 32) (hb : ∀ b ∈ v, b < 256) : ofHigh (stepK tagB c i v) = stepN c i (ofHigh v) := by
  obtain ⟨xs, hx⟩ : ∃ xs, xs = tagB ++ highB (u64n c) 2 ++ highB (u64n i) 2 ++ v := ⟨_, rfl⟩
  have hxl : xs.length = 68 := by rw [hx]; simp [tagB_len, highB_len, hl]
  have hxb : ∀ b ∈ xs, b < 256 := by
    intro b h
    rw [hx] at h
    simp only [List.mem_append] at h
    rcases h with ((h | h) | h) | h
    · exact tagB_lt b h
    · exact highB_ltN _ _ b h
    · exact highB_ltN _ _ b h
    · exact hb b h
  have hpl := padded_lenN xs 68 51 hxl rfl
  have hxn : ofHigh xs = Nat.add (Nat.mul (Nat.add (Nat.mul (Nat.add (Nat.mul tagN 65536) c) 65536) i) 115792089237316195423570985008687907853269984665640564039457584007913129639936) (ofHigh v) := by
    rw [hx, ofHigh_append, ofHigh_append, ofHigh_append, highB_len, highB_len, hl, ofHigh_highB, ofHigh_highB, u64n_nat c hc, u64n_nat i hi, Nat.mod_eq_of_lt (show c < 256 ^ 2 from hc), Nat.mod_eq_of_lt (show i < 256 ^ 2 from hi), show (256 : Nat) ^ 32 = 115792089237316195423570985008687907853269984665640564039457584007913129639936 from by decide +kernel, show (256 : Nat) ^ 2 = 65536 from rfl, show ofHigh tagB = tagN from by decide +kernel]
    rfl
  rw [stepK, ← hx, digest_nat xs (padded_lt hxb) 2 hpl, padded_nat xs 68 51 hxl rfl, stepN, fc_eq, ← hxn, show (256 : Nat) ^ (51 + 9) = 3121748550315992231381597229793166305748598142664971150859156959625371738819765620120306103063491971159826931121406622895447975679288285306290176 from by decide +kernel, show 128 * 256 ^ (51 + 8) + 68 * 8 % 256 ^ 8 = 1560874275157996115690798614896583152874299071332485575429578479812685869409882810060153051531745985579913465560703311447723987839644142653145632 from by decide +kernel]
  rfl
theorem stepK_lenN (tag : List Nat) (c i : Int) (v : List Nat) : (stepK tag c i v).length = 32 := digest_len _
theorem stepK_ltN (tag : List Nat) (c i : Int) (v : List Nat) : ∀ b ∈ stepK tag c i v, b < 256 := digest_lt _
theorem along_front (tag : List Nat) (c s : Int) (v : List Nat) (n : Nat) : along tag c s v (n + 1) = along tag c (s + 1) (stepK tag c s v) n := by
  induction n with
  | zero => simp [along]
  | succ n ih =>
    rw [along, ih, along, show s + ((n + 1 : Nat) : Int) = s + 1 + (n : Int) from by omega]
theorem along_add (tag : List Nat) (c s : Int) (v : List Nat) (m n : Nat) : along tag c (s + m) (along tag c s v m) n = along tag c s v (m + n) := by
  induction n with
  | zero => rfl
  | succ n ih => rw [along, ih, ← Nat.add_assoc, along, show s + (m : Int) + (n : Int) = s + ((m + n : Nat) : Int) from by omega]
theorem alongN_succ (c n i x : Nat) : alongN c (n + 1) i x = fc (stepN c i x) fun y => alongN c n (Nat.succ i) y := rfl
theorem along_nat (c : Nat) (hc : c < 65536) : ∀ (n i : Nat) (v : List Nat), i + n < 65536 → v.length = 32 → (∀ b ∈ v, b < 256) → ofHigh (along tagB c i v n) = alongN c n i (ofHigh v) := by
  intro n
  induction n with
  | zero => intro i v _ _ _; rfl
  | succ n ih =>
    intro i v hi hl hb
    have := ih (i + 1) (stepK tagB c i v) (by omega) (stepK_lenN _ _ _ _) (stepK_ltN _ _ _ _)
    rw [along_front, alongN_succ, fc_eq, ← step_nat c i hc (by omega) v hl hb, ← this]
    rfl
/-! begin -/
def infoC : List Nat := [5, 99, 104, 97, 105, 110, 0, 0, 0, 2]
noncomputable def beginN (i : Nat) : Nat :=
  fc (Nat.add (Nat.mul (Nat.add (Nat.mul (ofHigh (mixB seedB 0x36)) 20282409603651670423947251286016) (Nat.add (Nat.mul (Nat.add (Nat.mul (ofHigh infoC) 65536) i) 256) 1)) 661055968790248598951915308032771039828404682964281219284648795274405791236311345825189210439715284847591212025023358304256) 330527984395124299475957654016385519914202341482140609642324397637202895618155672912594605219857642423795606012511679152744) fun P =>
  fc (digN P 2 startN) fun D =>
  fc (Nat.add (Nat.mul (Nat.add (Nat.mul (ofHigh (mixB seedB 0x5c)) 115792089237316195423570985008687907853269984665640564039457584007913129639936) D) 115792089237316195423570985008687907853269984665640564039457584007913129639936) 57896044618658097711785492504343953926634992332820282019728792003956564820736) fun Q => digN Q 2 startN
theorem mixB_lenN {k : List Nat} (hk : k.length = 32) (x : Nat) : (mixB k x).length = 64 := by rw [mixB, List.length_map, keyBlock, List.length_append, List.length_replicate, hk]
theorem begin_nat (i : Nat) (hi : i < 65536) : ofHigh (beginK seedB i) = beginN i := by
  obtain ⟨ms, hm⟩ : ∃ ms, ms = infoB chainLab [highB (u64n i) 2] ++ [1] := ⟨_, rfl⟩
  have em : ms = infoC ++ highB i 2 ++ [1] := by
    rw [hm, u64n_nat i hi]
    simp only [infoB, List.foldl_cons, List.foldl_nil, highB_len]
    rfl
  have hml : ms.length = 13 := by rw [em]; simp [highB_len, infoC]
  have hmb : ∀ b ∈ ms, b < 256 := by
    intro b h
    rw [em] at h
    simp only [List.mem_append, List.mem_singleton] at h
    rcases h with (h | h) | h
    · exact (by decide : ∀ b ∈ infoC, b < 256) b h
    · exact highB_ltN _ _ b h
    · subst h; decide
  have hmn : ofHigh ms = Nat.add (Nat.mul (Nat.add (Nat.mul (ofHigh infoC) 65536) i) 256) 1 := by
    rw [em, ofHigh_snoc, ofHigh_append, highB_len, ofHigh_highB, Nat.mod_eq_of_lt (show i < 256 ^ 2 from hi)]
    rfl
  have h36b : ∀ b ∈ mixB seedB 0x36, b < 256 := by decide +kernel
  have h5cb : ∀ b ∈ mixB seedB 0x5c, b < 256 := by decide +kernel
  have h36l := mixB_lenN seedB_len 0x36
  have h5cl := mixB_lenN seedB_len 0x5c
  obtain ⟨A, hA⟩ : ∃ A, A = mixB seedB 0x36 := ⟨_, rfl⟩
  obtain ⟨B, hB⟩ : ∃ B, B = mixB seedB 0x5c := ⟨_, rfl⟩
  rw [beginK, derive, ← hm, hmac, beginN]
  rw [← hA] at h36b h36l ⊢
  rw [← hB] at h5cb h5cl ⊢
  have hxl : (A ++ ms).length = 77 := by rw [List.length_append, h36l, hml]
  have hxb : ∀ b ∈ A ++ ms, b < 256 := fun b h => (List.mem_append.1 h).elim (h36b b) (hmb b)
  have hin : ofHigh (digest (A ++ ms)) = digN (Nat.add (Nat.mul (Nat.add (Nat.mul (ofHigh A) 20282409603651670423947251286016) (ofHigh ms)) 661055968790248598951915308032771039828404682964281219284648795274405791236311345825189210439715284847591212025023358304256) 330527984395124299475957654016385519914202341482140609642324397637202895618155672912594605219857642423795606012511679152744) 2 startN := by
    rw [digest_nat _ (padded_lt hxb) 2 (padded_lenN _ 77 42 hxl rfl), padded_nat _ 77 42 hxl rfl, ofHigh_append, hml, show (256 : Nat) ^ 13 = 20282409603651670423947251286016 from by decide +kernel, show (256 : Nat) ^ (42 + 9) = 661055968790248598951915308032771039828404682964281219284648795274405791236311345825189210439715284847591212025023358304256 from by decide +kernel, show 128 * 256 ^ (42 + 8) + 77 * 8 % 256 ^ 8 = 330527984395124299475957654016385519914202341482140609642324397637202895618155672912594605219857642423795606012511679152744 from by decide +kernel]
    rfl
  obtain ⟨D, hD⟩ : ∃ D, D = digest (A ++ ms) := ⟨_, rfl⟩
  have hDl : D.length = 32 := by rw [hD]; exact digest_len _
  have hDb : ∀ b ∈ D, b < 256 := by rw [hD]; exact digest_lt _
  rw [← hD] at hin ⊢
  have hyl : (B ++ D).length = 96 := by rw [List.length_append, h5cl, hDl]
  have hyb : ∀ b ∈ B ++ D, b < 256 := fun b h => (List.mem_append.1 h).elim (h5cb b) (hDb b)
  rw [digest_nat _ (padded_lt hyb) 2 (padded_lenN _ 96 23 hyl rfl), padded_nat _ 96 23 hyl rfl, ofHigh_append, hDl, fc_eq, fc_eq, fc_eq, ← hmn, ← hin, show (256 : Nat) ^ 32 = 115792089237316195423570985008687907853269984665640564039457584007913129639936 from by decide +kernel, show 128 * 256 ^ (23 + 8) + 96 * 8 % 256 ^ 8 = 57896044618658097711785492504343953926634992332820282019728792003956564820736 from by decide +kernel]
  rfl
/-! the end -/
noncomputable def foldN (L : List Nat) : Nat → Nat := List.rec (motive := fun _ => Nat → Nat) (fun a => a) (fun x _ ih a => fc (Nat.add (Nat.mul a 115792089237316195423570985008687907853269984665640564039457584007913129639936) x) ih) L
theorem foldN_cons (x : Nat) (L : List Nat) (a : Nat) : foldN (x :: L) a = fc (Nat.add (Nat.mul a 115792089237316195423570985008687907853269984665640564039457584007913129639936) x) (foldN L) := rfl
noncomputable def finN (L : List Nat) : Nat := fc (Nat.add (Nat.mul (foldN L tagN) 13407807929942597099574024998205846127479365820592393377723561443721764030073546976801874298166903427690031858186486050853753882811946569946433649006084096) 6703903964971298549787012499102923063739682910296196688861780721860882015036773488400937149083451713845015929093243025426876941405973284973216824503059456) fun P => digN P 35 startN
theorem fold_nat : ∀ (KS : List (List Nat)) (xs : List Nat), KeysB KS → ofHigh (xs ++ KS.flatten) = foldN (KS.map ofHigh) (ofHigh xs) := by
  intro KS
  induction KS with
  | nil => intro xs _; rw [List.flatten_nil, List.append_nil]; rfl
  | cons k KS ih =>
    intro xs h
    have hk := h k (List.mem_cons_self ..)
    rw [List.flatten_cons, ← List.append_assoc, ih _ (fun y hy => h y (List.mem_cons_of_mem _ hy)), List.map_cons, foldN_cons, fc_eq, ofHigh_append, hk.1, show (256 : Nat) ^ 32 = 115792089237316195423570985008687907853269984665640564039457584007913129639936 from by decide +kernel]
    rfl
theorem fin_nat (KS : List (List Nat)) (hl : KS.length = 67) (h : KeysB KS) : ofHigh (digest (tagB ++ KS.flatten)) = finN (KS.map ofHigh) := by
  have hxl : (tagB ++ KS.flatten).length = 2176 := by rw [List.length_append, tagB_len, keys_len h, hl]
  have hxb : ∀ b ∈ tagB ++ KS.flatten, b < 256 := by
    intro b hb
    rcases List.mem_append.1 hb with hb | hb
    · exact tagB_lt b hb
    · obtain ⟨k, hk, hb⟩ := List.mem_flatten.1 hb
      exact (h k hk).2 b hb
  rw [digest_nat _ (padded_lt hxb) 35 (padded_lenN _ 2176 55 hxl rfl), padded_nat _ 2176 55 hxl rfl, fold_nat KS tagB h, finN, fc_eq, show ofHigh tagB = tagN from by decide +kernel, show (256 : Nat) ^ (55 + 9) = 13407807929942597099574024998205846127479365820592393377723561443721764030073546976801874298166903427690031858186486050853753882811946569946433649006084096 from by decide +kernel, show 128 * 256 ^ (55 + 8) + 2176 * 8 % 256 ^ 8 = 6703903964971298549787012499102923063739682910296196688861780721860882015036773488400937149083451713845015929093243025426876941405973284973216824503059456 from by decide +kernel]
  rfl
/-- the right digest's key is the public key -/
theorem recover_sign (seed tag d : List Nat) (hd : d.length = 32) (hdb : ∀ b ∈ d, b < 256) : recoverK tag d (sigs seed tag (digits d) 67) = publicK seed tag := by
  rw [recoverK, publicK]
  congr 3
  refine List.map_congr_left fun i hi => ?_
  have hi := List.mem_range.1 hi
  have hs : (sigs seed tag (digits d) 67).getD i [] = sigK seed tag (digits d) i := by simp [List.getD, sigs, hi]
  have hx : (digits d).getD i 0 < 16 := by
    have hid : i < (digits d).length := by rw [digits_len hd]; exact hi
    rw [show (digits d).getD i 0 = (digits d)[i] from by simp [List.getD, hid]]
    exact digits_lt hdb hd _ (List.getElem_mem _)
  rw [recK, hs, sigK, topK]
  have := along_add tag i 0 (beginK seed i) ((digits d).getD i 0) (15 - (digits d).getD i 0)
  rw [Int.zero_add] at this
  rw [this, show (digits d).getD i 0 + (15 - (digits d).getD i 0) = 15 from by omega]
end Go.Proofs.YtejifhdkgfilgaaDoor
