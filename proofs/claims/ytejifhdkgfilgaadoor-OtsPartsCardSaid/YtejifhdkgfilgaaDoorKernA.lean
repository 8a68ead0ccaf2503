/- The digest at numbers, for the kernel. -/
import Derived.Test.YtejifhdkgfilgaaDoorDigest
namespace Go.Proofs.YtejifhdkgfilgaaDoor
noncomputable def fc {α : Type} (x : Nat) (k : Nat → α) : α := Nat.rec (motive := fun _ => α) (k 0) (fun n _ => k (Nat.succ n)) x
theorem fc_eq {α : Type} (x : Nat) (k : Nat → α) : fc x k = k x := by cases x <;> rfl
def dbl (x : Nat) : Nat := Nat.mul x 4294967297
noncomputable def schedN (w0 w1 w9 w14 : Nat) : Nat := fc (dbl w1) fun y => fc (dbl w14) fun z => Nat.mod (Nat.add (Nat.add (Nat.add w0 (Nat.xor (Nat.mod (Nat.xor (Nat.shiftRight y 7) (Nat.shiftRight y 18)) 4294967296) (Nat.shiftRight w1 3))) w9) (Nat.xor (Nat.mod (Nat.xor (Nat.shiftRight z 17) (Nat.shiftRight z 19)) 4294967296) (Nat.shiftRight w14 10))) 4294967296
noncomputable def oneN (e f g h k w : Nat) : Nat := fc (dbl e) fun y => Nat.add (Nat.add (Nat.add (Nat.add h (Nat.mod (Nat.xor (Nat.xor (Nat.shiftRight y 6) (Nat.shiftRight y 11)) (Nat.shiftRight y 25)) 4294967296)) (Nat.xor g (Nat.land e (Nat.xor f g)))) k) w
noncomputable def twoN (a b c : Nat) : Nat := fc (dbl a) fun y => Nat.add (Nat.mod (Nat.xor (Nat.xor (Nat.shiftRight y 2) (Nat.shiftRight y 13)) (Nat.shiftRight y 22)) 4294967296) (Nat.xor (Nat.land a (Nat.xor b c)) (Nat.land b c))
noncomputable def roundsN (fin : Nat → Nat → Nat → Nat → Nat → Nat → Nat → Nat → Nat) (ks : List Nat) : Nat → Nat → Nat → Nat → Nat → Nat → Nat → Nat → Nat → Nat → Nat → Nat → Nat → Nat → Nat → Nat → Nat → Nat → Nat → Nat → Nat → Nat → Nat → Nat → Nat :=
  List.rec (motive := fun _ => Nat → Nat → Nat → Nat → Nat → Nat → Nat → Nat → Nat → Nat → Nat → Nat → Nat → Nat → Nat → Nat → Nat → Nat → Nat → Nat → Nat → Nat → Nat → Nat → Nat) (fun w0 w1 w2 w3 w4 w5 w6 w7 w8 w9 w10 w11 w12 w13 w14 w15 a b c d e f g h => fin a b c d e f g h)
    (fun k _ ih w0 w1 w2 w3 w4 w5 w6 w7 w8 w9 w10 w11 w12 w13 w14 w15 a b c d e f g h => fc (schedN w0 w1 w9 w14) fun x => fc (oneN e f g h k w0) fun t1 => fc (twoN a b c) fun t2 =>
      fc (Nat.mod (Nat.add t1 t2) 4294967296) fun a2 => fc (Nat.mod (Nat.add d t1) 4294967296) fun e2 => ih w1 w2 w3 w4 w5 w6 w7 w8 w9 w10 w11 w12 w13 w14 w15 x a2 a b c e2 e f g) ks
def word (B i : Nat) : Nat := Nat.mod (Nat.shiftRight B i) 4294967296
noncomputable def compN (S B : Nat) : Nat := fc (word S 224) fun a0 => fc (word S 192) fun b0 => fc (word S 160) fun c0 => fc (word S 128) fun d0 => fc (word S 96) fun e0 => fc (word S 64) fun f0 => fc (word S 32) fun g0 => fc (word S 0) fun h0 => fc (word B 480) fun w0 => fc (word B 448) fun w1 => fc (word B 416) fun w2 => fc (word B 384) fun w3 => fc (word B 352) fun w4 => fc (word B 320) fun w5 => fc (word B 288) fun w6 => fc (word B 256) fun w7 => fc (word B 224) fun w8 => fc (word B 192) fun w9 => fc (word B 160) fun w10 => fc (word B 128) fun w11 => fc (word B 96) fun w12 => fc (word B 64) fun w13 => fc (word B 32) fun w14 => fc (word B 0) fun w15 =>  roundsN (fun a b c d e f g h => Nat.add (Nat.mul (Nat.add (Nat.mul (Nat.add (Nat.mul (Nat.add (Nat.mul (Nat.add (Nat.mul (Nat.add (Nat.mul (Nat.add (Nat.mul (Nat.mod (Nat.add a a0) 4294967296) 4294967296) (Nat.mod (Nat.add b b0) 4294967296)) 4294967296) (Nat.mod (Nat.add c c0) 4294967296)) 4294967296) (Nat.mod (Nat.add d d0) 4294967296)) 4294967296) (Nat.mod (Nat.add e e0) 4294967296)) 4294967296) (Nat.mod (Nat.add f f0) 4294967296)) 4294967296) (Nat.mod (Nat.add g g0) 4294967296)) 4294967296) (Nat.mod (Nat.add h h0) 4294967296)) kTab w0 w1 w2 w3 w4 w5 w6 w7 w8 w9 w10 w11 w12 w13 w14 w15 a0 b0 c0 d0 e0 f0 g0 h0

/-! words -/
theorem rr_nat (x : W32) (n : Nat) (hn : n < 32) : (rr x n).toNat = Nat.mod (Nat.shiftRight (dbl x.toNat) n) 4294967296 := by
  show _ = ((x.toNat * 4294967297) >>> n) % 2 ^ 32
  rw [show x.toNat * 4294967297 = 2 ^ 32 * x.toNat + x.toNat from by omega, Nat.two_pow_add_eq_or_of_lt x.isLt]
  apply Nat.eq_of_testBit_eq
  intro i
  have hx : ∀ j, 32 ≤ j → x.toNat.testBit j = false := fun j hj => Nat.testBit_lt_two_pow (Nat.lt_of_lt_of_le x.isLt (Nat.pow_le_pow_right (by decide) hj))
  simp only [rr, BitVec.toNat_or, BitVec.toNat_ushiftRight, BitVec.toNat_shiftLeft, Nat.testBit_or, Nat.testBit_mod_two_pow, Nat.testBit_shiftRight, Nat.testBit_shiftLeft, Nat.testBit_two_pow_mul]
  by_cases h : i < 32
  · by_cases h2 : 32 - n ≤ i
    · simp [h, h2, show 32 ≤ n + i from by omega, show i - (32 - n) = n + i - 32 from by omega, Bool.or_comm]
    · simp [h, h2, show ¬ 32 ≤ n + i from by omega]
  · simp [h, hx (n + i) (by omega)]
theorem xor_mod32 (a b : Nat) : (a ^^^ b) % 4294967296 = (a % 4294967296) ^^^ (b % 4294967296) := Nat.xor_mod_two_pow (n := 32)
theorem rr3 (x : W32) (n1 n2 n3 : Nat) (h1 : n1 < 32) (h2 : n2 < 32) (h3 : n3 < 32) :
    (rr x n1 ^^^ rr x n2 ^^^ rr x n3).toNat = Nat.mod (Nat.xor (Nat.xor (Nat.shiftRight (dbl x.toNat) n1) (Nat.shiftRight (dbl x.toNat) n2)) (Nat.shiftRight (dbl x.toNat) n3)) 4294967296 := by
  rw [BitVec.toNat_xor, BitVec.toNat_xor, rr_nat x n1 h1, rr_nat x n2 h2, rr_nat x n3 h3]
  show _ = (_ ^^^ _ ^^^ _) % 4294967296
  rw [xor_mod32, xor_mod32]
  rfl
theorem rr2 (x : W32) (n1 n2 n3 : Nat) (h1 : n1 < 32) (h2 : n2 < 32) :
    (rr x n1 ^^^ rr x n2 ^^^ (x >>> n3)).toNat = Nat.xor (Nat.mod (Nat.xor (Nat.shiftRight (dbl x.toNat) n1) (Nat.shiftRight (dbl x.toNat) n2)) 4294967296) (Nat.shiftRight x.toNat n3) := by
  rw [BitVec.toNat_xor, BitVec.toNat_xor, rr_nat x n1 h1, rr_nat x n2 h2, BitVec.toNat_ushiftRight]
  show _ = (_ ^^^ _) % 4294967296 ^^^ _
  rw [xor_mod32]
  rfl
theorem ch_bits (e f g : W32) : (e &&& f) ^^^ (~~~e &&& g) = g ^^^ (e &&& (f ^^^ g)) := by
  ext i hi
  simp
  cases e[i] <;> cases f[i] <;> cases g[i] <;> rfl
theorem maj_bits (a b c : W32) : (a &&& b) ^^^ (a &&& c) ^^^ (b &&& c) = (a &&& (b ^^^ c)) ^^^ (b &&& c) := by
  ext i hi
  simp
  cases a[i] <;> cases b[i] <;> cases c[i] <;> rfl
theorem sched_nat (B : Nat → W32) (t : Nat) : schedN (sched B t).toNat (sched B (t + 1)).toNat (sched B (t + 9)).toNat (sched B (t + 14)).toNat = (sched B (t + 16)).toNat := by
  rw [schedN, fc_eq, fc_eq, ← rr2 _ 7 18 3 (by decide) (by decide), ← rr2 _ 17 19 10 (by decide) (by decide)]
  have e : sched B (t + 16) = sched B t + sig0 (sched B (t + 1)) + sched B (t + 9) + sig1 (sched B (t + 14)) := by
    rw [sched, dif_neg (by omega), show t + 16 - 16 = t from by omega, show t + 16 - 15 = t + 1 from by omega, show t + 16 - 7 = t + 9 from by omega, show t + 16 - 2 = t + 14 from by omega]
  rw [e, BitVec.toNat_add, BitVec.toNat_add, BitVec.toNat_add]
  show (_ + (sig0 _).toNat + _ + (sig1 _).toNat) % 4294967296 = _
  omega
theorem one_nat (s : St) (k w : W32) : oneN s.e.toNat s.f.toNat s.g.toNat s.h.toNat k.toNat w.toNat % 4294967296 = (tOne s k w).toNat := by
  rw [oneN, fc_eq, ← rr3 _ 6 11 25 (by decide) (by decide) (by decide), tOne, ch_bits, BitVec.toNat_add, BitVec.toNat_add, BitVec.toNat_add, BitVec.toNat_add, BitVec.toNat_xor s.g, BitVec.toNat_and, BitVec.toNat_xor s.f]
  show (s.h.toNat + (rr s.e 6 ^^^ rr s.e 11 ^^^ rr s.e 25).toNat + (s.g.toNat ^^^ (s.e.toNat &&& (s.f.toNat ^^^ s.g.toNat))) + k.toNat + w.toNat) % 4294967296 = _
  omega
theorem two_nat (s : St) : twoN s.a.toNat s.b.toNat s.c.toNat % 4294967296 = (tTwo s).toNat := by
  rw [twoN, fc_eq, ← rr3 _ 2 13 22 (by decide) (by decide) (by decide), tTwo, maj_bits, BitVec.toNat_add, BitVec.toNat_xor (s.a &&& _), BitVec.toNat_and, BitVec.toNat_xor s.b, BitVec.toNat_and]
  rfl
theorem kTab_len : kTab.length = 64 := rfl
theorem kTab_ltN : ∀ k ∈ kTab, k < 4294967296 := by decide
theorem rounds_nat (fin : Nat → Nat → Nat → Nat → Nat → Nat → Nat → Nat → Nat) (B : Nat → W32) (s : St) : ∀ (n t : Nat), t + n = 64 →
    roundsN fin (kTab.drop t) (sched B t).toNat (sched B (t + 1)).toNat (sched B (t + 2)).toNat (sched B (t + 3)).toNat (sched B (t + 4)).toNat (sched B (t + 5)).toNat (sched B (t + 6)).toNat (sched B (t + 7)).toNat (sched B (t + 8)).toNat (sched B (t + 9)).toNat (sched B (t + 10)).toNat (sched B (t + 11)).toNat (sched B (t + 12)).toNat (sched B (t + 13)).toNat (sched B (t + 14)).toNat (sched B (t + 15)).toNat (roundsS kWord (sched B) s t).a.toNat (roundsS kWord (sched B) s t).b.toNat (roundsS kWord (sched B) s t).c.toNat (roundsS kWord (sched B) s t).d.toNat (roundsS kWord (sched B) s t).e.toNat (roundsS kWord (sched B) s t).f.toNat (roundsS kWord (sched B) s t).g.toNat (roundsS kWord (sched B) s t).h.toNat =
    fin (roundsS kWord (sched B) s 64).a.toNat (roundsS kWord (sched B) s 64).b.toNat (roundsS kWord (sched B) s 64).c.toNat (roundsS kWord (sched B) s 64).d.toNat (roundsS kWord (sched B) s 64).e.toNat (roundsS kWord (sched B) s 64).f.toNat (roundsS kWord (sched B) s 64).g.toNat (roundsS kWord (sched B) s 64).h.toNat := by
  intro n
  induction n with
  | zero =>
    intro t h
    obtain rfl : t = 64 := by omega
    rw [List.drop_of_length_le (by rw [kTab_len]; exact Nat.le_refl _)]
    rfl
  | succ n ih =>
    intro t h
    have ht : t < kTab.length := by rw [kTab_len]; omega
    have hk : (kWord t).toNat = kTab[t] := by
      rw [kWord, BitVec.toNat_ofNat, show kTab.getD t 0 = kTab[t] from by simp [List.getD, ht]]
      exact Nat.mod_eq_of_lt (kTab_ltN _ (List.getElem_mem _))
    rw [List.drop_eq_getElem_cons ht, ← ih (t + 1) (by omega)]
    generalize hs : roundsS kWord (sched B) s t = S
    have hr : roundsS kWord (sched B) s (t + 1) = roundS S (kWord t) (sched B t) := by rw [roundsS, hs]
    rw [hr]
    conv => lhs; unfold roundsN
    show fc _ _ = _
    rw [fc_eq, fc_eq, fc_eq, fc_eq, fc_eq, sched_nat, ← hk]
    have ea : Nat.mod (Nat.add (oneN S.e.toNat S.f.toNat S.g.toNat S.h.toNat (kWord t).toNat (sched B t).toNat) (twoN S.a.toNat S.b.toNat S.c.toNat)) 4294967296 = (roundS S (kWord t) (sched B t)).a.toNat := by
      show (_ + _) % 4294967296 = (tOne S (kWord t) (sched B t) + tTwo S).toNat
      rw [BitVec.toNat_add, ← one_nat, ← two_nat]
      omega
    have ee : Nat.mod (Nat.add S.d.toNat (oneN S.e.toNat S.f.toNat S.g.toNat S.h.toNat (kWord t).toNat (sched B t).toNat)) 4294967296 = (roundS S (kWord t) (sched B t)).e.toNat := by
      show (_ + _) % 4294967296 = (S.d + tOne S (kWord t) (sched B t)).toNat
      rw [BitVec.toNat_add, ← one_nat]
      omega
    rw [ea, ee]
    rfl
/-! numbers of bytes -/
theorem ofHigh_cons_aux (xs : List Nat) : ∀ n : Nat, xs.foldl (fun n c => n * 256 + c) n = n * 256 ^ xs.length + ofHigh xs := by
  induction xs with
  | nil => intro n; simp [ofHigh]
  | cons x xs ih =>
    intro n
    have e : ofHigh (x :: xs) = x * 256 ^ xs.length + ofHigh xs := by
      show (x :: xs).foldl (fun n c => n * 256 + c) 0 = _
      rw [List.foldl_cons, ih, Nat.zero_mul, Nat.zero_add]
    rw [List.foldl_cons, ih, e, List.length_cons, Nat.pow_succ, Nat.add_mul, Nat.add_assoc, Nat.mul_assoc, Nat.mul_comm 256]
theorem ofHigh_append (xs ys : List Nat) : ofHigh (xs ++ ys) = ofHigh xs * 256 ^ ys.length + ofHigh ys := by
  rw [ofHigh, List.foldl_append, ofHigh_cons_aux]; rfl
theorem ofHigh_bound {xs : List Nat} (h : ∀ b ∈ xs, b < 256) : ofHigh xs < 256 ^ xs.length := by
  have := ofHigh_lt xs h xs.length (Nat.le_refl _)
  rwa [List.take_length] at this
theorem ofHigh_mid (pre mid post : List Nat) (hm : ∀ b ∈ mid, b < 256) (hp : ∀ b ∈ post, b < 256) : ofHigh (pre ++ mid ++ post) / 256 ^ post.length % 256 ^ mid.length = ofHigh mid := by
  rw [ofHigh_append, Nat.mul_comm _ (256 ^ _), Nat.mul_add_div (Nat.pow_pos (by decide)), Nat.div_eq_of_lt (ofHigh_bound hp), Nat.add_zero, ofHigh_append, Nat.mul_comm _ (256 ^ _), Nat.mul_add_mod, Nat.mod_eq_of_lt (ofHigh_bound hm)]
theorem ofHigh_slice (xs : List Nat) (h : ∀ b ∈ xs, b < 256) (o n : Nat) (hn : o + n ≤ xs.length) : ofHigh ((xs.drop o).take n) = ofHigh xs / 256 ^ (xs.length - o - n) % 256 ^ n := by
  have e : xs = xs.take o ++ (xs.drop o).take n ++ (xs.drop o).drop n := by rw [List.append_assoc, List.take_append_drop, List.take_append_drop]
  have h1 : ((xs.drop o).take n).length = n := by rw [List.length_take, List.length_drop]; omega
  have h2 : ((xs.drop o).drop n).length = xs.length - o - n := by rw [List.length_drop, List.length_drop]
  have := ofHigh_mid (xs.take o) ((xs.drop o).take n) ((xs.drop o).drop n) (fun b hb => h b (List.mem_of_mem_drop (List.mem_of_mem_take hb))) (fun b hb => h b (List.mem_of_mem_drop (List.mem_of_mem_drop hb)))
  rw [← e, h1, h2] at this
  exact this.symm
theorem ofHigh_highB (n : Nat) : ∀ k : Nat, ofHigh (highB n k) = n % 256 ^ k := by
  intro k
  induction k generalizing n with
  | zero => simp [highB, ofHigh, Nat.mod_one]
  | succ k ih =>
    have e : highB n (k + 1) = highB (n / 256) k ++ [n % 256] := by
      rw [highB, List.range_succ, List.map_append, highB]
      congr 1
      · apply List.map_congr_left
        intro i hi
        have hi := List.mem_range.1 hi
        rw [show 8 * (k + 1 - 1 - i) = 8 + 8 * (k - 1 - i) from by omega, Nat.pow_add, ← Nat.div_div_eq_div_mul]
      · simp
    rw [e, ofHigh_snoc, ih, Nat.pow_succ, Nat.mul_comm (256 ^ k), Nat.mod_mul, Nat.mul_comm, Nat.add_comm]
theorem ofHigh_inj : ∀ {xs ys : List Nat}, xs.length = ys.length → (∀ b ∈ xs, b < 256) → (∀ b ∈ ys, b < 256) → ofHigh xs = ofHigh ys → xs = ys := by
  intro xs
  induction xs with
  | nil => intro ys h _ _ _; exact (List.eq_nil_of_length_eq_zero h.symm).symm
  | cons x xs ih =>
    intro ys h h1 h2 e
    cases ys with
    | nil => simp at h
    | cons y ys =>
      have hl : xs.length = ys.length := by simpa using h
      have ex : ofHigh (x :: xs) = x * 256 ^ xs.length + ofHigh xs := by
        have := ofHigh_append [x] xs
        simpa [ofHigh] using this
      have ey : ofHigh (y :: ys) = y * 256 ^ xs.length + ofHigh ys := by
        have := ofHigh_append [y] ys
        rw [hl]
        simpa [ofHigh] using this
      have b1 := ofHigh_bound (xs := xs) fun b hb => h1 b (List.mem_cons_of_mem _ hb)
      have b2 := ofHigh_bound (xs := ys) fun b hb => h2 b (List.mem_cons_of_mem _ hb)
      rw [← hl] at b2
      rw [ex, ey] at e
      have hxy : x = y := by
        have e1 : (x * 256 ^ xs.length + ofHigh xs) / 256 ^ xs.length = x := by rw [Nat.mul_comm, Nat.mul_add_div (Nat.pow_pos (by decide)), Nat.div_eq_of_lt b1, Nat.add_zero]
        have e2 : (y * 256 ^ xs.length + ofHigh ys) / 256 ^ xs.length = y := by rw [Nat.mul_comm, Nat.mul_add_div (Nat.pow_pos (by decide)), Nat.div_eq_of_lt b2, Nat.add_zero]
        rw [← e1, ← e2, e]
      subst hxy
      rw [ih hl (fun b hb => h1 b (List.mem_cons_of_mem _ hb)) (fun b hb => h2 b (List.mem_cons_of_mem _ hb)) (by omega)]
end Go.Proofs.YtejifhdkgfilgaaDoor
