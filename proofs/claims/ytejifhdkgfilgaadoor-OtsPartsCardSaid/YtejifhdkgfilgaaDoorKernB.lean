/- The digest at numbers, for the kernel: whole messages. -/
import Derived.Test.YtejifhdkgfilgaaDoorKernA
namespace Go.Proofs.YtejifhdkgfilgaaDoor
def packS (s : St) : Nat := Nat.add (Nat.mul (Nat.add (Nat.mul (Nat.add (Nat.mul (Nat.add (Nat.mul (Nat.add (Nat.mul (Nat.add (Nat.mul (Nat.add (Nat.mul (s.a.toNat) 4294967296) (s.b.toNat)) 4294967296) (s.c.toNat)) 4294967296) (s.d.toNat)) 4294967296) (s.e.toNat)) 4294967296) (s.f.toNat)) 4294967296) (s.g.toNat)) 4294967296) (s.h.toNat)
theorem word_lo (S x : Nat) (h : x < 4294967296) : word (Nat.add (Nat.mul S 4294967296) x) 0 = x := by
  show ((S * 4294967296 + x) >>> 0) % 4294967296 = x
  rw [Nat.shiftRight_zero]; omega
theorem word_top (x : Nat) (h : x < 4294967296) : word x 0 = x := by
  show (x >>> 0) % 4294967296 = x
  rw [Nat.shiftRight_zero]; omega
theorem word_hi' (S x k : Nat) (h : x < 4294967296) : word (Nat.add (Nat.mul S 4294967296) x) (k + 32) = word S k := by
  show ((S * 4294967296 + x) >>> (k + 32)) % 4294967296 = (S >>> k) % 4294967296
  rw [Nat.add_comm k 32, Nat.shiftRight_add, Nat.shiftRight_eq_div_pow _ 32, show (S * 4294967296 + x) / 2 ^ 32 = S from by omega]
theorem word_hi (S k : Nat) (x : W32) : word (Nat.add (Nat.mul S 4294967296) x.toNat) (k + 32) = word S k := word_hi' S _ k x.isLt
theorem word_blk (xs : List Nat) (hl : xs.length = 64) (hb : ∀ b ∈ xs, b < 256) (i : Nat) (hi : i < 16) : word (ofHigh xs) (32 * (15 - i)) = (sched (blockWord xs) i).toNat := by
  rw [sched, dif_pos hi, blockWord, BitVec.toNat_ofNat, ofHigh_slice xs hb (4 * i) 4 (by omega), hl]
  show (ofHigh xs >>> (32 * (15 - i))) % 4294967296 = _
  rw [Nat.shiftRight_eq_div_pow, show (256 : Nat) = 2 ^ 8 from rfl, ← Nat.pow_mul, show 8 * (64 - 4 * i - 4) = 32 * (15 - i) from by omega, Nat.mod_mod]
theorem add_nat (x y : W32) : (x + y).toNat = Nat.mod (Nat.add x.toNat y.toNat) 4294967296 := BitVec.toNat_add x y
set_option maxRecDepth 100000 in
theorem comp_nat (s : St) (xs : List Nat) (hl : xs.length = 64) (hb : ∀ b ∈ xs, b < 256) : compN (packS s) (ofHigh xs) = packS (compress s xs) := by
  have h0 : word (ofHigh xs) 480 = (sched (blockWord xs) 0).toNat := word_blk xs hl hb 0 (by decide)
  have h1 : word (ofHigh xs) 448 = (sched (blockWord xs) 1).toNat := word_blk xs hl hb 1 (by decide)
  have h2 : word (ofHigh xs) 416 = (sched (blockWord xs) 2).toNat := word_blk xs hl hb 2 (by decide)
  have h3 : word (ofHigh xs) 384 = (sched (blockWord xs) 3).toNat := word_blk xs hl hb 3 (by decide)
  have h4 : word (ofHigh xs) 352 = (sched (blockWord xs) 4).toNat := word_blk xs hl hb 4 (by decide)
  have h5 : word (ofHigh xs) 320 = (sched (blockWord xs) 5).toNat := word_blk xs hl hb 5 (by decide)
  have h6 : word (ofHigh xs) 288 = (sched (blockWord xs) 6).toNat := word_blk xs hl hb 6 (by decide)
  have h7 : word (ofHigh xs) 256 = (sched (blockWord xs) 7).toNat := word_blk xs hl hb 7 (by decide)
  have h8 : word (ofHigh xs) 224 = (sched (blockWord xs) 8).toNat := word_blk xs hl hb 8 (by decide)
  have h9 : word (ofHigh xs) 192 = (sched (blockWord xs) 9).toNat := word_blk xs hl hb 9 (by decide)
  have h10 : word (ofHigh xs) 160 = (sched (blockWord xs) 10).toNat := word_blk xs hl hb 10 (by decide)
  have h11 : word (ofHigh xs) 128 = (sched (blockWord xs) 11).toNat := word_blk xs hl hb 11 (by decide)
  have h12 : word (ofHigh xs) 96 = (sched (blockWord xs) 12).toNat := word_blk xs hl hb 12 (by decide)
  have h13 : word (ofHigh xs) 64 = (sched (blockWord xs) 13).toNat := word_blk xs hl hb 13 (by decide)
  have h14 : word (ofHigh xs) 32 = (sched (blockWord xs) 14).toNat := word_blk xs hl hb 14 (by decide)
  have h15 : word (ofHigh xs) 0 = (sched (blockWord xs) 15).toNat := word_blk xs hl hb 15 (by decide)
  have ga : word (packS s) 224 = s.a.toNat := by rw [packS, word_hi, word_hi, word_hi, word_hi, word_hi, word_hi, word_hi]; exact word_top _ s.a.isLt
  have gb : word (packS s) 192 = s.b.toNat := by rw [packS, word_hi, word_hi, word_hi, word_hi, word_hi, word_hi]; exact word_lo _ _ s.b.isLt
  have gc : word (packS s) 160 = s.c.toNat := by rw [packS, word_hi, word_hi, word_hi, word_hi, word_hi]; exact word_lo _ _ s.c.isLt
  have gd : word (packS s) 128 = s.d.toNat := by rw [packS, word_hi, word_hi, word_hi, word_hi]; exact word_lo _ _ s.d.isLt
  have ge : word (packS s) 96 = s.e.toNat := by rw [packS, word_hi, word_hi, word_hi]; exact word_lo _ _ s.e.isLt
  have gf : word (packS s) 64 = s.f.toNat := by rw [packS, word_hi, word_hi]; exact word_lo _ _ s.f.isLt
  have gg : word (packS s) 32 = s.g.toNat := by rw [packS, word_hi]; exact word_lo _ _ s.g.isLt
  have gh : word (packS s) 0 = s.h.toNat := by rw [packS]; exact word_lo _ _ s.h.isLt
  rw [compN]
  simp only [fc_eq]
  rw [ga, gb, gc, gd, ge, gf, gg, gh, h0, h1, h2, h3, h4, h5, h6, h7, h8, h9, h10, h11, h12, h13, h14, h15]
  have := rounds_nat (fun a b c d e f g h => Nat.add (Nat.mul (Nat.add (Nat.mul (Nat.add (Nat.mul (Nat.add (Nat.mul (Nat.add (Nat.mul (Nat.add (Nat.mul (Nat.add (Nat.mul (Nat.mod (Nat.add a s.a.toNat) 4294967296) 4294967296) (Nat.mod (Nat.add b s.b.toNat) 4294967296)) 4294967296) (Nat.mod (Nat.add c s.c.toNat) 4294967296)) 4294967296) (Nat.mod (Nat.add d s.d.toNat) 4294967296)) 4294967296) (Nat.mod (Nat.add e s.e.toNat) 4294967296)) 4294967296) (Nat.mod (Nat.add f s.f.toNat) 4294967296)) 4294967296) (Nat.mod (Nat.add g s.g.toNat) 4294967296)) 4294967296) (Nat.mod (Nat.add h s.h.toNat) 4294967296)) (blockWord xs) s 64 0 rfl
  simp only [List.drop_zero, Nat.zero_add, show roundsS kWord (sched (blockWord xs)) s 0 = s from rfl] at this
  rw [this, compress]
  generalize roundsS kWord (sched (blockWord xs)) s 64 = R
  simp only [packS, addS, add_nat]
/-- the blocks of P, from the n-th last on -/
noncomputable def digN (P n : Nat) : Nat → Nat := Nat.rec (motive := fun _ => Nat → Nat) (fun S => S) (fun k ih S => fc (Nat.mod (Nat.shiftRight P (Nat.mul 512 k)) 13407807929942597099574024998205846127479365820592393377723561443721764030073546976801874298166903427690031858186486050853753882811946569946433649006084096) fun B => fc (compN S B) ih) n
theorem digN_succ (P k S : Nat) : digN P (k + 1) S = fc (Nat.mod (Nat.shiftRight P (Nat.mul 512 k)) 13407807929942597099574024998205846127479365820592393377723561443721764030073546976801874298166903427690031858186486050853753882811946569946433649006084096) fun B => fc (compN S B) (digN P k) := rfl
theorem dig_nat (p : List Nat) (n : Nat) (hl : p.length = 64 * n) (hb : ∀ b ∈ p, b < 256) : ∀ k : Nat, k ≤ n → digN (ofHigh p) k (packS (stAfter p (n - k))) = packS (stAfter p n) := by
  intro k
  induction k with
  | zero => intro _; rfl
  | succ k ih =>
    intro hk
    have e : ofHigh (blk p (n - (k + 1))) = Nat.mod (Nat.shiftRight (ofHigh p) (Nat.mul 512 k)) 13407807929942597099574024998205846127479365820592393377723561443721764030073546976801874298166903427690031858186486050853753882811946569946433649006084096 := by
      rw [blk, ofHigh_slice p hb _ 64 (by omega), hl, show (256 : Nat) ^ 64 = 13407807929942597099574024998205846127479365820592393377723561443721764030073546976801874298166903427690031858186486050853753882811946569946433649006084096 from by decide +kernel]
      show _ = (ofHigh p >>> (512 * k)) % 13407807929942597099574024998205846127479365820592393377723561443721764030073546976801874298166903427690031858186486050853753882811946569946433649006084096
      rw [Nat.shiftRight_eq_div_pow, show (256 : Nat) = 2 ^ 8 from rfl, ← Nat.pow_mul, show 8 * (64 * n - 64 * (n - (k + 1)) - 64) = 512 * k from by omega]
    have hbl : (blk p (n - (k + 1))).length = 64 := by rw [blk, List.length_take, List.length_drop]; omega
    have hbb : ∀ b ∈ blk p (n - (k + 1)), b < 256 := fun b h => hb b (List.mem_of_mem_drop (List.mem_of_mem_take h))
    rw [digN_succ, fc_eq, fc_eq, ← e, comp_nat _ _ hbl hbb]
    rw [← ih (by omega), show n - k = (n - (k + 1)) + 1 from by omega, stAfter]
def startN : Nat := 0x6a09e667bb67ae853c6ef372a54ff53a510e527f9b05688c1f83d9ab5be0cd19
theorem start_nat : packS startS = startN := by decide +kernel
theorem highB_ltN (n k : Nat) : ∀ b ∈ highB n k, b < 256 := by
  intro b hb
  obtain ⟨i, _, rfl⟩ := List.mem_map.1 hb
  exact Nat.mod_lt _ (by decide)
theorem stBytes_nat (s : St) : ofHigh (stBytes s 8) = packS s := by
  have e : stBytes s 8 = (((((((highB s.a.toNat 4 ++ highB s.b.toNat 4) ++ highB s.c.toNat 4) ++ highB s.d.toNat 4) ++ highB s.e.toNat 4) ++ highB s.f.toNat 4) ++ highB s.g.toNat 4) ++ highB s.h.toNat 4) := by
    simp [stBytes, List.range, List.range.loop, St.get]
  rw [e]
  simp only [ofHigh_append, highB_len, ofHigh_highB]
  rw [Nat.mod_eq_of_lt (show s.a.toNat < 256 ^ 4 from s.a.isLt), Nat.mod_eq_of_lt (show s.b.toNat < 256 ^ 4 from s.b.isLt), Nat.mod_eq_of_lt (show s.c.toNat < 256 ^ 4 from s.c.isLt), Nat.mod_eq_of_lt (show s.d.toNat < 256 ^ 4 from s.d.isLt), Nat.mod_eq_of_lt (show s.e.toNat < 256 ^ 4 from s.e.isLt), Nat.mod_eq_of_lt (show s.f.toNat < 256 ^ 4 from s.f.isLt), Nat.mod_eq_of_lt (show s.g.toNat < 256 ^ 4 from s.g.isLt), Nat.mod_eq_of_lt (show s.h.toNat < 256 ^ 4 from s.h.isLt)]
  rfl
theorem digest_nat (xs : List Nat) (hb : ∀ b ∈ padded xs, b < 256) (n : Nat) (hn : (padded xs).length = 64 * n) : ofHigh (digest xs) = digN (ofHigh (padded xs)) n startN := by
  rw [digest, stBytes_nat, hn, Nat.mul_div_cancel_left _ (by decide), ← dig_nat _ n hn hb n (Nat.le_refl _), Nat.sub_self, stAfter, start_nat]
/-- the padded message's number -/
theorem padded_nat (xs : List Nat) (n : Nat) (z : Nat) (hl : xs.length = n) (hz : (119 - n % 64) % 64 = z) : ofHigh (padded xs) = ofHigh xs * 256 ^ (z + 9) + (128 * 256 ^ (z + 8) + n * 8 % 256 ^ 8) := by
  have hr : ∀ k : Nat, ofHigh (List.replicate k 0) = 0 := by
    intro k
    induction k with
    | zero => rfl
    | succ k ih => rw [List.replicate_succ', ofHigh_snoc, ih]
  have e : padB xs.length = [128] ++ List.replicate z 0 ++ highB (n * 8) 8 := by rw [padB, hl, hz]; simp
  rw [padded, e, ofHigh_append, ofHigh_append, ofHigh_append, ofHigh_highB, hr]
  simp only [List.length_append, List.length_replicate, List.length_cons, List.length_nil, highB_len]
  rw [show ofHigh [128] = 128 from rfl, show 0 + 1 + z + 8 = z + 9 from by omega]
  simp only [Nat.add_zero, Nat.pow_add 256 z 8, Nat.mul_assoc]
theorem padded_lt {xs : List Nat} (h : ∀ b ∈ xs, b < 256) : ∀ b ∈ padded xs, b < 256 := by
  intro b hb
  rcases List.mem_append.1 hb with hb | hb
  · exact h b hb
  · simp only [padB, List.flatten_cons, List.flatten_nil, List.append_nil, List.mem_append, List.mem_singleton, List.mem_replicate] at hb
    rcases hb with rfl | ⟨_, rfl⟩ | hb
    · decide
    · decide
    · exact highB_ltN _ _ b hb
theorem padded_lenN (xs : List Nat) (n z : Nat) (hl : xs.length = n) (hz : (119 - n % 64) % 64 = z) : (padded xs).length = n + z + 9 := by
  rw [padded, List.length_append, padB, hl, hz]
  simp [highB_len]
  omega
end Go.Proofs.YtejifhdkgfilgaaDoor
