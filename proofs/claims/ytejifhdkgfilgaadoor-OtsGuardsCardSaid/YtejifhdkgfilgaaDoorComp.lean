/- Digits of two digests: each has a digit that is greater. -/
import Derived.Test.YtejifhdkgfilgaaDoorDigits
namespace Go.Proofs.YtejifhdkgfilgaaDoor
theorem lackN_acc (l : List Nat) : ∀ s : Nat, l.foldl (fun s x => s + (15 - x)) s = s + lackN l := by
  induction l with
  | nil => intro s; rfl
  | cons x l ih =>
    intro s
    have e : lackN (x :: l) = 0 + (15 - x) + lackN l := by
      show (x :: l).foldl (fun s x => s + (15 - x)) 0 = _
      rw [List.foldl_cons, ih]
    rw [List.foldl_cons, ih, e]; omega
theorem lackN_cons (x : Nat) (l : List Nat) : lackN (x :: l) = (15 - x) + lackN l := by
  show (x :: l).foldl (fun s x => s + (15 - x)) 0 = _
  rw [List.foldl_cons, lackN_acc]; omega
theorem lack_mono : ∀ (l m : List Nat), l.length = m.length → (∀ i, l.getD i 0 ≤ m.getD i 0) → (∀ x ∈ m, x < 16) → lackN m ≤ lackN l ∧ (lackN l ≤ lackN m → l = m)
  | [], [], _, _, _ => ⟨Nat.le_refl _, fun _ => rfl⟩
  | [], _ :: _, h, _, _ => by simp at h
  | _ :: _, [], h, _, _ => by simp at h
  | x :: l, y :: m, h, hle, hm => by
    obtain ⟨h1, h2⟩ := lack_mono l m (by simpa using h) (fun i => by have := hle (i + 1); simpa using this) (fun z hz => hm z (List.mem_cons_of_mem _ hz))
    have hxy : x ≤ y := by have := hle 0; simpa using this
    have hy := hm y (List.mem_cons_self ..)
    rw [lackN_cons, lackN_cons]
    refine ⟨by omega, fun he => ?_⟩
    obtain rfl : x = y := by omega
    rw [h2 (by omega)]
theorem nibs_inj : ∀ {a b : List Nat}, (∀ x ∈ a, x < 256) → (∀ x ∈ b, x < 256) → nibs a = nibs b → a = b
  | [], [], _, _, _ => rfl
  | [], _ :: _, _, _, h => by simp [nibs] at h
  | _ :: _, [], _, _, h => by simp [nibs] at h
  | x :: a, y :: b, ha, hb, h => by
    simp only [nibs, List.flatMap_cons, List.cons_append, List.nil_append, List.cons.injEq] at h
    have := nibs_inj (a := a) (b := b) (fun z hz => ha z (List.mem_cons_of_mem _ hz)) (fun z hz => hb z (List.mem_cons_of_mem _ hz)) h.2.2
    rw [this, show x = y from by omega]
theorem digits_get (d : List Nat) (hd : d.length = 32) (i : Nat) : (i < 64 → (digits d).getD i 0 = (nibs d).getD i 0) ∧ (digits d).getD 64 0 = lackN (nibs d) / 256 ∧ (digits d).getD 65 0 = lackN (nibs d) / 16 % 16 ∧ (digits d).getD 66 0 = lackN (nibs d) % 16 := by
  have hl : (nibs d).length = 64 := by rw [nibs_len, hd]
  refine ⟨fun hi => ?_, ?_, ?_, ?_⟩
  · rw [digits, List.getD, List.getD, List.getElem?_append_left (by omega)]
  · rw [digits, List.getD, List.getElem?_append_right (by omega), hl]; rfl
  · rw [digits, List.getD, List.getElem?_append_right (by omega), hl]; rfl
  · rw [digits, List.getD, List.getElem?_append_right (by omega), hl]; rfl
/-- two digests differ: a digit of the first is greater -/
theorem digits_up (a b : List Nat) (ha : a.length = 32) (hb : b.length = 32) (hab : ∀ x ∈ a, x < 256) (hbb : ∀ x ∈ b, x < 256) (hne : a ≠ b) : ∃ i, i < 67 ∧ (digits b).getD i 0 < (digits a).getD i 0 := by
  apply Classical.byContradiction
  intro hn
  have hle : ∀ i, i < 67 → (digits a).getD i 0 ≤ (digits b).getD i 0 := fun i hi => by
    apply Classical.byContradiction
    intro h
    exact hn ⟨i, hi, by omega⟩
  have ga := digits_get a ha
  have gb := digits_get b hb
  have la : (nibs a).length = 64 := by rw [nibs_len, ha]
  have lb : (nibs b).length = 64 := by rw [nibs_len, hb]
  obtain ⟨h1, h2⟩ := lack_mono (nibs a) (nibs b) (by rw [la, lb]) (fun i => by
    by_cases hi : i < 64
    · rw [← (ga i).1 hi, ← (gb i).1 hi]; exact hle i (by omega)
    · rw [List.getD, List.getElem?_eq_none (by omega)]; exact Nat.zero_le _) (nibs_lt hbb)
  have h64 := hle 64 (by decide)
  have h65 := hle 65 (by decide)
  have h66 := hle 66 (by decide)
  rw [(ga 0).2.1, (gb 0).2.1] at h64
  rw [(ga 0).2.2.1, (gb 0).2.2.1] at h65
  rw [(ga 0).2.2.2, (gb 0).2.2.2] at h66
  exact hne (nibs_inj hab hbb (h2 (by omega)))
end Go.Proofs.YtejifhdkgfilgaaDoor
