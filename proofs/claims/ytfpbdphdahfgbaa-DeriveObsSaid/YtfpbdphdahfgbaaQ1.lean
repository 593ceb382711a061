/- Relations, pair by pair: what the program's functions on them have. No program in sight but its functions' Lean forms. -/
import Derived.Test.YtfpbdphdahfgbaaR3
import Derived.Test.YtfpbdphdahfgbaaE1
namespace Go.Proofs.Ytfpbdphdahfgbaa

/-- Has a relation a pair? -/
def hN (r : List (BitVec 32)) (i k : Nat) : Bool := decide (r.length ≤ 32) && (decide (i < r.length) && (decide (k < r.length) && bit (r.getD i 0#32) k))
def sizeR (r : List (BitVec 32)) : Nat := if 32 < r.length then 0 else r.length

theorem hN_iff {r : List (BitVec 32)} {i k : Nat} : hN r i k = true ↔ r.length ≤ 32 ∧ i < r.length ∧ k < r.length ∧ bit (r.getD i 0#32) k = true := by simp [hN]
theorem hN_lt {r : List (BitVec 32)} {i k : Nat} (h : hN r i k = true) : i < sizeR r ∧ k < sizeR r := by
  rw [hN_iff] at h
  unfold sizeR
  rw [if_neg (by omega)]
  omega
theorem sizeR_le (r : List (BitVec 32)) : sizeR r ≤ 32 := by unfold sizeR; split <;> omega
theorem sizeR_eq {r : List (BitVec 32)} (h : r.length ≤ 32) : sizeR r = r.length := if_neg (by omega)
theorem hN_at {r : List (BitVec 32)} (h : r.length ≤ 32) {i k : Nat} (hi : i < r.length) (hk : k < r.length) : hN r i k = bit (r.getD i 0#32) k := by simp [hN, h, hi, hk]
theorem hN_out {r : List (BitVec 32)} {i k : Nat} (h : ¬ (i < sizeR r ∧ k < sizeR r)) : hN r i k = false := by
  cases h1 : hN r i k with
  | false => rfl
  | true => exact absurd (hN_lt h1) h
theorem hasR_nat (r : List (BitVec 32)) (i k : Nat) : hasR r i k = hN r i k := by
  simp only [hasR, inR, hN, Int.toNat_natCast]
  have h1 : decide ((0 : Int) ≤ (i : Int)) = true := by simp
  have h2 : decide ((0 : Int) ≤ (k : Int)) = true := by simp
  rw [h1, h2, Bool.eq_iff_iff]
  simp
  constructor
  · rintro ⟨⟨a, b, c⟩, d⟩; exact ⟨a, by omega, by omega, d⟩
  · rintro ⟨a, b, c, d⟩; exact ⟨⟨a, by omega, by omega⟩, d⟩
theorem hasR_int {r : List (BitVec 32)} {i k : Int} (h : hasR r i k = true) : ∃ a b : Nat, i = a ∧ k = b ∧ hN r a b = true := by
  have h1 : inR r.length i k = true := by simp [hasR] at h; exact h.1.2
  obtain ⟨h2, h3, h4, h5⟩ := inR_true h1
  obtain ⟨a, rfl⟩ := Int.eq_ofNat_of_zero_le h2
  obtain ⟨b, rfl⟩ := Int.eq_ofNat_of_zero_le h4
  exact ⟨a, b, rfl, rfl, by rw [← hasR_nat]; exact h⟩

theorem bit_all (n k : Nat) (hn : n ≤ 32) : bit (allR n) k = decide (k < n) := by
  simp only [bit, allR, BitVec.getLsbD_ofNat, Nat.testBit_two_pow_sub_one]
  by_cases h : k < n
  · simp [h]; omega
  · simp [h]
theorem bit_and (x y : BitVec 32) (k : Nat) : bit (x &&& y) k = (bit x k && bit y k) := by simp [bit]
theorem bit_or (x y : BitVec 32) (k : Nat) : bit (x ||| y) k = (bit x k || bit y k) := by simp [bit]
theorem bit_zero (k : Nat) : bit 0#32 k = false := by simp [bit]
theorem bit_shl (i k : Nat) : bit (1#32 <<< i) k = (decide (k < 32) && decide (i = k)) := by
  simp only [bit, BitVec.getLsbD_shiftLeft, BitVec.getLsbD_one]
  rw [Bool.eq_iff_iff]
  simp
  omega
theorem bit_lt {x : BitVec 32} {k : Nat} (h : bit x k = true) : k < 32 := by
  unfold bit at h
  exact BitVec.lt_of_getLsbD h
theorem bit_ext {x y : BitVec 32} (h : ∀ k, k < 32 → bit x k = bit y k) : x = y := BitVec.eq_of_getLsbD_eq fun i hi => h i hi

theorem getD_map {f : BitVec 32 → BitVec 32} (l : List (BitVec 32)) {i : Nat} (hi : i < l.length) : (l.map f).getD i 0#32 = f (l.getD i 0#32) := by simp [hi]

theorem cleanR_size (r : List (BitVec 32)) : (cleanR r).length = sizeR r := by
  unfold cleanR sizeR; split <;> simp
theorem sizeR_clean (r : List (BitVec 32)) : sizeR (cleanR r) = sizeR r := by
  rw [sizeR_eq (cleanR_len r), cleanR_size]
theorem clean_bit {r : List (BitVec 32)} {i : Nat} (hi : i < sizeR r) (k : Nat) : bit ((cleanR r).getD i 0#32) k = (bit (r.getD i 0#32) k && decide (k < sizeR r)) := by
  unfold sizeR at hi ⊢
  split at hi
  · omega
  · rename_i h
    rw [if_neg h, cleanR, if_neg h, getD_map _ hi, bit_and, bit_all _ _ (by omega)]
theorem hN_clean (r : List (BitVec 32)) (i k : Nat) : hN (cleanR r) i k = hN r i k := by
  by_cases h : i < sizeR r ∧ k < sizeR r
  · have h0 : r.length ≤ 32 ∧ sizeR r = r.length := by
      have := h.1; unfold sizeR at this ⊢; split at this <;> simp_all; omega
    rw [hN_at (cleanR_len r) (by rw [cleanR_size]; exact h.1) (by rw [cleanR_size]; exact h.2), clean_bit h.1, hN_at h0.1 (by omega) (by omega)]
    simp [h.2]
  · rw [hN_out h, hN_out (by rw [sizeR_clean]; exact h)]
theorem clean_hN {r : List (BitVec 32)} {i k : Nat} (hi : i < sizeR r) (hk : k < 32) : bit ((cleanR r).getD i 0#32) k = hN r i k := by
  by_cases h : k < sizeR r
  · rw [← hN_clean, hN_at (cleanR_len r) (by rw [cleanR_size]; exact hi) (by rw [cleanR_size]; exact h)]
  · rw [clean_bit hi, hN_out (by omega)]; simp [h]

theorem clean_iff (a b : List (BitVec 32)) : cleanR a = cleanR b ↔ sizeR a = sizeR b ∧ ∀ i k, hN a i k = hN b i k := by
  constructor
  · intro h
    refine ⟨by rw [← cleanR_size, h, cleanR_size], fun i k => by rw [← hN_clean, h, hN_clean]⟩
  · rintro ⟨h1, h2⟩
    refine List.ext_getElem (by rw [cleanR_size, cleanR_size, h1]) fun i hi hi' => ?_
    rw [cleanR_size] at hi hi'
    have e1 : (cleanR a)[i]'(by rw [cleanR_size]; exact hi) = (cleanR a).getD i 0#32 := by simp [cleanR_size, hi]
    have e2 : (cleanR b)[i]'(by rw [cleanR_size]; exact hi') = (cleanR b).getD i 0#32 := by simp [cleanR_size, hi']
    rw [e1, e2]
    exact bit_ext fun k hk => by rw [clean_hN hi hk, clean_hN hi' hk, h2]
theorem sameR_iff (a b : List (BitVec 32)) : sameR a b = true ↔ sizeR a = sizeR b ∧ ∀ i k, hN a i k = hN b i k := by
  rw [sameR, decide_eq_true_iff, clean_iff]
/-- Without bits that play no part. -/
def tidyR (r : List (BitVec 32)) : Prop := cleanR r = r
theorem tidy_clean (r : List (BitVec 32)) : tidyR (cleanR r) := cleanR_twice r
theorem tidy_len {r : List (BitVec 32)} (h : tidyR r) : r.length ≤ 32 ∧ sizeR r = r.length := by
  have h1 := cleanR_len r
  rw [h] at h1
  exact ⟨h1, sizeR_eq h1⟩
theorem tidy_ext {a b : List (BitVec 32)} (ha : tidyR a) (hb : tidyR b) (h1 : sizeR a = sizeR b) (h2 : ∀ i k, hN a i k = hN b i k) : a = b := by
  rw [← ha, ← hb]; exact (clean_iff a b).2 ⟨h1, h2⟩
/-- What makes a list of rows tidy. -/
theorem tidy_of {r : List (BitVec 32)} (h : r.length ≤ 32) (hb : ∀ i k, i < r.length → bit (r.getD i 0#32) k = true → k < r.length) : tidyR r := by
  refine List.ext_getElem (by rw [cleanR_size, sizeR_eq h]) fun i hi hi' => ?_
  have e1 : (cleanR r)[i]'hi = (cleanR r).getD i 0#32 := by simp only [List.getD_eq_getElem?_getD, List.getElem?_eq_getElem hi, Option.getD_some]
  have e2 : r[i] = r.getD i 0#32 := by simp [hi']
  rw [e1, e2]
  refine bit_ext fun k hk => ?_
  rw [clean_bit (by rw [sizeR_eq h]; exact hi'), sizeR_eq h]
  cases h1 : bit (r.getD i 0#32) k with
  | false => rfl
  | true => simp [hb i k hi' h1]

/-! New, Put -/
theorem size_new {n : Nat} (h : n ≤ 32) : sizeR (newR n) = n := by
  rw [newR, if_neg (by omega), sizeR_eq (by simp; omega)]; simp
theorem hN_new (n i k : Nat) : hN (newR n) i k = false := by
  unfold newR
  split
  · simp [hN]
  · by_cases h : i < n
    · simp [hN, h, bit_zero]
    · simp [hN, h]
theorem tidy_new (n : Nat) : tidyR (newR n) := by
  refine tidy_of (newR_len n) fun i k hi hb => ?_
  unfold newR at hi hb
  split at hb
  · simp at hb; rw [bit_zero] at hb; cases hb
  · rename_i h; rw [if_neg h] at hi; simp at hi; simp [hi, bit_zero] at hb

theorem put_len (r : List (BitVec 32)) (i k : Int) : (putR r i k).length = sizeR r := by
  unfold putR; split <;> simp [cleanR_size]
theorem size_put (r : List (BitVec 32)) (i k : Int) : sizeR (putR r i k) = sizeR r := by
  rw [sizeR_eq (by rw [put_len]; exact sizeR_le r), put_len]
theorem hN_put (r : List (BitVec 32)) (a b : Int) (i k : Nat) : hN (putR r a b) i k = (hN r i k || (decide (a = i) && decide (b = k) && decide (i < sizeR r) && decide (k < sizeR r))) := by
  by_cases h : inR (cleanR r).length a b = true
  · obtain ⟨h1, h2, h3, h4⟩ := inR_true h
    obtain ⟨a, rfl⟩ := Int.eq_ofNat_of_zero_le h1
    obtain ⟨b, rfl⟩ := Int.eq_ofNat_of_zero_le h3
    rw [cleanR_size] at h2 h4
    by_cases hik : i < sizeR r ∧ k < sizeR r
    · obtain ⟨hi, hk⟩ := hik
      have hk32 : k < 32 := Nat.lt_of_lt_of_le hk (sizeR_le r)
      rw [hN_at (by rw [put_len]; exact sizeR_le r) (by rw [put_len]; exact hi) (by rw [put_len]; exact hk), putR, if_pos h]
      simp only [Int.toNat_natCast]
      have hg : ((cleanR r).set a ((cleanR r).getD a 0#32 ||| 1#32 <<< b)).getD i 0#32 = if a = i then (cleanR r).getD a 0#32 ||| 1#32 <<< b else (cleanR r).getD i 0#32 := by
        simp only [List.getD_eq_getElem?_getD, List.getElem?_set, cleanR_size]
        by_cases e : a = i
        · subst e; simp [hi]
        · simp [e]
      rw [hg]
      by_cases e : a = i
      · subst e
        rw [if_pos rfl, bit_or, clean_hN hi hk32, bit_shl]
        simp only [hi, hk, hk32, decide_true, Bool.true_and, Bool.and_true]
        congr 1
        rw [Bool.eq_iff_iff]; simp; omega
      · rw [if_neg e, clean_hN hi hk32]
        have : decide ((a : Int) = (i : Int)) = false := by simp; omega
        rw [this]; simp
    · rw [hN_out (by rw [size_put]; exact hik), hN_out hik]
      rw [Bool.eq_iff_iff]; simp; omega
  · rw [putR, if_neg h, hN_clean]
    have : (decide (a = (i : Int)) && decide (b = (k : Int)) && decide (i < sizeR r) && decide (k < sizeR r)) = false := by
      cases hc : (decide (a = (i : Int)) && decide (b = (k : Int)) && decide (i < sizeR r) && decide (k < sizeR r)) with
      | false => rfl
      | true =>
        simp at hc
        exact absurd (by simp [inR, cleanR_size]; omega) h
    rw [this]; simp
theorem tidy_put (r : List (BitVec 32)) (a b : Int) : tidyR (putR r a b) := by
  refine tidy_of (by rw [put_len]; exact sizeR_le r) fun i k hi hb => ?_
  rw [put_len] at hi ⊢
  unfold putR at hb
  split at hb
  · rename_i h
    obtain ⟨h1, h2, h3, h4⟩ := inR_true h
    obtain ⟨a, rfl⟩ := Int.eq_ofNat_of_zero_le h1
    obtain ⟨b, rfl⟩ := Int.eq_ofNat_of_zero_le h3
    rw [cleanR_size] at h2 h4
    simp only [Int.toNat_natCast, List.getD_eq_getElem?_getD, List.getElem?_set, cleanR_size] at hb
    by_cases e : a = i
    · subst e
      simp only [if_true, hi, Option.getD_some] at hb
      rw [bit_or] at hb
      have hb' : bit ((cleanR r).getD a 0#32) k = true ∨ bit (1#32 <<< b) k = true := by simpa using hb
      rcases hb' with h5 | h5
      · rw [clean_bit hi] at h5; simp at h5; exact h5.2
      · rw [bit_shl] at h5; simp at h5; omega
    · simp only [e, if_false] at hb
      have hb' : bit ((cleanR r).getD i 0#32) k = true := by simpa using hb
      rw [clean_bit hi] at hb'; simp at hb'; exact hb'.2
  · rw [clean_bit hi] at hb; simp at hb; exact hb.2

/-! Row by row -/
theorem both_len (f : BitVec 32 → BitVec 32 → BitVec 32) {a b : List (BitVec 32)} (h : sizeR a = sizeR b) : (bothR f a b).length = sizeR a := by
  rw [bothR, if_pos (by rw [cleanR_size, cleanR_size, h])]; simp [cleanR_size, h]
theorem size_both (f : BitVec 32 → BitVec 32 → BitVec 32) {a b : List (BitVec 32)} (h : sizeR a = sizeR b) : sizeR (bothR f a b) = sizeR a := by
  rw [sizeR_eq (by rw [both_len f h]; exact sizeR_le a), both_len f h]
theorem both_bit (f : BitVec 32 → BitVec 32 → BitVec 32) {a b : List (BitVec 32)} (h : sizeR a = sizeR b) {i : Nat} (hi : i < sizeR a) : (bothR f a b).getD i 0#32 = f ((cleanR a).getD i 0#32) ((cleanR b).getD i 0#32) := by
  have h1 : i < (cleanR a).length := by rw [cleanR_size]; exact hi
  have h2 : i < (cleanR b).length := by rw [cleanR_size, ← h]; exact hi
  rw [bothR, if_pos (by rw [cleanR_size, cleanR_size, h])]
  simp only [List.getD_eq_getElem?_getD, List.getElem?_zipWith, List.getElem?_eq_getElem h1, List.getElem?_eq_getElem h2, Option.getD_some]
theorem hN_both (f : BitVec 32 → BitVec 32 → BitVec 32) {a b : List (BitVec 32)} (h : sizeR a = sizeR b) {i k : Nat} (hi : i < sizeR a) (hk : k < sizeR a) : hN (bothR f a b) i k = bit (f ((cleanR a).getD i 0#32) ((cleanR b).getD i 0#32)) k := by
  rw [hN_at (by rw [both_len f h]; exact sizeR_le a) (by rw [both_len f h]; exact hi) (by rw [both_len f h]; exact hk), both_bit f h hi]
theorem both_none (f : BitVec 32 → BitVec 32 → BitVec 32) {a b : List (BitVec 32)} (h : sizeR a ≠ sizeR b) : bothR f a b = [] := if_neg (by rw [cleanR_size, cleanR_size]; exact h)

theorem hN_or {a b : List (BitVec 32)} (h : sizeR a = sizeR b) (i k : Nat) : hN (orR a b) i k = (hN a i k || hN b i k) := by
  by_cases hik : i < sizeR a ∧ k < sizeR a
  · have hk32 : k < 32 := Nat.lt_of_lt_of_le hik.2 (sizeR_le a)
    rw [orR, hN_both _ h hik.1 hik.2, bit_or, clean_hN hik.1 hk32, clean_hN (h ▸ hik.1) hk32]
  · have h1 : hN b i k = false := hN_out (by rw [← h]; exact hik)
    have h2 : hN (bothR (· ||| ·) a b) i k = false := hN_out (by rw [size_both _ h]; exact hik)
    rw [hN_out hik, h1, orR, h2]; rfl
theorem size_or {a b : List (BitVec 32)} (h : sizeR a = sizeR b) : sizeR (orR a b) = sizeR a := size_both _ h
theorem hN_and {a b : List (BitVec 32)} (h : sizeR a = sizeR b) (i k : Nat) : hN (andR a b) i k = (hN a i k && hN b i k) := by
  by_cases hik : i < sizeR a ∧ k < sizeR a
  · have hk32 : k < 32 := Nat.lt_of_lt_of_le hik.2 (sizeR_le a)
    rw [andR, hN_both _ h hik.1 hik.2, bit_and, clean_hN hik.1 hk32, clean_hN (h ▸ hik.1) hk32]
  · have h1 : hN b i k = false := hN_out (by rw [← h]; exact hik)
    have h2 : hN (bothR (· &&& ·) a b) i k = false := hN_out (by rw [size_both _ h]; exact hik)
    rw [hN_out hik, h1, andR, h2]; rfl
theorem size_and {a b : List (BitVec 32)} (h : sizeR a = sizeR b) : sizeR (andR a b) = sizeR a := size_both _ h
theorem tidy_or {a b : List (BitVec 32)} (h : sizeR a = sizeR b) : tidyR (orR a b) := by
  refine tidy_of (by rw [orR, both_len _ h]; exact sizeR_le a) fun i k hi hb => ?_
  rw [orR, both_len _ h] at hi ⊢
  rw [orR, both_bit _ h hi, bit_or, clean_bit hi, clean_bit (h ▸ hi)] at hb
  simp at hb
  omega

/-! Pairs, Inv -/
theorem mem_pairs (a : List (BitVec 32)) (i k : Nat) : (i, k) ∈ pairsR a ↔ hN a i k = true := by
  simp only [pairsR, pairsTo, pairsOf, List.mem_flatMap, List.mem_range, List.mem_map, List.mem_filter, Prod.mk.injEq, cleanR_size]
  constructor
  · rintro ⟨j, hj, m, ⟨hm, hb⟩, rfl, rfl⟩
    rw [← clean_hN hj (bit_lt hb)]; exact hb
  · intro h
    obtain ⟨h1, h2⟩ := hN_lt h
    refine ⟨i, h1, k, ⟨?_, ?_⟩, rfl, rfl⟩
    · exact (hN_iff.1 h).2.2.1
    · rw [clean_hN h1 (Nat.lt_of_lt_of_le h2 (sizeR_le a))]; exact h
theorem pairs_nil (a : List (BitVec 32)) : (pairsR a).length = 0 ↔ ∀ i k, hN a i k = false := by
  rw [List.length_eq_zero_iff, List.eq_nil_iff_forall_not_mem]
  constructor
  · intro h i k
    cases hc : hN a i k with
    | false => rfl
    | true => exact absurd ((mem_pairs a i k).2 hc) (h _)
  · rintro h ⟨i, k⟩ hm
    rw [mem_pairs, h] at hm; cases hm

theorem inv_len (a : List (BitVec 32)) : (invR a).length = sizeR a := by rw [invR, invTo_len, cleanR_size]
theorem size_inv (a : List (BitVec 32)) : sizeR (invR a) = sizeR a := by rw [sizeR_eq (by rw [inv_len]; exact sizeR_le a), inv_len]
theorem invTo_bit (n : Nat) (hn : n ≤ 32) (i k : Nat) (hi : i < n) (hk : k < 32) : ∀ (ps : List (Nat × Nat)), (∀ p ∈ ps, p.1 < n ∧ p.2 < n) → ∀ r : List (BitVec 32), r.length = n → bit ((ps.foldl invIn r).getD i 0#32) k = (bit (r.getD i 0#32) k || decide ((k, i) ∈ ps))
  | [], _, r, _ => by simp
  | p :: ps, hps, r, hr => by
    obtain ⟨p1, p2⟩ := p
    have hp := hps (p1, p2) (by simp)
    simp only at hp
    rw [List.foldl_cons, invTo_bit n hn i k hi hk ps (fun q hq => hps q (by simp [hq])) _ (by simp [invIn, hr])]
    have hg : (invIn r (p1, p2)).getD i 0#32 = if p2 = i then r.getD i 0#32 ||| 1#32 <<< p1 else r.getD i 0#32 := by
      simp only [invIn, List.getD_eq_getElem?_getD, List.getElem?_set, hr]
      by_cases e : p2 = i
      · subst e; simp [hi]
      · simp [e]
    rw [hg]
    by_cases e : p2 = i
    · subst e
      rw [if_pos rfl, bit_or, bit_shl]
      simp only [hk, decide_true, Bool.true_and, List.mem_cons, Prod.mk.injEq, and_true]
      rw [Bool.eq_iff_iff]; simp; grind
    · rw [if_neg e]
      simp only [List.mem_cons, Prod.mk.injEq]
      rw [Bool.eq_iff_iff]; simp; grind
theorem hN_inv (a : List (BitVec 32)) (i k : Nat) : hN (invR a) i k = hN a k i := by
  by_cases h : i < sizeR a ∧ k < sizeR a
  · have hk32 : k < 32 := Nat.lt_of_lt_of_le h.2 (sizeR_le a)
    rw [hN_at (by rw [inv_len]; exact sizeR_le a) (by rw [inv_len]; exact h.1) (by rw [inv_len]; exact h.2), invR, invTo, cleanR_size, invTo_bit (sizeR a) (sizeR_le a) i k h.1 hk32]
    · have h0 : (List.replicate (sizeR a) 0#32).getD i 0#32 = 0#32 := by simp [h.1]
      rw [h0, bit_zero, Bool.false_or, Bool.eq_iff_iff, decide_eq_true_iff, mem_pairs, hN_clean]
    · rintro ⟨p1, p2⟩ hp
      rw [mem_pairs, hN_clean] at hp
      exact hN_lt hp
    · simp
  · rw [hN_out (by rw [size_inv]; exact h), hN_out (by omega)]
theorem hN_ext_inv (a : List (BitVec 32)) : sizeR (invR a) = sizeR a ∧ ∀ i k, hN (invR a) i k = hN a k i := ⟨size_inv a, hN_inv a⟩

/-! Only -/
theorem only_len (a : List (BitVec 32)) (f t : BitVec 32) : (onlyR a f t).length = sizeR a := by rw [onlyR, mapTo_len, cleanR_size]
theorem size_only (a : List (BitVec 32)) (f t : BitVec 32) : sizeR (onlyR a f t) = sizeR a := by rw [sizeR_eq (by rw [only_len]; exact sizeR_le a), only_len]
theorem hN_only (a : List (BitVec 32)) (f t : BitVec 32) (i k : Nat) : hN (onlyR a f t) i k = (hN a i k && bit f i && bit t k) := by
  by_cases h : i < sizeR a ∧ k < sizeR a
  · have hk32 : k < 32 := Nat.lt_of_lt_of_le h.2 (sizeR_le a)
    rw [hN_at (by rw [only_len]; exact sizeR_le a) (by rw [only_len]; exact h.1) (by rw [only_len]; exact h.2), onlyR, mapTo_get _ _ _ _ (by rw [cleanR_size]; exact h.1), if_pos (by rw [cleanR_size]; exact h.1), onlyG, bit_and]
    by_cases hf : bit f i = true
    · rw [if_pos hf, clean_hN h.1 hk32, hf]; simp
    · have hf' : bit f i = false := by simpa using hf
      rw [if_neg hf, bit_zero, hf']; simp
  · rw [hN_out (by rw [size_only]; exact h), hN_out h]; simp

/-! Masks and pairs of events -/
theorem maskTo_bit (f : Ev → Bool) (l : List Ev) : ∀ (n k : Nat), n ≤ 32 → bit (maskTo f l n) k = (decide (k < n) && f (l.getD k default))
  | 0, k, _ => by simp [maskTo, bit_zero]
  | n + 1, k, hn => by
    have ih := maskTo_bit f l n k (by omega)
    rw [maskTo]
    by_cases h : f (l.getD n default) = true
    · rw [if_pos h, bit_or, ih, bit_shl]
      by_cases e : n = k
      · subst e; rw [h]; simp; omega
      · have e1 : decide (k < n + 1) = decide (k < n) := by rw [decide_eq_decide]; omega
        rw [e1]; simp [e]
    · rw [if_neg h, ih]
      by_cases e : n = k
      · subst e
        have h' : f (l.getD n default) = false := by simpa using h
        rw [h']; simp
      · have e1 : decide (k < n + 1) = decide (k < n) := by rw [decide_eq_decide]; omega
        rw [e1]
theorem mask_bit (f : Ev → Bool) (l : List Ev) (hl : l.length ≤ 32) (k : Nat) : bit (maskE f l) k = (decide (k < l.length) && f (l.getD k default)) := maskTo_bit f l _ k hl

theorem size_prIn (f : Ev → Ev → Bool) (l : List Ev) (i : Nat) (r : List (BitVec 32)) : ∀ n, sizeR (prIn f l i r n) = sizeR r
  | 0 => rfl
  | n + 1 => by rw [prIn]; split <;> simp only [size_put, size_prIn f l i r n]
theorem hN_prIn (f : Ev → Ev → Bool) (l : List Ev) (a : Nat) (r : List (BitVec 32)) (i k : Nat) : ∀ n, hN (prIn f l a r n) i k = (hN r i k || (decide (a = i) && decide (k < n) && decide (a ≠ k) && f (l.getD a default) (l.getD k default) && decide (i < sizeR r) && decide (k < sizeR r)))
  | 0 => by simp [prIn]
  | n + 1 => by
    have ih := hN_prIn f l a r i k n
    rw [prIn]
    split
    · rename_i h
      rw [hN_put, size_prIn, ih]
      rw [Bool.eq_iff_iff]
      simp
      constructor
      · rintro ((h1 | h1) | h1)
        · exact .inl h1
        · right; refine ⟨⟨⟨⟨⟨h1.1.1.1.1.1, by omega⟩, h1.1.1.1.2⟩, h1.1.1.2⟩, h1.1.2⟩, h1.2⟩
        · right
          obtain ⟨⟨⟨h2, h3⟩, h4⟩, h5⟩ := h1
          have e1 : n = k := by omega
          subst e1
          exact ⟨⟨⟨⟨⟨by omega, by omega⟩, h.1⟩, by simpa using h.2⟩, h4⟩, h5⟩
      · rintro (h1 | h1)
        · exact .inl (.inl h1)
        · by_cases e : n = k
          · subst e
            exact .inr ⟨⟨⟨by omega, rfl⟩, h1.1.2⟩, h1.2⟩
          · exact .inl (.inr ⟨⟨⟨⟨⟨h1.1.1.1.1.1, by omega⟩, h1.1.1.1.2⟩, h1.1.1.2⟩, h1.1.2⟩, h1.2⟩)
    · rename_i h
      rw [ih]
      rw [Bool.eq_iff_iff]
      simp
      constructor
      · rintro (h1 | h1)
        · exact .inl h1
        · right; exact ⟨⟨⟨⟨⟨h1.1.1.1.1.1, by omega⟩, h1.1.1.1.2⟩, h1.1.1.2⟩, h1.1.2⟩, h1.2⟩
      · rintro (h1 | h1)
        · exact .inl h1
        · right
          by_cases e : n = k
          · subst e
            exact absurd ⟨h1.1.1.1.2, by simpa using h1.1.1.2⟩ h
          · exact ⟨⟨⟨⟨⟨h1.1.1.1.1.1, by omega⟩, h1.1.1.1.2⟩, h1.1.1.2⟩, h1.1.2⟩, h1.2⟩
theorem size_prTo (f : Ev → Ev → Bool) (l : List Ev) (hl : l.length ≤ 32) : ∀ n, sizeR (prTo f l n) = l.length
  | 0 => size_new hl
  | n + 1 => by rw [prTo, size_prIn, size_prTo f l hl n]
theorem hN_prTo (f : Ev → Ev → Bool) (l : List Ev) (hl : l.length ≤ 32) (i k : Nat) : ∀ n, hN (prTo f l n) i k = (decide (i < n) && decide (i < l.length) && decide (k < l.length) && decide (i ≠ k) && f (l.getD i default) (l.getD k default))
  | 0 => by simp [prTo, hN_new]
  | n + 1 => by
    rw [prTo, hN_prIn, hN_prTo f l hl i k n, size_prTo f l hl n]
    rw [Bool.eq_iff_iff]
    simp
    constructor
    · rintro (h1 | h1)
      · exact ⟨⟨⟨⟨by omega, h1.1.1.1.2⟩, h1.1.1.2⟩, h1.1.2⟩, h1.2⟩
      · obtain ⟨⟨⟨⟨⟨h2, h3⟩, h4⟩, h5⟩, h6⟩, h7⟩ := h1
        subst h2
        exact ⟨⟨⟨⟨by omega, h6⟩, h7⟩, h4⟩, h5⟩
    · rintro ⟨⟨⟨⟨h1, h2⟩, h3⟩, h4⟩, h5⟩
      by_cases e : i = n
      · subst e
        exact .inr ⟨⟨⟨⟨⟨rfl, h3⟩, h4⟩, h5⟩, h2⟩, h3⟩
      · exact .inl ⟨⟨⟨⟨by omega, h2⟩, h3⟩, h4⟩, h5⟩
theorem hN_pairsE (f : Ev → Ev → Bool) (l : List Ev) (hl : l.length ≤ 32) (i k : Nat) : hN (pairsE f l) i k = (decide (i < l.length) && decide (k < l.length) && decide (i ≠ k) && f (l.getD i default) (l.getD k default)) := by
  rw [pairsE, hN_prTo f l hl]; rw [Bool.eq_iff_iff]; simp
theorem size_pairsE (f : Ev → Ev → Bool) (l : List Ev) (hl : l.length ≤ 32) : sizeR (pairsE f l) = l.length := size_prTo f l hl _
end Go.Proofs.Ytfpbdphdahfgbaa
