/- The closure of a relation; what fits. -/
import Derived.Test.YtfpbdphdahfgbaaQ1
import Derived.Test.YtfpbdphdahfgbaaO6
namespace Go.Proofs.Ytfpbdphdahfgbaa
open Go

theorem plusIn_hN {x : List (BitVec 32)} (hx : x.length ≤ 32) {j i : Nat} (hj : j < x.length) (hi : i < x.length) (a b : Nat) : hN (plusIn x j i) a b = true ↔ hN x a b = true ∨ (a = i ∧ hN x i j = true ∧ hN x j b = true) := by
  by_cases hab : a < x.length ∧ b < x.length
  · obtain ⟨ha, hb⟩ := hab
    rw [hN_at (by rw [plusIn_len]; exact hx) (by rw [plusIn_len]; exact ha) (by rw [plusIn_len]; exact hb), hN_at hx ha hb, hN_at hx hi hj, hN_at hx hj hb, plusIn]
    by_cases h : bit (x.getD i 0#32) j = true
    · rw [if_pos h]
      have hg : (x.set i (x.getD i 0#32 ||| x.getD j 0#32)).getD a 0#32 = if i = a then x.getD i 0#32 ||| x.getD j 0#32 else x.getD a 0#32 := by
        simp only [List.getD_eq_getElem?_getD, List.getElem?_set]
        by_cases e : i = a
        · subst e; simp [hi]
        · simp [e]
      rw [hg]
      by_cases e : i = a
      · subst e
        rw [if_pos rfl, bit_or, Bool.or_eq_true]
        exact ⟨fun h1 => h1.imp id fun h1 => ⟨rfl, h, h1⟩, fun h1 => h1.imp id fun h1 => h1.2.2⟩
      · rw [if_neg e]
        constructor
        · exact .inl
        · rintro (h1 | h1)
          · exact h1
          · exact absurd h1.1.symm e
    · rw [if_neg h]
      constructor
      · exact .inl
      · rintro (h1 | h1)
        · exact h1
        · exact absurd h1.2.1 h
  · have hs : sizeR x = x.length := sizeR_eq hx
    have hs' : sizeR (plusIn x j i) = x.length := by rw [sizeR_eq (by rw [plusIn_len]; exact hx), plusIn_len]
    rw [hN_out (by rw [hs']; exact hab), hN_out (by rw [hs]; exact hab)]
    constructor
    · intro h; cases h
    · rintro (h | ⟨rfl, _, h⟩)
      · cases h
      · exact absurd ⟨hi, by rw [← hs]; exact (hN_lt h).2⟩ hab

theorem plusRow_hN {x : List (BitVec 32)} (hx : x.length ≤ 32) {j : Nat} (hj : j < x.length) (a b : Nat) : ∀ m, m ≤ x.length → (hN (plusRow x j m) a b = true ↔ hN x a b = true ∨ (a < m ∧ hN x a j = true ∧ hN x j b = true))
  | 0, _ => by simp [plusRow]
  | m + 1, hm => by
    have hl : (plusRow x j m).length = x.length := plusRow_len x j m
    have ih := fun a b => plusRow_hN hx hj a b m (by omega)
    rw [plusRow_succ, plusIn_hN (by rw [hl]; exact hx) (by rw [hl]; exact hj) (by rw [hl]; omega), ih, ih, ih]
    constructor
    · rintro ((h | ⟨h1, h2, h3⟩) | ⟨rfl, (h1 | ⟨h1, h2, h3⟩), (h4 | ⟨h4, h5, h6⟩)⟩)
      · exact .inl h
      · exact .inr ⟨by omega, h2, h3⟩
      · exact .inr ⟨by omega, h1, h4⟩
      · exact .inr ⟨by omega, h1, h6⟩
      · omega
      · omega
    · rintro (h | ⟨h1, h2, h3⟩)
      · exact .inl (.inl h)
      · by_cases e : a = m
        · subst e; exact .inr ⟨rfl, .inl h2, .inl h3⟩
        · exact .inl (.inr ⟨by omega, h2, h3⟩)

theorem plusTo_step {x : List (BitVec 32)} (hx : x.length ≤ 32) {m : Nat} (hm : m < x.length) (a b : Nat) : hN (plusTo x x.length (m + 1)) a b = true ↔ hN (plusTo x x.length m) a b = true ∨ (hN (plusTo x x.length m) a m = true ∧ hN (plusTo x x.length m) m b = true) := by
  have hl := plusTo_len x x.length m
  rw [plusTo_succ, show plusRow (plusTo x x.length m) m x.length = plusRow (plusTo x x.length m) m (plusTo x x.length m).length from by rw [hl], plusRow_hN (by rw [hl]; exact hx) (by rw [hl]; exact hm) a b _ (Nat.le_refl _)]
  constructor
  · exact fun h => h.imp id fun h => h.2
  · rintro (h | ⟨h1, h2⟩)
    · exact .inl h
    · have h3 := (hN_iff.1 h1).2.1
      exact .inr ⟨h3, h1, h2⟩

theorem plusTo_closed {x : List (BitVec 32)} (hx : x.length ≤ 32) : ∀ m, m ≤ x.length → ∀ a b j, j < m → hN (plusTo x x.length m) a j = true → hN (plusTo x x.length m) j b = true → hN (plusTo x x.length m) a b = true
  | 0, _ => fun a b j hj => by omega
  | m + 1, hm => by
    have C := plusTo_closed hx m (by omega)
    intro a b j hj h1 h2
    rw [plusTo_step hx (by omega)] at h1 h2 ⊢
    by_cases e : j = m
    · subst e
      refine .inr ⟨?_, ?_⟩
      · rcases h1 with h1 | h1
        · exact h1
        · exact h1.1
      · rcases h2 with h2 | h2
        · exact h2
        · exact h2.2
    · have hjm : j < m := by omega
      rcases h1 with h1 | ⟨h1, h1'⟩ <;> rcases h2 with h2 | ⟨h2, h2'⟩
      · exact .inl (C a b j hjm h1 h2)
      · exact .inr ⟨C a m j hjm h1 h2, h2'⟩
      · exact .inr ⟨h1, C m b j hjm h1' h2⟩
      · exact .inr ⟨h1, h2'⟩
theorem plusTo_least {x : List (BitVec 32)} (hx : x.length ≤ 32) {T : Nat → Nat → Prop} (ht : ∀ a b c, T a b → T b c → T a c) (h : ∀ a b, hN x a b = true → T a b) : ∀ m, m ≤ x.length → ∀ a b, hN (plusTo x x.length m) a b = true → T a b
  | 0, _, a, b, h1 => h a b h1
  | m + 1, hm, a, b, h1 => by
    have ih := plusTo_least hx ht h m (by omega)
    rw [plusTo_step hx (by omega)] at h1
    rcases h1 with h1 | ⟨h1, h2⟩
    · exact ih a b h1
    · exact ht a m b (ih a m h1) (ih m b h2)
theorem plusTo_more {x : List (BitVec 32)} (hx : x.length ≤ 32) {a b : Nat} (h : hN x a b = true) : ∀ m, m ≤ x.length → hN (plusTo x x.length m) a b = true
  | 0, _ => h
  | m + 1, hm => (plusTo_step hx (by omega) a b).2 (.inl (plusTo_more hx h m (by omega)))

theorem plus_size (a : List (BitVec 32)) : sizeR (plusR a) = sizeR a := by
  rw [sizeR_eq (plusR_len a), plusR, plusTo_len, cleanR_size]
theorem plus_trans (x : List (BitVec 32)) {a b c : Nat} (h1 : hN (plusR x) a b = true) (h2 : hN (plusR x) b c = true) : hN (plusR x) a c = true := by
  have hb := (hN_lt h1).2
  rw [plus_size] at hb
  exact plusTo_closed (cleanR_len x) _ (Nat.le_refl _) a c b (by rw [cleanR_size]; exact hb) h1 h2
theorem plus_least (x : List (BitVec 32)) {T : Nat → Nat → Prop} (ht : ∀ a b c, T a b → T b c → T a c) (h : ∀ a b, hN x a b = true → T a b) {a b : Nat} (h1 : hN (plusR x) a b = true) : T a b :=
  plusTo_least (cleanR_len x) ht (fun a b h1 => h a b (by rw [← hN_clean]; exact h1)) _ (Nat.le_refl _) a b h1
theorem plus_more (x : List (BitVec 32)) {a b : Nat} (h : hN x a b = true) : hN (plusR x) a b = true :=
  plusTo_more (cleanR_len x) (by rw [hN_clean]; exact h) _ (Nat.le_refl _)
theorem plus_same (x : List (BitVec 32)) : sameR (plusR x) x = true ↔ ∀ a b c, hN x a b = true → hN x b c = true → hN x a c = true := by
  rw [sameR_iff]
  constructor
  · rintro ⟨_, h⟩ a b c h1 h2
    rw [← h] at h1 h2 ⊢
    exact plus_trans x h1 h2
  · intro h
    refine ⟨plus_size x, fun i k => ?_⟩
    rw [Bool.eq_iff_iff]
    exact ⟨fun h1 => plus_least x h (fun _ _ h => h) h1, plus_more x⟩
theorem acyclic_iff (x : List (BitVec 32)) : acyclicR x = true ↔ ∀ i, hN (plusR x) i i = false := by
  rw [acyclicR, List.all_eq_true]
  have hl := plusR_len x
  constructor
  · intro h i
    by_cases hi : i < (plusR x).length
    · have := h i (by simpa using hi)
      rw [hN_at hl hi hi]
      simpa using this
    · exact hN_out (by rw [sizeR_eq hl]; omega)
  · intro h i hi
    have hi' : i < (plusR x).length := by simpa using hi
    rw [← hN_at hl hi' hi', h i]; rfl
/-- A relation that an order of numbers goes with has no ring. -/
theorem acyclic_of {x : List (BitVec 32)} {T : Nat → Nat → Prop} (ht : ∀ a b c, T a b → T b c → T a c) (hi : ∀ a, ¬ T a a) (h : ∀ a b, hN x a b = true → T a b) : acyclicR x = true := by
  rw [acyclic_iff]
  intro i
  cases h1 : hN (plusR x) i i with
  | false => rfl
  | true => exact absurd (plus_least x ht h h1) (hi i)

/-- Two unlike writes of one place. -/
def twoW (l : List Ev) (i j : Nat) : Prop := i < l.length ∧ j < l.length ∧ i ≠ j ∧ (l.getD i default).kind = 2 ∧ (l.getD j default).kind = 2 ∧ (l.getD i default).loc = (l.getD j default).loc

theorem only_two (l : List Ev) (hl : l.length ≤ 32) (i j : Nat) : hN (onlyR (pairsE alikeE l) (maskE (fun x => decide (x.kind ∈ [2])) l) (maskE (fun x => decide (x.kind ∈ [2])) l)) i j = true ↔ twoW l i j := by
  rw [hN_only, hN_pairsE _ l hl, mask_bit _ l hl, mask_bit _ l hl]
  simp only [Bool.and_eq_true, decide_eq_true_eq, List.mem_singleton, alikeE, memE, beq_iff_eq, Bool.or_eq_true, twoW]
  constructor
  · rintro ⟨⟨⟨⟨⟨h1, h2⟩, h3⟩, h4, h5⟩, h6, h7⟩, h8, h9⟩
    exact ⟨h1, h2, h3, h7, h9, h5⟩
  · rintro ⟨h1, h2, h3, h4, h5, h6⟩
    exact ⟨⟨⟨⟨⟨h1, h2⟩, h3⟩, ⟨.inr h4, .inr h5⟩, h6⟩, h1, h4⟩, h2, h5⟩

theorem fits_iff (l : List Ev) (co : List (BitVec 32)) : fitsE l co = true ↔ co.length = l.length ∧ l.length ≤ 32 ∧ (∀ i j, hN co i j = true ∨ hN co j i = true ↔ twoW l i j) ∧ (∀ i j, hN co i j = true → hN co j i = false) ∧ ∀ i j k, hN co i j = true → hN co j k = true → hN co i k = true := by
  rw [fitsE]
  simp only [Bool.and_eq_true, decide_eq_true_eq, plus_same, pairs_nil]
  constructor
  · rintro ⟨⟨h1, h2⟩, h34, h5, h6⟩
    obtain ⟨h3, h4⟩ := (sameR_iff _ _).1 h34
    have hs : sizeR co = sizeR (invR co) := (size_inv co).symm
    refine ⟨h1, h2, fun i j => ?_, fun i j h => ?_, h6⟩
    · rw [← only_two l h2, ← h4 i j, hN_or hs, hN_inv, Bool.or_eq_true]
    · have := h5 i j
      rw [hN_and hs, hN_inv, h] at this
      simpa using this
  · rintro ⟨h1, h2, h3, h4, h5⟩
    have hs : sizeR co = sizeR (invR co) := (size_inv co).symm
    refine ⟨⟨h1, h2⟩, (sameR_iff _ _).2 ⟨?_, fun i j => ?_⟩, fun i j => ?_, h5⟩
    · rw [size_or hs, size_only, size_pairsE _ _ h2, sizeR_eq (by omega), h1]
    · rw [Bool.eq_iff_iff, only_two l h2, ← h3 i j, hN_or hs, hN_inv, Bool.or_eq_true]
    · rw [hN_and hs, hN_inv]
      cases h : hN co i j with
      | false => rfl
      | true => rw [h4 i j h]; rfl
end Go.Proofs.Ytfpbdphdahfgbaa
