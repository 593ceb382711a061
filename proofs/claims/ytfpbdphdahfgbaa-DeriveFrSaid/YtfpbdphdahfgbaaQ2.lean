/- Orders of numbers: which stands ahead of which; all orders; the relation of an order. -/
import Derived.Test.YtfpbdphdahfgbaaQ1
import Derived.Test.YtfpbdphdahfgbaaO4
namespace Go.Proofs.Ytfpbdphdahfgbaa

/-- Does one stand ahead of another one? -/
def bef : List Int → Int → Int → Prop
  | [], _, _ => False
  | x :: l, a, b => (x = a ∧ b ∈ l) ∨ bef l a b

theorem bef_mem {l : List Int} {a b : Int} (h : bef l a b) : a ∈ l ∧ b ∈ l := by
  induction l with
  | nil => exact h.elim
  | cons x l ih =>
    rcases h with ⟨rfl, h⟩ | h
    · exact ⟨by simp, by simp [h]⟩
    · exact ⟨by simp [(ih h).1], by simp [(ih h).2]⟩
theorem bef_irr {l : List Int} (hn : l.Nodup) (a : Int) : ¬ bef l a a := by
  induction l with
  | nil => exact fun h => h
  | cons x l ih =>
    rw [List.nodup_cons] at hn
    rintro (⟨rfl, h⟩ | h)
    · exact hn.1 h
    · exact ih hn.2 h
theorem bef_asym {l : List Int} (hn : l.Nodup) {a b : Int} (h : bef l a b) : ¬ bef l b a := by
  induction l with
  | nil => exact fun h => h
  | cons x l ih =>
    rw [List.nodup_cons] at hn
    rcases h with ⟨rfl, h⟩ | h
    · rintro (⟨rfl, h'⟩ | h')
      · exact hn.1 h
      · exact hn.1 (bef_mem h').2
    · rintro (⟨rfl, h'⟩ | h')
      · exact hn.1 (bef_mem h).2
      · exact ih hn.2 h h'
theorem bef_trans {l : List Int} (hn : l.Nodup) {a b c : Int} (h : bef l a b) (h' : bef l b c) : bef l a c := by
  induction l with
  | nil => exact h.elim
  | cons x l ih =>
    rw [List.nodup_cons] at hn
    rcases h with ⟨rfl, h⟩ | h
    · rcases h' with ⟨rfl, h'⟩ | h'
      · exact (hn.1 h).elim
      · exact .inl ⟨rfl, (bef_mem h').2⟩
    · rcases h' with ⟨rfl, h'⟩ | h'
      · exact (hn.1 (bef_mem h).2).elim
      · exact .inr (ih hn.2 h h')
theorem bef_total {l : List Int} {a b : Int} (ha : a ∈ l) (hb : b ∈ l) (hab : a ≠ b) : bef l a b ∨ bef l b a := by
  induction l with
  | nil => simp at ha
  | cons x l ih =>
    rcases List.mem_cons.1 ha with rfl | ha'
    · rcases List.mem_cons.1 hb with rfl | hb'
      · exact (hab rfl).elim
      · exact .inl (.inl ⟨rfl, hb'⟩)
    · rcases List.mem_cons.1 hb with rfl | hb'
      · exact .inr (.inl ⟨rfl, ha'⟩)
      · exact (ih ha' hb').imp .inr .inr
/-- Orders of the same things are the same, if they have the same ahead of the same. -/
theorem bef_ext : ∀ {p q : List Int}, p.Nodup → p.Perm q → (∀ a b, bef p a b ↔ bef q a b) → p = q
  | [], q, _, hp, _ => by rw [List.nil_perm] at hp; exact hp.symm
  | x :: p, [], _, hp, _ => by simp at hp
  | x :: p, y :: q, hn, hp, h => by
    have hnq : (y :: q).Nodup := hp.nodup_iff.1 hn
    have e : x = y := by
      by_cases e : x = y
      · exact e
      · have hy : y ∈ p := by
          have : y ∈ x :: p := hp.mem_iff.2 (by simp)
          rcases List.mem_cons.1 this with h1 | h1
          · exact absurd h1.symm e
          · exact h1
        have hx : x ∈ q := by
          have : x ∈ y :: q := hp.mem_iff.1 (by simp)
          rcases List.mem_cons.1 this with h1 | h1
          · exact absurd h1 e
          · exact h1
        have h1 : bef (y :: q) x y := (h x y).1 (.inl ⟨rfl, hy⟩)
        exact absurd (show bef (y :: q) y x from .inl ⟨rfl, hx⟩) (bef_asym hnq h1)
    subst e
    rw [List.nodup_cons] at hn hnq
    rw [bef_ext hn.2 hp.cons_inv fun a b => ?_]
    constructor
    · intro hab
      rcases (h a b).1 (.inr hab) with ⟨rfl, hb⟩ | h1
      · exact absurd (bef_mem hab).1 hn.1
      · exact h1
    · intro hab
      rcases (h a b).2 (.inr hab) with ⟨rfl, hb⟩ | h1
      · exact absurd (bef_mem hab).1 hnq.1
      · exact h1
theorem bef_last {l : List Int} (hn : l.Nodup) {x : Int} : ∀ {q : List Int}, l = q ++ [x] → (∀ a, a ∈ l → a ≠ x → bef l a x) ∧ ∀ a, ¬ bef l x a := by
  intro q hq
  subst hq
  induction q with
  | nil =>
    refine ⟨fun a ha hne => ?_, fun a h => ?_⟩
    · simp at ha; exact absurd ha hne
    · rcases h with ⟨_, h⟩ | h
      · simp at h
      · exact h.elim
  | cons y q ih =>
    rw [List.cons_append, List.nodup_cons] at hn
    obtain ⟨h1, h2⟩ := ih hn.2
    refine ⟨fun a ha hne => ?_, fun a h => ?_⟩
    · rcases List.mem_cons.1 ha with rfl | ha
      · exact .inl ⟨rfl, by simp⟩
      · exact .inr (h1 a ha hne)
    · rcases h with ⟨rfl, h⟩ | h
      · exact hn.1 (by simp)
      · exact h2 a h
theorem bef_head {l : List Int} (hn : l.Nodup) {x : Int} : ∀ {q : List Int}, l = x :: q → (∀ a, a ∈ l → a ≠ x → bef l x a) ∧ ∀ a, ¬ bef l a x := by
  intro q hq
  subst hq
  rw [List.nodup_cons] at hn
  refine ⟨fun a ha hne => ?_, fun a h => ?_⟩
  · rcases List.mem_cons.1 ha with rfl | ha
    · exact absurd rfl hne
    · exact .inl ⟨rfl, ha⟩
  · rcases h with ⟨rfl, h⟩ | h
    · exact hn.1 h
    · exact hn.1 (bef_mem h).2

/-! The relation of an order -/
theorem ofRow_size (a : Int) : ∀ (rest : List Int) (r : List (BitVec 32)), sizeR (ofRow a r rest) = sizeR r
  | [], _ => rfl
  | b :: rest, r => by rw [ofRow, List.foldl_cons]; exact (ofRow_size a rest _).trans (size_put r a b)
theorem ofRow_hN (a : Int) (i k : Nat) : ∀ (rest : List Int) (r : List (BitVec 32)), hN (ofRow a r rest) i k = true ↔ hN r i k = true ∨ (a = i ∧ (k : Int) ∈ rest ∧ i < sizeR r ∧ k < sizeR r)
  | [], r => by simp [ofRow]
  | b :: rest, r => by
    have h := ofRow_hN a i k rest (putR r a b)
    rw [show ofRow a r (b :: rest) = ofRow a (putR r a b) rest from rfl, h, hN_put, size_put]
    simp only [Bool.or_eq_true, Bool.and_eq_true, decide_eq_true_eq, List.mem_cons]
    grind
theorem ofTo_size {n : Nat} (hn : n ≤ 32) (l : List Int) : ∀ m, sizeR (ofTo n l m) = n
  | 0 => size_new hn
  | m + 1 => by rw [ofTo, ofRow_size, ofTo_size hn l m]
theorem ofTo_hN {n : Nat} (hn : n ≤ 32) (l : List Int) (i k : Nat) : ∀ m, m ≤ l.length → (hN (ofTo n l m) i k = true ↔ i < n ∧ k < n ∧ ∃ j, j < m ∧ l.getD j 0 = i ∧ (k : Int) ∈ l.drop (j + 1))
  | 0, _ => by simp [ofTo, hN_new]
  | m + 1, hm => by
    rw [ofTo, ofRow_hN, ofTo_hN hn l i k m (by omega), ofTo_size hn]
    constructor
    · rintro (⟨h1, h2, j, h3, h4⟩ | ⟨h1, h2, h3, h4⟩)
      · exact ⟨h1, h2, j, by omega, h4⟩
      · exact ⟨h3, h4, m, by omega, h1, h2⟩
    · rintro ⟨h1, h2, j, h3, h4, h5⟩
      by_cases e : j = m
      · subst e; exact .inr ⟨h4, h5, h1, h2⟩
      · exact .inl ⟨h1, h2, j, by omega, h4, h5⟩
theorem bef_at : ∀ (l : List Int) (a b : Int), bef l a b ↔ ∃ j, j < l.length ∧ l.getD j 0 = a ∧ b ∈ l.drop (j + 1)
  | [], a, b => by simp [bef]
  | x :: l, a, b => by
    rw [bef, bef_at l a b]
    constructor
    · rintro (⟨h1, h2⟩ | ⟨j, h1, h2, h3⟩)
      · exact ⟨0, by simp, by simpa using h1, by simpa using h2⟩
      · exact ⟨j + 1, by simpa using h1, by simpa using h2, by simpa using h3⟩
    · rintro ⟨j, h1, h2, h3⟩
      match j with
      | 0 => exact .inl ⟨by simpa using h2, by simpa using h3⟩
      | j + 1 => exact .inr ⟨j, by simpa using h1, by simpa using h2, by simpa using h3⟩
theorem size_of {n : Nat} (hn : n ≤ 32) (l : List Int) : sizeR (ofR n l) = n := ofTo_size hn l _
theorem hN_of {n : Nat} (hn : n ≤ 32) (l : List Int) (i k : Nat) : hN (ofR n l) i k = true ↔ i < n ∧ k < n ∧ bef l i k := by
  rw [ofR, ofTo_hN hn l i k _ (Nat.le_refl _), bef_at]

/-! All orders -/
theorem eraseIdx_perm : ∀ (l : List Int) (i : Nat), i < l.length → (l.getD i 0 :: l.eraseIdx i).Perm l
  | [], i, h => by simp at h
  | x :: l, 0, _ => by simp
  | x :: l, i + 1, h => by
    have := eraseIdx_perm l i (by simpa using h)
    simp only [List.getD_cons_succ, List.eraseIdx_cons_succ]
    exact (List.Perm.swap _ _ _).trans (this.cons x)
theorem allN_perm : ∀ (n : Nat) (l : List Int), l.length = n → ∀ p, p ∈ allN n l ↔ p.Perm l
  | 0, l, hl, p => by
    have : l = [] := List.eq_nil_of_length_eq_zero hl
    subst this
    simp [allN]
  | n + 1, l, hl, p => by
    simp only [allN, List.mem_flatMap, List.mem_range, List.mem_map]
    have hlen : ∀ i, i < l.length → (l.eraseIdx i).length = n := fun i hi => by rw [List.length_eraseIdx]; simp [hi]; omega
    constructor
    · rintro ⟨i, hi, q, hq, rfl⟩
      rw [allN_perm n _ (hlen i hi)] at hq
      exact (hq.cons _).trans (eraseIdx_perm l i hi)
    · intro hp
      match p with
      | [] => have := hp.length_eq; simp at this; omega
      | x :: p =>
        have hx : x ∈ l := hp.mem_iff.1 (by simp)
        obtain ⟨i, hi, e⟩ := List.getElem_of_mem hx
        have e' : l.getD i 0 = x := by simp [hi, e]
        refine ⟨i, hi, p, ?_, by rw [e']⟩
        rw [allN_perm n _ (hlen i hi)]
        have := hp.trans (eraseIdx_perm l i hi).symm
        rw [e'] at this
        exact this.cons_inv
theorem mem_allO {l p : List Int} (h : l.length ≤ 6) : p ∈ allO l ↔ p.Perm l := by
  rw [allO, if_neg (by omega)]; exact allN_perm _ l rfl p
theorem allO_none {l : List Int} (h : 6 < l.length) : allO l = [] := if_pos h

def fact : Nat → Nat
  | 0 => 1
  | n + 1 => (n + 1) * fact n
theorem fact_pos : ∀ n, 0 < fact n
  | 0 => by decide
  | n + 1 => by rw [fact]; exact Nat.mul_pos (by omega) (fact_pos n)
theorem fact_mul (a : Nat) : ∀ b, fact a * fact b ≤ fact (a + b)
  | 0 => by simp [fact]
  | b + 1 => by
    rw [fact, ← Nat.add_assoc, fact]
    have := fact_mul a b
    calc fact a * ((b + 1) * fact b) = (b + 1) * (fact a * fact b) := by rw [Nat.mul_left_comm]
      _ ≤ (a + b + 1) * fact (a + b) := Nat.mul_le_mul (by omega) this
theorem fact_mono {a b : Nat} (h : a ≤ b) : fact a ≤ fact b := by
  have := fact_mul a (b - a)
  rw [show a + (b - a) = b by omega] at this
  have h1 := fact_pos (b - a)
  exact Nat.le_trans (Nat.le_mul_of_pos_right _ h1) this
theorem sum_const {α : Type} (f : α → Nat) (c : Nat) : ∀ (l : List α), (∀ x ∈ l, f x = c) → (l.map f).sum = l.length * c
  | [], _ => by simp
  | x :: l, h => by
    rw [List.map_cons, List.sum_cons, h x (by simp), sum_const f c l (fun y hy => h y (by simp [hy])), List.length_cons, Nat.succ_mul]; omega
theorem allN_count : ∀ (n : Nat) (l : List Int), l.length = n → (allN n l).length = fact n
  | 0, _, _ => rfl
  | n + 1, l, hl => by
    rw [allN, List.length_flatMap, sum_const _ (fact n), List.length_range, hl, fact]
    intro i hi
    rw [List.length_map]
    exact allN_count n _ (by rw [List.length_eraseIdx]; simp at hi; simp [hi]; omega)
theorem allO_count {l : List Int} (h : l.length ≤ 6) : (allO l).length = fact l.length := by
  rw [allO, if_neg (by omega)]; exact allN_count _ l rfl
theorem nodup_flatMap {α β : Type} (f : α → List β) : ∀ (l : List α), l.Nodup → (∀ x ∈ l, (f x).Nodup) → (∀ x ∈ l, ∀ y ∈ l, x ≠ y → ∀ z, z ∈ f x → z ∉ f y) → (l.flatMap f).Nodup
  | [], _, _, _ => by simp
  | x :: l, hn, h1, h2 => by
    rw [List.nodup_cons] at hn
    rw [List.flatMap_cons, List.nodup_append]
    refine ⟨h1 x (by simp), nodup_flatMap f l hn.2 (fun y hy => h1 y (by simp [hy])) (fun y hy z hz => h2 y (by simp [hy]) z (by simp [hz])), fun a ha b hb => ?_⟩
    rw [List.mem_flatMap] at hb
    obtain ⟨y, hy, hb⟩ := hb
    rintro rfl
    exact h2 x (by simp) y (by simp [hy]) (fun e => hn.1 (e ▸ hy)) a ha hb
theorem nodup_map {α β : Type} (f : α → β) : ∀ (l : List α), l.Nodup → (∀ x ∈ l, ∀ y ∈ l, f x = f y → x = y) → (l.map f).Nodup
  | [], _, _ => by simp
  | x :: l, hn, h => by
    rw [List.nodup_cons] at hn
    rw [List.map_cons, List.nodup_cons]
    refine ⟨fun hm => ?_, nodup_map f l hn.2 fun y hy z hz => h y (by simp [hy]) z (by simp [hz])⟩
    obtain ⟨y, hy, e⟩ := List.mem_map.1 hm
    exact hn.1 (h y (by simp [hy]) x (by simp) e ▸ hy)
theorem allN_nodup : ∀ (n : Nat) (l : List Int), l.length = n → l.Nodup → (allN n l).Nodup
  | 0, _, _, _ => by simp [allN]
  | n + 1, l, hl, hn => by
    have hlen : ∀ i, i < l.length → (l.eraseIdx i).length = n := fun i hi => by rw [List.length_eraseIdx]; simp [hi]; omega
    rw [allN]
    refine nodup_flatMap _ _ List.nodup_range (fun i hi => ?_) (fun i hi j hj hij z hz hz' => ?_)
    · refine nodup_map _ _ (allN_nodup n _ (hlen i (by simpa using hi)) (hn.sublist (List.eraseIdx_sublist ..))) fun x _ y _ e => by simpa using e
    · rw [List.mem_map] at hz hz'
      obtain ⟨p, _, rfl⟩ := hz
      obtain ⟨q, _, e⟩ := hz'
      simp only [List.cons.injEq] at e
      have hi' : i < l.length := by simpa using hi
      have hj' : j < l.length := by simpa using hj
      have e1 := e.1
      simp [hi', hj'] at e1
      exact hij ((List.getElem_inj hn).1 e1.symm)
theorem allO_nodup {l : List Int} (hn : l.Nodup) : (allO l).Nodup := by
  unfold allO
  split
  · simp
  · exact allN_nodup _ l rfl hn
end Go.Proofs.Ytfpbdphdahfgbaa
