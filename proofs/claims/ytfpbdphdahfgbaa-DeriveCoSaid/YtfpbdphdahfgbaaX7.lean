/- What goes by memory: one behind the other; of one place; without a ring. What all statements of layer 13 begin with. -/
import Derived.Test.YtfpbdphdahfgbaaQ6
import Derived.Test.YtfpbdphdahfgbaaL0
namespace Go.Proofs.Ytfpbdphdahfgbaa
open Go Go.RowKit Go.Proofs.Ytfpbdphdahfgbaa.Fw

theorem same_and {a b : List (BitVec 32)} (hs : sizeR a = sizeR b) (h : ∀ i k, hN a i k = true → hN b i k = true) : sameR (andR a b) a = true := by
  rw [sameR_iff]
  refine ⟨size_and hs, fun i k => ?_⟩
  rw [hN_and hs]
  cases h1 : hN a i k with
  | false => rfl
  | true => rw [h i k h1]; rfl
theorem seqTo_bit (y : List (BitVec 32)) (x : BitVec 32) (k : Nat) : ∀ n, bit (seqTo y x n) k = true ↔ ∃ j, j < n ∧ bit x j = true ∧ bit (y.getD j 0#32) k = true
  | 0 => by simp [seqTo, bit_zero]
  | n + 1 => by
    have ih := seqTo_bit y x k n
    rw [seqTo]
    split
    · rename_i h
      rw [bit_or, Bool.or_eq_true, ih]
      constructor
      · rintro (⟨j, h1, h2⟩ | h1)
        · exact ⟨j, by omega, h2⟩
        · exact ⟨n, by omega, h, h1⟩
      · rintro ⟨j, h1, h2, h3⟩
        by_cases e : j = n
        · subst e; exact .inr h3
        · exact .inl ⟨j, by omega, h2, h3⟩
    · rename_i h
      rw [ih]
      constructor
      · rintro ⟨j, h1, h2⟩; exact ⟨j, by omega, h2⟩
      · rintro ⟨j, h1, h2, h3⟩
        by_cases e : j = n
        · subst e; exact absurd h2 h
        · exact ⟨j, by omega, h2, h3⟩
theorem size_seq {a b : List (BitVec 32)} (h : sizeR a = sizeR b) : sizeR (seqR a b) = sizeR a := size_both _ h
theorem hN_seq {a b : List (BitVec 32)} (h : sizeR a = sizeR b) (i k : Nat) : hN (seqR a b) i k = true ↔ ∃ j, hN a i j = true ∧ hN b j k = true := by
  by_cases hik : i < sizeR a ∧ k < sizeR a
  · have hk32 : k < 32 := Nat.lt_of_lt_of_le hik.2 (sizeR_le a)
    rw [seqR, hN_both _ h hik.1 hik.2, seqTo_bit]
    constructor
    · rintro ⟨j, h1, h2, h3⟩
      rw [cleanR_size] at h1
      exact ⟨j, by rw [← clean_hN hik.1 (Nat.lt_of_lt_of_le h1 (sizeR_le b))]; exact h2, by rw [← clean_hN h1 hk32]; exact h3⟩
    · rintro ⟨j, h2, h3⟩
      have h1 := (hN_lt h3).1
      exact ⟨j, by rw [cleanR_size]; exact h1, by rw [clean_hN hik.1 (Nat.lt_of_lt_of_le h1 (sizeR_le b))]; exact h2, by rw [clean_hN h1 hk32]; exact h3⟩
  · rw [hN_out (by rw [size_seq h]; exact hik)]
    constructor
    · intro h1; cases h1
    · rintro ⟨j, h2, h3⟩
      exact absurd ⟨(hN_lt h2).1, by rw [h]; exact (hN_lt h3).2⟩ hik

theorem count_lt {α : Type} {p q : α → Bool} : ∀ {l : List α}, (∀ x ∈ l, p x = true → q x = true) → (∃ x ∈ l, q x = true ∧ p x = false) → l.countP p < l.countP q
  | [], _, ⟨x, hx, _⟩ => by simp at hx
  | y :: l, h, ⟨x, hx, h1, h2⟩ => by
    have hle : l.countP p ≤ l.countP q := List.countP_mono_left fun z hz hp => h z (by simp [hz]) hp
    rw [List.countP_cons, List.countP_cons]
    rcases List.mem_cons.1 hx with rfl | hx
    · rw [h1, h2]; simp; omega
    · have ih := count_lt (l := l) (fun z hz => h z (by simp [hz])) ⟨x, hx, h1, h2⟩
      by_cases hp : p y = true
      · rw [hp, h y (by simp) hp]; simp; omega
      · have hp' : p y = false := by simpa using hp
        rw [hp']
        simp only [Bool.false_eq_true, if_false, Nat.add_zero]
        exact Nat.lt_of_lt_of_le ih (Nat.le_add_right _ _)

section
variable {l : List Ev} {a : List Int} {f : Int → List Int} {co : List (BitVec 32)}
/-- How many writes come ahead of one. -/
def posW (l : List Ev) (co : List (BitVec 32)) (w : Nat) : Nat := (List.range l.length).countP fun v => hN co v w
theorem pos_lt (hl : l.length ≤ 32) (hc : choice l (placesE l).length f) (hw : IsWay l (placesE l).length f co) {v w : Nat} (h : hN co v w = true) : posW l co v < posW l co w := by
  have hv := (way_two hl hc hw h).1
  refine count_lt (fun x _ hx => way_trans hc hw x v w hx h) ⟨v, by simpa using hv, h, ?_⟩
  cases h1 : hN co v v with
  | false => rfl
  | true => exact absurd h1 (way_irr hc hw v)
/-- Where an event stands: a read behind what it reads. -/
def rankE (l : List Ev) (a : List Int) (co : List (BitVec 32)) (i : Nat) : Nat :=
  if (l.getD i default).kind = 1 then (if a.getD i 0 = -1 then 1 else 2 * posW l co (a.getD i 0).toNat + 3) else 2 * posW l co i + 2
theorem com_rank (hl : l.length ≤ 32) (hs : SrcOk l a) (hc : choice l (placesE l).length f) (hw : IsWay l (placesE l).length f co) {i k : Nat} (h : hN (comE l a co) i k = true) : rankE l a co i < rankE l a co k := by
  rcases ((com_size hl hw.size).2 i k).1 h with h | h | h
  · obtain ⟨_, _, h3, h4, _, h6⟩ := rf_two hl hs h
    unfold rankE
    rw [if_neg (by omega), if_pos h4, if_neg (by omega), h6, Int.toNat_natCast]
    omega
  · obtain ⟨_, _, _, h4, h5, _⟩ := way_two hl hc hw h
    have := pos_lt hl hc hw h
    unfold rankE
    rw [if_neg (by omega), if_neg (by omega)]
    omega
  · obtain ⟨_, _, h3, h4, _, h6⟩ := (fr_iff hl hs hc hw i k).1 h
    unfold rankE
    rw [if_pos h3, if_neg (show ¬ (l.getD k default).kind = 1 by omega)]
    rcases h6 with h6 | ⟨j, h6, h7⟩
    · rw [if_pos h6]; omega
    · have := pos_lt hl hc hw h7
      rw [if_neg (by omega), h6, Int.toNat_natCast]
      omega
theorem com_acyclic (hl : l.length ≤ 32) (hs : SrcOk l a) (hc : choice l (placesE l).length f) (hw : IsWay l (placesE l).length f co) : acyclicR (comE l a co) = true :=
  acyclic_of (T := fun i k => rankE l a co i < rankE l a co k) (fun _ _ _ h1 h2 => Nat.lt_trans h1 h2) (fun _ => Nat.lt_irrefl _) fun _ _ h => com_rank hl hs hc hw h
/-- All that goes by memory: two events of one place, one of them a write. -/
theorem com_two (hl : l.length ≤ 32) (hs : SrcOk l a) (hc : choice l (placesE l).length f) (hw : IsWay l (placesE l).length f co) {i k : Nat} (h : hN (comE l a co) i k = true) :
    i < l.length ∧ k < l.length ∧ (l.getD i default).loc = (l.getD k default).loc ∧ (((l.getD i default).kind = 2 ∧ (l.getD k default).kind = 1) ∨ ((l.getD i default).kind = 2 ∧ (l.getD k default).kind = 2) ∨ ((l.getD i default).kind = 1 ∧ (l.getD k default).kind = 2)) := by
  rcases ((com_size hl hw.size).2 i k).1 h with h | h | h
  · obtain ⟨h1, h2, h3, h4, h5, _⟩ := rf_two hl hs h
    exact ⟨h1, h2, h5, .inl ⟨h3, h4⟩⟩
  · obtain ⟨h1, h2, _, h4, h5, h6⟩ := way_two hl hc hw h
    exact ⟨h1, h2, h6, .inr (.inl ⟨h4, h5⟩)⟩
  · obtain ⟨h1, h2, h3, h4, h5, _⟩ := (fr_iff hl hs hc hw i k).1 h
    exact ⟨h1, h2, h5.symm, .inr (.inr ⟨h3, h4⟩)⟩
theorem fr_seq (hl : l.length ≤ 32) (hs : SrcOk l a) (hc : choice l (placesE l).length f) (hw : IsWay l (placesE l).length f co) : sameR (andR (seqR (frE l a co) co) (frE l a co)) (seqR (frE l a co) co) = true := by
  have e : sizeR (frE l a co) = sizeR co := by rw [fr_size hl, hw.size]
  refine same_and (by rw [size_seq e]) fun i k h => ?_
  obtain ⟨j, h1, h2⟩ := (hN_seq e i k).1 h
  obtain ⟨h3, h4, h5, h6, h7, h8⟩ := (fr_iff hl hs hc hw i j).1 h1
  obtain ⟨_, g2, _, _, g5, g6⟩ := way_two hl hc hw h2
  refine (fr_iff hl hs hc hw i k).2 ⟨h3, g2, h5, g5, by rw [← g6]; exact h7, ?_⟩
  rcases h8 with h8 | ⟨m, h8, h9⟩
  · exact .inl h8
  · exact .inr ⟨m, h8, way_trans hc hw _ _ _ h9 h2⟩
theorem by_seq (hl : l.length ≤ 32) (hs : SrcOk l a) (hc : choice l (placesE l).length f) (hw : IsWay l (placesE l).length f co) : sameR (andR (seqR (invR (rfE l a)) co) (frE l a co)) (seqR (invR (rfE l a)) co) = true := by
  have e : sizeR (invR (rfE l a)) = sizeR co := by rw [size_inv, rf_size hl, hw.size]
  refine same_and (by rw [size_seq e, size_inv, rf_size hl, fr_size hl]) fun i k h => ?_
  obtain ⟨j, h1, h2⟩ := (hN_seq e i k).1 h
  rw [hN_inv] at h1
  obtain ⟨h3, h4, h5, h6, h7, h8⟩ := rf_two hl hs h1
  obtain ⟨_, g2, _, _, g5, g6⟩ := way_two hl hc hw h2
  exact (fr_iff hl hs hc hw i k).2 ⟨h4, g2, h6, g5, by rw [← g6, h7], .inr ⟨j, h8, h2⟩⟩
theorem com_alike (hl : l.length ≤ 32) (hs : SrcOk l a) (hc : choice l (placesE l).length f) (hw : IsWay l (placesE l).length f co) : sameR (andR (comE l a co) (pairsE alikeE l)) (comE l a co) = true := by
  refine same_and (by rw [(com_size hl hw.size).1, size_pairsE _ _ hl]) fun i k h => ?_
  obtain ⟨h1, h2, h3, h4⟩ := com_two hl hs hc hw h
  rw [hN_pairsE _ _ hl]
  have hne : i ≠ k := by
    rintro rfl
    exact Nat.lt_irrefl _ (com_rank hl hs hc hw h)
  simp only [Bool.and_eq_true, decide_eq_true_eq, alikeE, memE, beq_iff_eq, Bool.or_eq_true]
  refine ⟨⟨⟨h1, h2⟩, hne⟩, ⟨?_, ?_⟩, h3⟩ <;> omega
theorem com_parts (hl : l.length ≤ 32) (hs : SrcOk l a) (hc : choice l (placesE l).length f) (hw : IsWay l (placesE l).length f co) : sameR (orR (andR (comE l a co) (pairsE innerE l)) (outerE l (comE l a co))) (comE l a co) = true := by
  have hcs := (com_size (a := a) hl hw.size).1
  have e1 : sizeR (comE l a co) = sizeR (pairsE innerE l) := by rw [hcs, size_pairsE _ _ hl]
  obtain ⟨h1, h2⟩ := outer_iff hl (com_len (a := a) hl hw.size)
  have e2 : sizeR (andR (comE l a co) (pairsE innerE l)) = sizeR (outerE l (comE l a co)) := by rw [size_and e1, hcs, h1]
  rw [sameR_iff]
  refine ⟨by rw [size_or e2, size_and e1], fun i k => ?_⟩
  rw [Bool.eq_iff_iff, hN_or e2, hN_and e1, Bool.or_eq_true, h2, Bool.and_eq_true]
  constructor
  · rintro (⟨h, _⟩ | ⟨h, _⟩) <;> exact h
  · intro h
    obtain ⟨h3, h4, _⟩ := com_two hl hs hc hw h
    by_cases ht : (l.getD i default).thread = (l.getD k default).thread
    · left
      refine ⟨h, ?_⟩
      rw [hN_pairsE _ _ hl]
      have hne : i ≠ k := by
        rintro rfl
        exact Nat.lt_irrefl _ (com_rank hl hs hc hw h)
      simp only [Bool.and_eq_true, decide_eq_true_eq, innerE, beq_iff_eq]
      exact ⟨⟨⟨h3, h4⟩, hne⟩, ht⟩
    · exact .inr ⟨h, ht⟩
end
def exN (l : List Ev) : List AV := [.pv (.imm (encE l)), .nil, .nil, .nil, .nil, .nil, .nil]
attribute [go_sem] exN
def xEv (k v : Int) : Ev := ⟨0, k, 0, v, false, false, false⟩
theorem sh13 : sameR (frE [xEv 2 0, xEv 2 1, xEv 1 0] [-2, -2, 0] [2#32, 0#32, 0#32]) [0#32, 0#32, 2#32] = true := by decide +kernel
set_option maxHeartbeats 4000000 in
theorem shown13_calls  : PCalls Try.prog 32 [] (.val (bv true)) := by
  refine PCalls.of_body Try.func32 rfl rfl Try.ntmps32 Try.results32 ?_
  simp only [go_sem, List.replicate]
  refine WpA.seq fun Kx1 hKx1 => ?_
  refine WpA.reg fun all hall => ?_
  repeat ((first | refine aOps_nil ?_ | refine aOps_a rfl rfl rfl ?_); try simp only [go_sem])
  repeat ((first | refine aOps_nil ?_ | refine aOps_a rfl rfl rfl ?_); try simp only [go_sem])
  (apply hKx1; (try clear hKx1 Kx1); try simp only [go_sem])
  refine WpA.seq fun Kx2 hKx2 => ?_
  refine WpA.reg fun all hall => ?_
  refine aOps_s rfl rfl (QK.build (l := [(0, 1), (1, 1), (2, 1), (3, 1), (4, 1), (5, 1), (6, 1)]) rfl Try.underlying25 (by kernel_rfl) ti25 rfl ?_)
  try simp only [go_sem]
  refine aOps_s rfl rfl (QK.build (l := [(0, 1), (1, 1), (2, 1), (3, 1), (4, 1), (5, 1), (6, 1)]) rfl Try.underlying25 (by kernel_rfl) ti25 rfl ?_)
  try simp only [go_sem]
  refine aOps_s rfl rfl (QK.build (l := [(0, 1), (1, 1), (2, 1), (3, 1), (4, 1), (5, 1), (6, 1)]) rfl Try.underlying25 (by kernel_rfl) ti25 rfl ?_)
  try simp only [go_sem]
  refine aOps_s rfl rfl (QK.lit rfl Try.underlying22 ti25 rfl rfl ?_)
  try simp only [go_sem]
  refine aOps_s rfl rfl (QK.build (l := [(0, 1), (1, 1), (2, 1), (3, 1), (4, 1), (5, 1), (6, 1)]) rfl Try.underlying30 (by kernel_rfl) ti30 rfl ?_)
  try simp only [go_sem]
  refine aOps_s rfl rfl (QK.alloc rfl ti30 (by kernel_rfl) rfl ?_)
  try simp only [go_sem]
  refine aOps_n rfl (aOp.set rfl rfl rfl rfl ?_ ti30 ?_)
  · exact ⟨rfl, (by first | rfl | (simp only [go_sem]; done) | (simp []; done) | (simp []; omega) | omega)⟩
  try simp only [go_sem]
  repeat ((first | refine aOps_nil ?_ | refine aOps_a rfl rfl rfl ?_); try simp only [go_sem])
  (apply hKx2; (try clear hKx2 Kx2); try simp only [go_sem])
  refine WpA.seq fun Kx3 hKx3 => ?_
  refine WpA.reg fun all hall => ?_
  repeat ((first | refine aOps_nil ?_ | refine aOps_a rfl rfl rfl ?_); try simp only [go_sem])
  refine aOps_s rfl rfl (QK.lit rfl Try.underlying39 ti3 rfl rfl ?_)
  try simp only [go_sem]
  refine aOps_s rfl rfl (QK.lit rfl Try.underlying27 ti76 rfl rfl ?_)
  try simp only [go_sem]
  refine aOps_s rfl rfl (QK.call rfl rfl rfl (fr_calls [xEv 2 0, xEv 2 1, xEv 1 0] s0 [-2, -2, 0] [2#32, 0#32, 0#32] (by simp) rfl) (.cons (.aggp _ _ rfl) (.cons (.tight_imm (encZ [-2, -2, 0])) (.cons (.tight_imm (encU [2#32, 0#32, 0#32])) .nil))) ?_)
  try simp only [go_sem]
  refine aOps_s rfl rfl (QK.lit rfl Try.underlying27 ti76 rfl rfl ?_)
  try simp only [go_sem]
  refine aOps_s rfl rfl (QK.call rfl rfl rfl (same_calls (frE [xEv 2 0, xEv 2 1, xEv 1 0] [-2, -2, 0] [2#32, 0#32, 0#32]) [0#32, 0#32, 2#32]) (.cons (.imm_bor _) (.cons (.tight_bor (encU [0#32, 0#32, 2#32])) .nil)) ?_)
  try simp only [go_sem]
  rw [sh13]
  repeat ((first | refine aOps_nil ?_ | refine aOps_a rfl rfl rfl ?_); try simp only [go_sem])
  repeat ((first | refine aOps_nil ?_ | refine aOps_a rfl rfl rfl ?_); try simp only [go_sem])
  (apply hKx3; (try clear hKx3 Kx3); try simp only [go_sem])
  (refine WpA.ret ?_; try simp only [go_sem])
  exact RetQ.val (.pv _)

theorem dr_facts {l : List Ev} (hl : l.length ≤ 8) {init a : List Int} {co : List (BitVec 32)} (h1 : a ∈ srcE l init) (h2 : co ∈ allE l) : SrcOk l a ∧ ∃ f, choice l (placesE l).length f ∧ IsWay l (placesE l).length f co := ⟨src_ok h1, ways_any (by omega) h2⟩

attribute [go_sem] Try.underlying58
end Go.Proofs.Ytfpbdphdahfgbaa
