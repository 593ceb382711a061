/- Of ways that fit: what is read, what comes behind it. -/
import Derived.Test.YtfpbdphdahfgbaaQ5
import Derived.Test.YtfpbdphdahfgbaaD1
namespace Go.Proofs.Ytfpbdphdahfgbaa
open Go

theorem ways_out {l : List Ev} : ∀ {k : Nat} {out : List (List (BitVec 32))}, waysTo l k = some out → out = outTo l k
  | 0, out, h => by simp only [waysTo, Option.some.injEq] at h; rw [← h]; rfl
  | k + 1, out, h => by
    rw [waysTo] at h
    cases h1 : waysTo l k with
    | none => rw [h1] at h; cases h
    | some o =>
      rw [h1, Option.bind_some] at h
      split at h
      · cases h
      · injection h with h
        rw [← h, ways_out h1]; rfl
/-- A way, however many writes there are. -/
theorem ways_any {l : List Ev} (hl : l.length ≤ 32) {co : List (BitVec 32)} (h : co ∈ allE l) : ∃ f, choice l (placesE l).length f ∧ IsWay l (placesE l).length f co := by
  rw [allE] at h
  cases h1 : waysTo l (placesE l).length with
  | none => rw [h1] at h; simp at h
  | some out =>
    rw [h1, Option.getD_some, ways_out h1] at h
    exact way_of_mem hl (Nat.le_refl _) h

theorem prodC_mem : ∀ {c : List (List Int)} {a : List Int}, a ∈ prodC c → a.length = c.length ∧ ∀ i, i < c.length → a.getD i 0 ∈ c.getD i []
  | [], a, h => by simp [prodC] at h; subst h; simp
  | l :: c, a, h => by
    simp only [prodC, List.mem_flatMap, List.mem_map] at h
    obtain ⟨n, hn, b, hb, rfl⟩ := h
    obtain ⟨h1, h2⟩ := prodC_mem hb
    refine ⟨by simp [h1], fun i hi => ?_⟩
    match i with
    | 0 => simpa using hn
    | i + 1 => simpa using h2 i (by simpa using hi)
theorem srcC_mem {c : List (List Int)} {a : List Int} (h : a ∈ srcC c) : a ∈ prodC c := by
  unfold srcC at h
  split at h
  · simp at h
  · exact h
theorem mem_mayTo (l : List Ev) (x : Ev) (v : Int) : v ∈ mayTo l x l.length ↔ ∃ i : Nat, i < l.length ∧ v = i ∧ mayW x (l.getD i default) = true := by
  simp only [mayTo, List.mem_map, List.mem_filter, List.mem_range]
  constructor
  · rintro ⟨i, ⟨h1, h2⟩, rfl⟩; exact ⟨i, h1, rfl, h2⟩
  · rintro ⟨i, h1, rfl, h2⟩; exact ⟨i, ⟨h1, h2⟩, rfl⟩

/-- What is read, of a way to read. -/
structure SrcOk (l : List Ev) (a : List Int) : Prop where
  len : a.length = l.length
  read : ∀ r, r < l.length → (l.getD r default).kind = 1 → a.getD r 0 = -1 ∨ ∃ j : Nat, a.getD r 0 = j ∧ j < l.length ∧ (l.getD j default).kind = 2 ∧ (l.getD j default).loc = (l.getD r default).loc
  other : ∀ r, r < l.length → (l.getD r default).kind ≠ 1 → a.getD r 0 = -2
theorem src_ok {l : List Ev} {init : List Int} {a : List Int} (h : a ∈ srcE l init) : SrcOk l a := by
  obtain ⟨h1, h2⟩ := prodC_mem (srcC_mem h)
  have hc : (choE l init).length = l.length := choTo_len l init _
  have hg : ∀ r, r < l.length → (choE l init).getD r [] = if (l.getD r default).kind = 1 then mayE l init r else [-2] := fun r hr => by
    simp [choE, choTo, hr]
  refine ⟨by rw [h1, hc], fun r hr hk => ?_, fun r hr hk => ?_⟩
  · have := h2 r (by rw [hc]; exact hr)
    rw [hg r hr, if_pos hk, mayE, List.mem_append] at this
    rcases this with h3 | h3
    · left
      unfold may0 at h3
      split at h3
      · simpa using h3
      · simp at h3
    · right
      obtain ⟨j, hj, e, hw⟩ := (mem_mayTo _ _ _).1 h3
      simp only [mayW, Bool.and_eq_true, beq_iff_eq] at hw
      exact ⟨j, e, hj, hw.1, hw.2.1⟩
  · have := h2 r (by rw [hc]; exact hr)
    rw [hg r hr, if_neg hk] at this
    simpa using this

/-! Cross, Fr -/
theorem mapAll_size (n : Nat) (hn : n ≤ 32) : (mapTo (fun _ _ => allR n) (newR n) (newR n).length).length = n := by
  rw [mapTo_len, newR, if_neg (by omega)]; simp
theorem hN_cross {n : Nat} (hn : n ≤ 32) (f t : BitVec 32) (i k : Nat) : hN (crossR n f t) i k = (decide (i < n) && decide (k < n) && bit f i && bit t k) := by
  have hl := mapAll_size n hn
  have hnl : (newR n).length = n := by rw [newR, if_neg (by omega)]; simp
  rw [crossR, hN_only]
  congr 2
  by_cases h : i < n ∧ k < n
  · rw [hN_at (by omega) (by omega) (by omega), mapTo_get _ _ _ _ (by omega), if_pos (by omega), bit_all n k hn]
    simp [h.1, h.2]
  · rw [hN_out (by rw [sizeR_eq (by omega), hl]; exact h)]
    rw [Bool.eq_iff_iff]; simp; omega
theorem size_cross {n : Nat} (hn : n ≤ 32) (f t : BitVec 32) : sizeR (crossR n f t) = n := by
  rw [crossR, size_only, sizeR_eq (by rw [mapAll_size n hn]; exact hn), mapAll_size n hn]
theorem bit_andNot (x y : BitVec 32) (k : Nat) : bit (x &&& ~~~y) k = (bit x k && (decide (k < 32) && !bit y k)) := by
  simp [bit]
theorem frTo_size (l : List Ev) (a : List Int) (co : List (BitVec 32)) (hl : l.length ≤ 32) : ∀ k, sizeR (frTo l a co k) = l.length
  | 0 => size_new hl
  | k + 1 => by rw [frTo, size_or (by rw [frTo_size l a co hl k, size_cross hl]), frTo_size l a co hl k]
theorem frTo_hN (l : List Ev) (a : List Int) (co : List (BitVec 32)) (hl : l.length ≤ 32) (i w : Nat) : ∀ k, k ≤ l.length → (hN (frTo l a co k) i w = true ↔ i < k ∧ w < l.length ∧ w ≠ i ∧ bit (behindE l i (a.getD i 0) co) w = true)
  | 0, _ => by simp [frTo, hN_new]
  | k + 1, hk => by
    rw [frTo, hN_or (by rw [frTo_size l a co hl k, size_cross hl]), Bool.or_eq_true, frTo_hN l a co hl i w k (by omega), hN_cross hl, bit_shl, bit_andNot, bit_shl]
    simp only [Bool.and_eq_true, decide_eq_true_eq, Bool.not_eq_true', Bool.and_eq_false_iff, decide_eq_false_iff_not]
    constructor
    · rintro (⟨h1, h2⟩ | ⟨⟨⟨h1, h2⟩, h3, h4⟩, h5, h6, h7⟩)
      · exact ⟨by omega, h2⟩
      · subst h4
        exact ⟨by omega, h2, by rcases h7 with h7 | h7; exact absurd h6 h7; exact fun e => h7 e.symm, h5⟩
    · rintro ⟨h1, h2, h3, h4⟩
      by_cases e : i = k
      · subst e
        exact .inr ⟨⟨⟨by omega, h2⟩, by omega, rfl⟩, h4, by omega, .inr fun e => h3 e.symm⟩
      · exact .inl ⟨by omega, h2, h3, h4⟩
theorem hasTo_bit (co : List (BitVec 32)) (w : Int) (x : Nat) : ∀ k, k ≤ 32 → bit (hasTo co w k) x = (decide (x < k) && hasR co w x)
  | 0, _ => by simp [hasTo, bit_zero]
  | k + 1, hk => by
    have ih := hasTo_bit co w x k (by omega)
    rw [hasTo]
    by_cases h : hasR co w k = true
    · rw [if_pos h, bit_or, ih, bit_shl]
      by_cases e : k = x
      · subst e; rw [h]; simp; omega
      · have e1 : decide (x < k + 1) = decide (x < k) := by rw [decide_eq_decide]; omega
        rw [e1]; simp [e]
    · rw [if_neg h, ih]
      by_cases e : k = x
      · subst e
        have h' : hasR co w k = false := by simpa using h
        rw [h']; simp
      · have e1 : decide (x < k + 1) = decide (x < k) := by rw [decide_eq_decide]; omega
        rw [e1]

section
variable {l : List Ev} {a : List Int} {f : Int → List Int} {co : List (BitVec 32)}
/-- What a way has, is two writes of a place. -/
theorem way_two (hl : l.length ≤ 32) (hc : choice l (placesE l).length f) (hw : IsWay l (placesE l).length f co) {i j : Nat} (h : hN co i j = true) : twoW l i j :=
  ((fits_iff l co).1 (way_fits hl hc hw)).2.2.1 i j |>.1 (.inl h)
theorem way_all (hl : l.length ≤ 32) (hc : choice l (placesE l).length f) (hw : IsWay l (placesE l).length f co) {i j : Nat} (h : twoW l i j) : hN co i j = true ∨ hN co j i = true :=
  (((fits_iff l co).1 (way_fits hl hc hw)).2.2.1 i j).2 h
/-- Which writes come behind what a read reads. -/
theorem fr_iff (hl : l.length ≤ 32) (hs : SrcOk l a) (hc : choice l (placesE l).length f) (hw : IsWay l (placesE l).length f co) (i w : Nat) :
    hN (frE l a co) i w = true ↔ i < l.length ∧ w < l.length ∧ (l.getD i default).kind = 1 ∧ (l.getD w default).kind = 2 ∧ (l.getD w default).loc = (l.getD i default).loc ∧ (a.getD i 0 = -1 ∨ ∃ j : Nat, a.getD i 0 = j ∧ hN co j w = true) := by
  rw [frE, frTo_hN l a co hl i w _ (Nat.le_refl _)]
  constructor
  · rintro ⟨h1, h2, h3, h4⟩
    by_cases hk : (l.getD i default).kind = 1
    · rcases hs.read i h1 hk with h5 | ⟨j, h5, h6, h7, h8⟩
      · rw [behindE, if_pos h5, mask_bit _ _ hl] at h4
        simp only [isW, Bool.and_eq_true, decide_eq_true_eq, beq_iff_eq] at h4
        exact ⟨h1, h2, hk, h4.2.1, h4.2.2, .inl h5⟩
      · have h9 : 0 ≤ (j : Int) ∧ (j : Int) < l.length ∧ (l.getD (j : Int).toNat default).kind = 2 := ⟨by omega, by omega, by simpa using h7⟩
        rw [behindE, if_neg (by omega), h5, if_pos h9, hasTo_bit _ _ _ _ hl, hasR_nat] at h4
        simp only [Bool.and_eq_true] at h4
        obtain ⟨_, _, _, b1, b2, b3⟩ := way_two hl hc hw h4.2
        exact ⟨h1, h2, hk, b2, by rw [← h8]; exact b3.symm, .inr ⟨j, h5, h4.2⟩⟩
    · have h5 := hs.other i h1 hk
      rw [behindE, if_neg (by omega), if_neg (by omega), bit_zero] at h4
      cases h4
  · rintro ⟨h1, h2, h3, h4, h5, h6⟩
    refine ⟨h1, h2, by rintro rfl; omega, ?_⟩
    rcases h6 with h6 | ⟨j, h6, h7⟩
    · rw [behindE, if_pos h6, mask_bit _ _ hl]
      simp only [isW, Bool.and_eq_true, decide_eq_true_eq, beq_iff_eq]
      exact ⟨h2, h4, h5⟩
    · obtain ⟨b0, _, _, b1, _, _⟩ := way_two hl hc hw h7
      rw [behindE, if_neg (by omega), h6, if_pos ⟨by omega, by omega, by simpa using b1⟩, hasTo_bit _ _ _ _ hl, hasR_nat, h7]
      simp [h2]
theorem fr_size (hl : l.length ≤ 32) : sizeR (frE l a co) = l.length := frTo_size l a co hl _

theorem rf_fold (n : Nat) (hn : n ≤ 32) (w r : Nat) : ∀ (ps : List (Int × Nat)) (s : List (BitVec 32)), sizeR s = n → sizeR (ps.foldl (fun r p => putR r p.1 p.2) s) = n ∧ (hN (ps.foldl (fun r p => putR r p.1 p.2) s) w r = true ↔ hN s w r = true ∨ (((w : Int), r) ∈ ps ∧ w < n ∧ r < n))
  | [], s, hs => by simp [hs]
  | (v, k) :: ps, s, hs => by
    have hs' : sizeR (putR s v k) = n := by rw [size_put, hs]
    obtain ⟨h1, h2⟩ := rf_fold n hn w r ps (putR s v k) hs'
    refine ⟨h1, ?_⟩
    rw [List.foldl_cons, h2, hN_put, hs]
    simp only [Bool.or_eq_true, Bool.and_eq_true, decide_eq_true_eq, List.mem_cons, Prod.mk.injEq]
    grind
theorem rf_iff (hl : l.length ≤ 32) (hs : SrcOk l a) (w r : Nat) : hN (rfE l a) w r = true ↔ w < l.length ∧ r < l.length ∧ a.getD r 0 = w := by
  rw [rfE, (rf_fold l.length hl w r _ _ (size_new hl)).2, hN_new]
  constructor
  · rintro (h | ⟨h1, h2, h3⟩)
    · cases h
    · rw [List.mk_mem_zipIdx_iff_getElem?] at h1
      exact ⟨h2, h3, by rw [List.getD_eq_getElem?_getD, h1]; rfl⟩
  · rintro ⟨h1, h2, h3⟩
    refine .inr ⟨?_, h1, h2⟩
    rw [List.mk_mem_zipIdx_iff_getElem?]
    have hr : r < a.length := by rw [hs.len]; exact h2
    rw [List.getElem?_eq_getElem hr]
    rw [List.getD_eq_getElem?_getD, List.getElem?_eq_getElem hr, Option.getD_some] at h3
    rw [h3]
theorem rf_size (hl : l.length ≤ 32) : sizeR (rfE l a) = l.length := (rf_fold l.length hl 0 0 _ _ (size_new hl)).1
/-- What is read is a write of the same place. -/
theorem rf_two (hl : l.length ≤ 32) (hs : SrcOk l a) {w r : Nat} (h : hN (rfE l a) w r = true) : w < l.length ∧ r < l.length ∧ (l.getD w default).kind = 2 ∧ (l.getD r default).kind = 1 ∧ (l.getD w default).loc = (l.getD r default).loc ∧ a.getD r 0 = w := by
  obtain ⟨h1, h2, h3⟩ := (rf_iff hl hs w r).1 h
  by_cases hk : (l.getD r default).kind = 1
  · rcases hs.read r h2 hk with h4 | ⟨j, h4, h5, h6, h7⟩
    · omega
    · have : j = w := by omega
      subst this
      exact ⟨h1, h2, h6, hk, h7, h3⟩
  · have := hs.other r h2 hk
    omega
theorem com_size (hl : l.length ≤ 32) (hc : sizeR co = l.length) : sizeR (comE l a co) = l.length ∧ ∀ i k, (hN (comE l a co) i k = true ↔ hN (rfE l a) i k = true ∨ hN co i k = true ∨ hN (frE l a co) i k = true) := by
  have e0 : sizeR (newR l.length) = sizeR (rfE l a) := by rw [size_new hl, rf_size hl]
  have e1 : sizeR (orR (newR l.length) (rfE l a)) = sizeR co := by rw [size_or e0, size_new hl, hc]
  have e2 : sizeR (orR (orR (newR l.length) (rfE l a)) co) = sizeR (frE l a co) := by rw [size_or e1, size_or e0, size_new hl, fr_size hl]
  refine ⟨?_, fun i k => ?_⟩
  · rw [comE, unionE, List.foldl_cons, List.foldl_cons, List.foldl_cons, List.foldl_nil, size_or e2, size_or e1, size_or e0, size_new hl]
  · rw [comE, unionE, List.foldl_cons, List.foldl_cons, List.foldl_cons, List.foldl_nil, hN_or e2, hN_or e1, hN_or e0, hN_new]
    simp only [Bool.or_eq_true, Bool.false_eq_true, false_or]
    exact or_assoc

theorem outer_fold (l : List Ev) (n : Nat) (i k : Nat) : ∀ (ps : List (Nat × Nat)) (s : List (BitVec 32)), sizeR s = n → sizeR (ps.foldl (outerStep l) s) = n ∧ (hN (ps.foldl (outerStep l) s) i k = true ↔ hN s i k = true ∨ ((i, k) ∈ ps ∧ (l.getD i default).thread ≠ (l.getD k default).thread ∧ i < n ∧ k < n))
  | [], s, hs => by simp [hs]
  | (p, q) :: ps, s, hs => by
    have hs' : sizeR (outerStep l s (p, q)) = n := by unfold outerStep; split <;> simp only [size_put, hs]
    obtain ⟨h1, h2⟩ := outer_fold l n i k ps (outerStep l s (p, q)) hs'
    refine ⟨h1, ?_⟩
    rw [List.foldl_cons, h2]
    simp only [List.mem_cons, Prod.mk.injEq]
    unfold outerStep
    split
    · rename_i ht
      constructor
      · rintro (h | ⟨h, h'⟩)
        · exact .inl h
        · exact .inr ⟨.inr h, h'⟩
      · rintro (h | ⟨⟨rfl, rfl⟩ | h, h'⟩)
        · exact .inl h
        · exact absurd ht h'.1
        · exact .inr ⟨h, h'⟩
    · rename_i ht
      rw [hN_put, hs]
      simp only [Bool.or_eq_true, Bool.and_eq_true, decide_eq_true_eq]
      constructor
      · rintro ((h | ⟨⟨⟨h1, h2⟩, h3⟩, h4⟩) | ⟨h, h'⟩)
        · exact .inl h
        · have e1 : p = i := by omega
          have e2 : q = k := by omega
          subst e1; subst e2
          exact .inr ⟨.inl ⟨rfl, rfl⟩, ht, h3, h4⟩
        · exact .inr ⟨.inr h, h'⟩
      · rintro (h | ⟨⟨rfl, rfl⟩ | h, h'⟩)
        · exact .inl (.inl h)
        · exact .inl (.inr ⟨⟨⟨rfl, rfl⟩, h'.2.1⟩, h'.2.2⟩)
        · exact .inr ⟨h, h'⟩
theorem outer_iff (hl : l.length ≤ 32) {r : List (BitVec 32)} (hr : r.length = l.length) : sizeR (outerE l r) = l.length ∧ ∀ i k, (hN (outerE l r) i k = true ↔ hN r i k = true ∧ (l.getD i default).thread ≠ (l.getD k default).thread) := by
  rw [outerE, if_pos hr]
  refine ⟨(outer_fold l l.length 0 0 _ _ (size_new hl)).1, fun i k => ?_⟩
  rw [(outer_fold l l.length i k _ _ (size_new hl)).2, hN_new, mem_pairs]
  constructor
  · rintro (h | ⟨h1, h2, _⟩)
    · cases h
    · exact ⟨h1, h2⟩
  · rintro ⟨h1, h2⟩
    have := hN_lt h1
    rw [sizeR_eq (by omega), hr] at this
    exact .inr ⟨h1, h2, this⟩
theorem com_len (hl : l.length ≤ 32) (hc : sizeR co = l.length) : (comE l a co).length = l.length := by
  have e0 : sizeR (newR l.length) = sizeR (rfE l a) := by rw [size_new hl, rf_size hl]
  have e1 : sizeR (orR (newR l.length) (rfE l a)) = sizeR co := by rw [size_or e0, size_new hl, hc]
  have e2 : sizeR (orR (orR (newR l.length) (rfE l a)) co) = sizeR (frE l a co) := by rw [size_or e1, size_or e0, size_new hl, fr_size hl]
  rw [comE, unionE, List.foldl_cons, List.foldl_cons, List.foldl_cons, List.foldl_nil, orR, both_len _ e2]
  rw [size_or e1, size_or e0, size_new hl]
end
end Go.Proofs.Ytfpbdphdahfgbaa
