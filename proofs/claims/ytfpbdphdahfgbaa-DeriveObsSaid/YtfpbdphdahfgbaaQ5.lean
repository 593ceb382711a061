/- Of all ways: each fits, has no ring; its last and first writes; how many there are. -/
import Derived.Test.YtfpbdphdahfgbaaQ3
import Derived.Test.YtfpbdphdahfgbaaQ4
namespace Go.Proofs.Ytfpbdphdahfgbaa
open Go

section
variable {l : List Ev} {k : Nat} {f : Int → List Int} {co : List (BitVec 32)}

theorem place_inj {m m' : Nat} (hm : m < (placesE l).length) (hm' : m' < (placesE l).length) (h : placeAt l m = placeAt l m') : m = m' := by
  rcases Nat.lt_trichotomy m m' with h1 | h1 | h1
  · exact absurd h (place_ne l h1 hm')
  · exact h1
  · exact absurd h.symm (place_ne l h1 hm)
theorem choice_at (hc : choice l (placesE l).length f) {p : Int} (hp : p ∈ placesE l) : f p ∈ allO (writesE l p) := by
  obtain ⟨m, hm, rfl⟩ := place_get l hp
  exact hc m hm
theorem write_place {p x : Int} (h : x ∈ writesE l p) : p ∈ placesE l := by
  obtain ⟨i, hi, _, hw⟩ := (mem_writes l p x).1 h
  exact (mem_places l p).2 ⟨i, hi, hw⟩
theorem choice_nodup (hc : choice l (placesE l).length f) {p : Int} (hp : p ∈ placesE l) : (f p).Nodup := (allO_perm (choice_at hc hp)).nodup_iff.2 (writes_nodup l p)
/-- What a way has, by place. -/
theorem way_has (hc : choice l (placesE l).length f) (hw : IsWay l (placesE l).length f co) (i j : Nat) : hN co i j = true ↔ ∃ p ∈ placesE l, bef (f p) i j := by
  rw [hw.has]
  constructor
  · rintro ⟨m, hm, h⟩
    exact ⟨placeAt l m, by simp [placeAt, hm], h⟩
  · rintro ⟨p, hp, h⟩
    obtain ⟨m, hm, rfl⟩ := place_get l hp
    exact ⟨m, hm, h⟩
theorem way_hasR (hc : choice l (placesE l).length f) (hw : IsWay l (placesE l).length f co) {p a b : Int} (ha : a ∈ writesE l p) (hb : b ∈ writesE l p) : hasR co a b = true ↔ bef (f p) a b := by
  have hp := write_place ha
  obtain ⟨i, hi, rfl, _⟩ := (mem_writes l p a).1 ha
  obtain ⟨j, hj, rfl, _⟩ := (mem_writes l p b).1 hb
  rw [hasR_nat, way_has hc hw]
  constructor
  · rintro ⟨q, hq, h⟩
    have := writes_apart (bef_write (choice_at hc hq) h).1 ha
    subst this; exact h
  · exact fun h => ⟨p, hp, h⟩
theorem way_trans (hc : choice l (placesE l).length f) (hw : IsWay l (placesE l).length f co) (a b c : Nat) (h1 : hN co a b = true) (h2 : hN co b c = true) : hN co a c = true := by
  rw [way_has hc hw] at h1 h2 ⊢
  obtain ⟨p, hp, h1⟩ := h1
  obtain ⟨q, hq, h2⟩ := h2
  have := writes_apart (bef_write (choice_at hc hp) h1).2 (bef_write (choice_at hc hq) h2).1
  subst this
  exact ⟨p, hp, bef_trans (choice_nodup hc hp) h1 h2⟩
theorem way_irr (hc : choice l (placesE l).length f) (hw : IsWay l (placesE l).length f co) (a : Nat) : ¬ hN co a a = true := by
  rw [way_has hc hw]
  rintro ⟨p, hp, h⟩
  exact bef_irr (choice_nodup hc hp) _ h
theorem way_fits (hl : l.length ≤ 32) (hc : choice l (placesE l).length f) (hw : IsWay l (placesE l).length f co) : fitsE l co = true := by
  rw [fits_iff]
  obtain ⟨h1, h2⟩ := tidy_len hw.tidy
  refine ⟨by rw [← h2, hw.size], hl, fun i j => ?_, fun i j h => ?_, fun i j k => way_trans hc hw i j k⟩
  · constructor
    · have half : ∀ i j, hN co i j = true → twoW l i j := fun i j h => by
        have hne : i ≠ j := by rintro rfl; exact way_irr hc hw i h
        obtain ⟨p, hp, hb⟩ := (way_has hc hw i j).1 h
        obtain ⟨ha, hb⟩ := bef_write (choice_at hc hp) hb
        obtain ⟨hi, hwi⟩ := write_lt ha
        obtain ⟨hj, hwj⟩ := write_lt hb
        simp only [isW, Bool.and_eq_true, beq_iff_eq] at hwi hwj
        exact ⟨hi, hj, hne, hwi.1, hwj.1, by rw [hwi.2, hwj.2]⟩
      rintro (h | h)
      · exact half i j h
      · obtain ⟨a1, a2, a3, a4, a5, a6⟩ := half j i h
        exact ⟨a2, a1, a3.symm, a5, a4, a6.symm⟩
    · rintro ⟨hi, hj, hne, hki, hkj, hloc⟩
      have ha : (i : Int) ∈ writesE l (l.getD i default).loc := (mem_writes _ _ _).2 ⟨i, hi, rfl, by simp [isW] at hki ⊢; exact hki⟩
      have hb : (j : Int) ∈ writesE l (l.getD i default).loc := (mem_writes _ _ _).2 ⟨j, hj, rfl, by rw [hloc]; simp [isW] at hkj ⊢; exact hkj⟩
      have hp := write_place ha
      have hperm := allO_perm (choice_at hc hp)
      rcases bef_total (hperm.mem_iff.2 ha) (hperm.mem_iff.2 hb) (by omega) with h | h
      · exact .inl ((way_has hc hw i j).2 ⟨_, hp, h⟩)
      · exact .inr ((way_has hc hw j i).2 ⟨_, hp, h⟩)
  · cases h' : hN co j i with
    | false => rfl
    | true => exact absurd (way_trans hc hw _ _ _ h h') (way_irr hc hw i)
theorem way_acyclic (hc : choice l (placesE l).length f) (hw : IsWay l (placesE l).length f co) : acyclicR co = true :=
  acyclic_of (T := fun a b => hN co a b = true) (way_trans hc hw) (way_irr hc hw) (fun _ _ h => h)

theorem lastOf_eq {co : List (BitVec 32)} {ws : List Int} {x : Int} (hx : x ∈ ws) (h : ∀ w ∈ ws, lastIs co ws w = true ↔ w = x) : lastOf co ws = x := by
  unfold lastOf
  cases hf : ws.find? (lastIs co ws) with
  | none => exact absurd ((h x hx).2 rfl) (by simpa using List.find?_eq_none.1 hf x hx)
  | some y =>
    have h1 := List.mem_of_find?_eq_some hf
    have h2 := List.find?_some hf
    exact (h y h1).1 h2
theorem lastIs_iff {co : List (BitVec 32)} {ws : List Int} {w : Int} : lastIs co ws w = true ↔ ∀ x ∈ ws, hasR co w x = false := by
  rw [lastIs, List.all_eq_true]; simp
/-- The last of an order is the last write. -/
theorem way_last (hc : choice l (placesE l).length f) (hw : IsWay l (placesE l).length f co) {p x : Int} {q : List Int} (hp : p ∈ placesE l) (hq : f p = q ++ [x]) : lastOf co (writesE l p) = x := by
  have hperm := allO_perm (choice_at hc hp)
  obtain ⟨h1, h2⟩ := bef_last (choice_nodup hc hp) hq
  have hx : x ∈ writesE l p := hperm.mem_iff.1 (by rw [hq]; simp)
  refine lastOf_eq hx fun w hwm => ?_
  rw [lastIs_iff]
  constructor
  · intro h
    by_cases e : w = x
    · exact e
    · have := (way_hasR hc hw hwm hx).2 (h1 w (hperm.mem_iff.2 hwm) e)
      rw [h x hx] at this; cases this
  · rintro rfl y hy
    cases hh : hasR co w y with
    | false => rfl
    | true => exact absurd ((way_hasR hc hw hx hy).1 hh) (h2 y)
theorem hasR_inv (co : List (BitVec 32)) (a b : Int) : hasR (invR co) a b = hasR co b a := by
  rw [Bool.eq_iff_iff]
  constructor
  · intro h
    obtain ⟨i, j, rfl, rfl, h1⟩ := hasR_int h
    rw [hN_inv] at h1; rw [hasR_nat]; exact h1
  · intro h
    obtain ⟨i, j, rfl, rfl, h1⟩ := hasR_int h
    rw [← hN_inv] at h1; rw [hasR_nat]; exact h1
theorem way_first (hc : choice l (placesE l).length f) (hw : IsWay l (placesE l).length f co) {p x : Int} {q : List Int} (hp : p ∈ placesE l) (hq : f p = x :: q) : lastOf (invR co) (writesE l p) = x := by
  have hperm := allO_perm (choice_at hc hp)
  obtain ⟨h1, h2⟩ := bef_head (choice_nodup hc hp) hq
  have hx : x ∈ writesE l p := hperm.mem_iff.1 (by rw [hq]; simp)
  refine lastOf_eq hx fun w hwm => ?_
  rw [lastIs_iff]
  constructor
  · intro h
    by_cases e : w = x
    · exact e
    · have := (way_hasR hc hw hx hwm).2 (h1 w (hperm.mem_iff.2 hwm) e)
      have h3 := h x hx
      rw [hasR_inv, this] at h3; cases h3
  · rintro rfl y hy
    rw [hasR_inv]
    cases hh : hasR co y w with
    | false => rfl
    | true => exact absurd ((way_hasR hc hw hy hx).1 hh) (h2 y)
end

section
variable {l : List Ev}
theorem writes_few (hw : (locsTo l l.length).length ≤ 7) (p : Int) : (writesE l p).length ≤ (locsTo l l.length).length := by
  have := sum_writes l [p] (by simp) l.length (Nat.le_refl _)
  simpa [writesE] using this
theorem ways_of (hl : l.length ≤ 32) (hw : (locsTo l l.length).length ≤ 7) {co : List (BitVec 32)} (h : co ∈ allE l) : ∃ f, choice l (placesE l).length f ∧ IsWay l (placesE l).length f co := by
  rw [allE_eq l hw] at h
  exact way_of_mem hl (Nat.le_refl _) h
theorem ways_at (hl : l.length ≤ 32) (hw : (locsTo l l.length).length ≤ 7) (f : Int → List Int) (hf : ∀ p ∈ placesE l, (f p).Perm (writesE l p)) (h6 : ∀ p, (writesE l p).length ≤ 6) : ∃ co ∈ allE l, choice l (placesE l).length f ∧ IsWay l (placesE l).length f co := by
  have hc : choice l (placesE l).length f := fun m hm => (mem_allO (h6 _)).2 (hf _ (by simp [placeAt, hm]))
  obtain ⟨co, h1, h2⟩ := way_exists hl f hc
  rw [allE_eq l hw]
  exact ⟨co, h1, hc, h2⟩
theorem ways_nodup (hl : l.length ≤ 32) (hw : (locsTo l l.length).length ≤ 7) : (allE l).Nodup := by
  rw [allE_eq l hw]; exact outTo_nodup hl (Nat.le_refl _)
theorem ways_tidy (hl : l.length ≤ 32) (hw : (locsTo l l.length).length ≤ 7) {co : List (BitVec 32)} (h : co ∈ allE l) : tidyR co ∧ sizeR co = l.length := by
  obtain ⟨f, _, hw⟩ := ways_of hl hw h
  exact ⟨hw.tidy, hw.size⟩
theorem ways_unlike (hl : l.length ≤ 32) (hw : (locsTo l l.length).length ≤ 7) {i k : Nat} (hi : i < (allE l).length) (hk : k < (allE l).length) (hne : i ≠ k) : sameR (allE l)[i] (allE l)[k] = false := by
  cases h : sameR (allE l)[i] (allE l)[k] with
  | false => rfl
  | true =>
    obtain ⟨h1, h2⟩ := (sameR_iff _ _).1 h
    have := tidy_ext (ways_tidy hl hw (List.getElem_mem hi)).1 (ways_tidy hl hw (List.getElem_mem hk)).1 h1 h2
    exact absurd ((List.getElem_inj (ways_nodup hl hw)).1 this) hne

/-! How many -/
theorem outTo_count (h6 : ∀ p, (writesE l p).length ≤ 6) : ∀ k, k ≤ (placesE l).length → (outTo l k).length = prodL (((placesE l).take k).map fun p => fact (writesE l p).length)
  | 0, _ => by simp [outTo, prodL]
  | k + 1, hk => by
    rw [outTo, nextE_len, take_places l (by omega), List.map_append, prodL_append, outTo_count h6 k (by omega), allO_count (h6 _)]
    simp [prodL]
theorem outTo_none {p : Int} (hp : p ∈ placesE l) (h6 : 6 < (writesE l p).length) : outTo l (placesE l).length = [] := by
  obtain ⟨m, hm, rfl⟩ := place_get l hp
  have : ∀ k, m < k → outTo l k = [] := fun k hk => by
    induction k with
    | zero => omega
    | succ k ih =>
      rw [outTo]
      by_cases e : m = k
      · subst e; rw [allO_none h6, nextE]; simp [orAll]
      · rw [ih (by omega), nextE]; rfl
  exact this _ hm
def manyTo (l : List Ev) : Nat → Nat
  | 0 => 1
  | k + 1 => if ((l.getD k default).kind == 2) = true then manyTo l k * ((writesTo l (l.getD k default).loc k).length + 1) else manyTo l k
theorem prod_upd (g g' : Int → Nat) (c : Nat) (p : Int) : ∀ ps : List Int, ps.Nodup → p ∈ ps → (∀ q, q ≠ p → g' q = g q) → g' p = g p * c → prodL (ps.map g') = prodL (ps.map g) * c
  | [], _, h, _, _ => by simp at h
  | q :: ps, hn, h, h1, h2 => by
    rw [List.nodup_cons] at hn
    rw [List.map_cons, prodL, List.map_cons, prodL]
    by_cases e : q = p
    · subst e
      have : ps.map g' = ps.map g := List.map_congr_left fun x hx => h1 x fun e => hn.1 (e ▸ hx)
      rw [this, h2, Nat.mul_right_comm]
    · have hp : p ∈ ps := by
        rcases List.mem_cons.1 h with h | h
        · exact absurd h.symm e
        · exact h
      rw [h1 q e, prod_upd g g' c p ps hn.2 hp h1 h2, Nat.mul_assoc]
theorem many_prod : ∀ k, k ≤ l.length → manyTo l k = prodL ((placesE l).map fun p => fact (writesTo l p k).length)
  | 0, _ => by
    have : ∀ ps : List Int, prodL (ps.map fun p => fact (writesTo l p 0).length) = 1 := fun ps => by induction ps with
      | nil => rfl
      | cons p ps ih => rw [List.map_cons, prodL, ih]; simp [writesTo, fact]
    rw [this]; rfl
  | k + 1, hk => by
    have hk' : k < l.length := by omega
    have e : l.getD k default = l[k] := by simp [hk']
    rw [manyTo, many_prod k (by omega), e]
    split
    · rename_i h2
      have hw : isW l[k].loc l[k] = true := by simp only [isW, h2]; simp
      symm
      refine prod_upd _ _ _ l[k].loc _ (places_nodup l) ((mem_places l _).2 ⟨k, hk', by rw [e]; exact hw⟩) (fun q hq => ?_) ?_
      · rw [writesTo_succ l q hk', if_neg, List.append_nil]
        simp only [isW, Bool.and_eq_true, beq_iff_eq]
        exact fun h => hq h.2.symm
      · rw [writesTo_succ l _ hk', if_pos hw, List.length_append, List.length_cons, List.length_nil, Nat.zero_add, fact, Nat.mul_comm]
    · rename_i h2
      congr 1
      refine List.map_congr_left fun q _ => ?_
      rw [writesTo_succ l q hk', if_neg, List.append_nil]
      simp only [isW, Bool.and_eq_true]
      exact fun h => h2 h.1
theorem many_le (hw : (locsTo l l.length).length ≤ 7) {k : Nat} (hk : k ≤ l.length) : manyTo l k ≤ 5040 := by
  rw [many_prod k hk]
  have h1 : ((placesE l).map fun p => fact (writesTo l p k).length) = ((placesE l).map fun p => (writesTo l p k).length).map fact := by rw [List.map_map]; rfl
  rw [h1]
  refine Nat.le_trans (prod_fact _) ?_
  have h2 := sum_writes l (placesE l) (places_nodup l) k hk
  have h3 : (locsTo l k).length ≤ (locsTo l l.length).length := by
    rw [locsTo, locsTo, List.length_map, List.length_map]
    refine (List.Sublist.filter _ ?_).length_le
    rw [List.take_length]; exact List.take_sublist _ _
  exact Nat.le_trans (fact_mono (Nat.le_trans h2 (Nat.le_trans h3 hw))) (by decide)
theorem ways_many (hw : (locsTo l l.length).length ≤ 7) (h6 : ∀ p, (writesE l p).length ≤ 6) : (allE l).length = manyTo l l.length := by
  rw [allE_eq l hw, outTo_count h6 _ (Nat.le_refl _), List.take_length, many_prod _ (Nat.le_refl _)]; rfl
theorem ways_none (hw : (locsTo l l.length).length ≤ 7) {p : Int} (h6 : 6 < (writesE l p).length) : allE l = [] := by
  have hp : p ∈ placesE l := by
    by_cases h : p ∈ placesE l
    · exact h
    · rw [(writes_nil l p).2 h] at h6; simp at h6
  rw [allE_eq l hw, outTo_none hp h6]

/-- Where a write stands among those of its place. -/
theorem writes_split (p : Int) : ∀ n i, i < n → n ≤ l.length → isW p (l.getD i default) = true → ∃ rest, writesTo l p n = writesTo l p i ++ (i : Int) :: rest ∧ ∀ x ∈ rest, (i : Int) < x
  | 0, i, hi, _, _ => by omega
  | n + 1, i, hi, hn, hw => by
    have hn' : n < l.length := by omega
    have e : l.getD n default = l[n] := by simp [hn']
    rw [writesTo_succ l p hn']
    by_cases h : i = n
    · subst h
      rw [e] at hw
      exact ⟨[], by rw [if_pos hw], by simp⟩
    · obtain ⟨rest, h1, h2⟩ := writes_split p n i (by omega) (by omega) hw
      refine ⟨rest ++ (if isW p l[n] = true then [(n : Int)] else []), by rw [h1]; simp, fun x hx => ?_⟩
      rcases List.mem_append.1 hx with hx | hx
      · exact h2 x hx
      · split at hx
        · simp at hx; omega
        · simp at hx
theorem writes_below (p : Int) (k : Nat) : ∀ x ∈ writesTo l p k, x < k := fun x hx => by
  obtain ⟨i, h1, h2, _⟩ := writesTo_mem hx
  omega
end
end Go.Proofs.Ytfpbdphdahfgbaa
