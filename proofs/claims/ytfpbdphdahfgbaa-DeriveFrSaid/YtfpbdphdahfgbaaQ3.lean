/- All ways in which writes come: what each has, that each choice of orders is one, how many there are. -/
import Derived.Test.YtfpbdphdahfgbaaQ2
import Derived.Test.YtfpbdphdahfgbaaO5
namespace Go.Proofs.Ytfpbdphdahfgbaa
open Go

/-! Places -/
theorem compact_sorted (zs : List Int) (hs : zs.Pairwise (· ≤ ·)) : (Lib.compact zs).Pairwise (· < ·) ∧ ∀ x, x ∈ Lib.compact zs ↔ x ∈ zs := by
  have hle : ∀ i j, i ≤ j → j < zs.length → zs.toArray[i]! ≤ zs.toArray[j]! := fun i j hij hj => by
    have e1 : zs.toArray[i]! = zs[i]'(by omega) := by simp [getElem!_pos, show i < zs.length by omega]
    have e2 : zs.toArray[j]! = zs[j] := by simp [getElem!_pos, hj]
    rw [e1, e2]
    by_cases h : i = j
    · subst h; exact Int.le_refl _
    · exact List.pairwise_iff_getElem.1 hs i j (by omega) hj (by omega)
  have key : ∀ m, m ≤ zs.length → (Lib.compactUpTo zs.toArray m).Pairwise (· < ·) ∧ (∀ x, x ∈ Lib.compactUpTo zs.toArray m ↔ ∃ j, j < m ∧ zs.toArray[j]! = x) := by
    intro m
    induction m with
    | zero => intro _; simp [Lib.compactUpTo]
    | succ m ih =>
      intro hm
      obtain ⟨h1, h2⟩ := ih (by omega)
      rw [Lib.compactUpTo_succ]
      by_cases hk : Lib.keeps zs.toArray m = true
      · rw [if_pos hk]
        have hlt : ∀ x ∈ Lib.compactUpTo zs.toArray m, x < zs.toArray[m]! := fun x hx => by
          obtain ⟨j, hj, rfl⟩ := (h2 x).1 hx
          have hm0 : m ≠ 0 := by omega
          simp only [Lib.keeps, decide_eq_true_eq] at hk
          have h3 : zs.toArray[m]! ≠ zs.toArray[m - 1]! := hk.resolve_left hm0
          have h4 := hle (m - 1) m (by omega) (by omega)
          have h5 := hle j (m - 1) (by omega) (by omega)
          omega
        refine ⟨?_, fun x => ?_⟩
        · rw [List.pairwise_append]
          exact ⟨h1, by simp, fun a ha b hb => by rw [List.mem_singleton] at hb; subst hb; exact hlt a ha⟩
        · rw [List.mem_append, h2]
          constructor
          · rintro (⟨j, hj, e⟩ | hx)
            · exact ⟨j, by omega, e⟩
            · simp at hx; exact ⟨m, by omega, by rw [hx]; simp⟩
          · rintro ⟨j, hj, e⟩
            by_cases hjm : j = m
            · subst hjm; right; simp [← e]
            · exact .inl ⟨j, by omega, e⟩
      · rw [if_neg hk, List.append_nil]
        refine ⟨h1, fun x => ?_⟩
        rw [h2]
        constructor
        · rintro ⟨j, hj, e⟩; exact ⟨j, by omega, e⟩
        · rintro ⟨j, hj, e⟩
          by_cases hjm : j = m
          · subst hjm
            simp only [Lib.keeps, decide_eq_true_eq, not_or, Decidable.not_not] at hk
            exact ⟨j - 1, by omega, by rw [← e]; exact hk.2.symm⟩
          · exact ⟨j, by omega, e⟩
  obtain ⟨h1, h2⟩ := key zs.length (Nat.le_refl _)
  refine ⟨h1, fun x => ?_⟩
  rw [Lib.compact, h2]
  constructor
  · rintro ⟨j, hj, rfl⟩
    have : zs.toArray[j]! = zs[j] := by simp [getElem!_pos, hj]
    rw [this]; exact List.getElem_mem hj
  · intro hx
    obtain ⟨j, hj, e⟩ := List.getElem_of_mem hx
    exact ⟨j, hj, by rw [← e]; simp [getElem!_pos, hj]⟩

theorem mem_locs (l : List Ev) (loc : Int) : ∀ k, k ≤ l.length → (loc ∈ locsTo l k ↔ ∃ i, i < k ∧ isW loc (l.getD i default) = true)
  | 0, _ => by simp [locsTo]
  | k + 1, hk => by
    have hk' : k < l.length := by omega
    have e : l.getD k default = l[k] := by simp [hk']
    rw [locsTo_succ l hk', List.mem_append, mem_locs l loc k (by omega)]
    constructor
    · rintro (⟨i, hi, h⟩ | h)
      · exact ⟨i, by omega, h⟩
      · refine ⟨k, by omega, ?_⟩
        rw [e]
        split at h
        · rename_i h2
          simp at h
          simp only [isW, h2, h]; simp
        · simp at h
    · rintro ⟨i, hi, h⟩
      by_cases hik : i = k
      · subst hik
        right
        rw [e] at h
        simp only [isW, Bool.and_eq_true] at h
        rw [if_pos h.1]
        simp only [beq_iff_eq] at h
        simp [h.2]
      · exact .inl ⟨i, by omega, h⟩
theorem places_sorted (l : List Ev) : (placesE l).Pairwise (· < ·) := by
  refine (compact_sorted (locsE l) ?_).1
  have := List.pairwise_mergeSort (le := fun x y : Int => decide (x ≤ y)) (fun a b c h1 h2 => by simp at *; omega) (fun a b => by simp; omega) (locsTo l l.length)
  exact this.imp fun h => by simpa using h
theorem mem_places (l : List Ev) (loc : Int) : loc ∈ placesE l ↔ ∃ i, i < l.length ∧ isW loc (l.getD i default) = true := by
  have h := (compact_sorted (locsE l) (by
    have := List.pairwise_mergeSort (le := fun x y : Int => decide (x ≤ y)) (fun a b c h1 h2 => by simp at *; omega) (fun a b => by simp; omega) (locsTo l l.length)
    exact this.imp fun h => by simpa using h)).2 loc
  rw [placesE, h, locsE, List.mem_mergeSort, mem_locs l loc _ (Nat.le_refl _)]
theorem places_nodup (l : List Ev) : (placesE l).Nodup := (places_sorted l).imp fun h => by omega

/-! Writes of a place -/
theorem mem_writes (l : List Ev) (loc x : Int) : x ∈ writesE l loc ↔ ∃ i : Nat, i < l.length ∧ x = i ∧ isW loc (l.getD i default) = true := by
  constructor
  · exact fun h => by
      simp only [writesE, writesTo, List.mem_map, List.mem_filter, List.mem_range] at h
      obtain ⟨i, ⟨h1, h2⟩, rfl⟩ := h
      exact ⟨i, h1, rfl, h2⟩
  · rintro ⟨i, h1, rfl, h2⟩
    simp only [writesE, writesTo, List.mem_map, List.mem_filter, List.mem_range]
    exact ⟨i, ⟨h1, h2⟩, rfl⟩
theorem writes_nodup (l : List Ev) (loc : Int) : (writesE l loc).Nodup := by
  rw [writesE, writesTo]
  exact nodup_map _ _ (List.nodup_range.filter _) fun x _ y _ e => by omega
theorem writes_nil (l : List Ev) (loc : Int) : writesE l loc = [] ↔ loc ∉ placesE l := by
  rw [mem_places, List.eq_nil_iff_forall_not_mem]
  constructor
  · rintro h ⟨i, hi, hw⟩
    exact h i ((mem_writes l loc i).2 ⟨i, hi, rfl, hw⟩)
  · intro h x hx
    obtain ⟨i, hi, _, hw⟩ := (mem_writes l loc x).1 hx
    exact h ⟨i, hi, hw⟩
theorem writes_apart {l : List Ev} {p q x : Int} (hp : x ∈ writesE l p) (hq : x ∈ writesE l q) : p = q := by
  obtain ⟨i, _, rfl, h1⟩ := (mem_writes l p x).1 hp
  obtain ⟨j, _, e, h2⟩ := (mem_writes l q i).1 hq
  have : i = j := by omega
  subst this
  simp only [isW, Bool.and_eq_true, beq_iff_eq] at h1 h2
  rw [← h1.2, h2.2]
theorem writes_len_le (l : List Ev) (loc : Int) : (writesE l loc).length ≤ l.length := writesTo_len l loc _

theorem sum_writes (l : List Ev) (ps : List Int) (hn : ps.Nodup) : ∀ k, k ≤ l.length → (ps.map fun p => (writesTo l p k).length).sum ≤ (locsTo l k).length
  | 0, _ => by
    have : ∀ ps : List Int, (ps.map fun p => (writesTo l p 0).length).sum = 0 := fun ps => by induction ps with
      | nil => rfl
      | cons p ps ih => rw [List.map_cons, List.sum_cons, ih]; simp [writesTo]
    rw [this]; exact Nat.zero_le _
  | k + 1, hk => by
    have hk' : k < l.length := by omega
    have ih := sum_writes l ps hn k (by omega)
    have key : ∀ ps : List Int, ps.Nodup → (ps.map fun p => (writesTo l p (k + 1)).length).sum ≤ (ps.map fun p => (writesTo l p k).length).sum + (if (l[k].kind == 2) = true ∧ l[k].loc ∈ ps then 1 else 0) := by
      intro ps hn
      induction ps with
      | nil => simp
      | cons p ps ih =>
        rw [List.nodup_cons] at hn
        have h1 := ih hn.2
        rw [List.map_cons, List.sum_cons, List.map_cons, List.sum_cons, writesTo_succ l p hk', List.length_append]
        by_cases hw : isW p l[k] = true
        · have hw' := hw
          simp only [isW, Bool.and_eq_true, beq_iff_eq] at hw'
          have hnot : ¬ ((l[k].kind == 2) = true ∧ l[k].loc ∈ ps) := fun h => hn.1 (hw'.2 ▸ h.2)
          rw [if_neg hnot] at h1
          rw [if_pos hw, if_pos ⟨by simp [hw'.1], by simp [hw'.2]⟩]
          simp only [List.length_cons, List.length_nil]
          omega
        · rw [if_neg hw]
          simp only [List.length_nil]
          have : (if (l[k].kind == 2) = true ∧ l[k].loc ∈ ps then 1 else 0) ≤ (if (l[k].kind == 2) = true ∧ l[k].loc ∈ p :: ps then 1 else 0) := by
            split
            · rename_i h; rw [if_pos ⟨h.1, by simp [h.2]⟩]; omega
            · exact Nat.zero_le _
          omega
    have h2 := key ps hn
    rw [locsTo_succ l hk', List.length_append]
    by_cases hw : (l[k].kind == 2) = true
    · rw [if_pos hw]
      have : (if (l[k].kind == 2) = true ∧ l[k].loc ∈ ps then 1 else 0) ≤ 1 := by split <;> omega
      simp only [List.length_cons, List.length_nil]
      omega
    · rw [if_neg (fun h => hw h.1)] at h2
      omega

/-! The ways -/
def placeAt (l : List Ev) (k : Nat) : Int := (placesE l).getD k 0
def outTo (l : List Ev) : Nat → List (List (BitVec 32))
  | 0 => [newR l.length]
  | k + 1 => nextE l.length (allO (writesE l (placeAt l k))) (outTo l k)
def prodL : List Nat → Nat
  | [] => 1
  | x :: l => x * prodL l
theorem prodL_append (a b : List Nat) : prodL (a ++ b) = prodL a * prodL b := by
  induction a with
  | nil => simp [prodL]
  | cons x a ih => rw [List.cons_append, prodL, prodL, ih, Nat.mul_assoc]
theorem prod_fact : ∀ l : List Nat, prodL (l.map fact) ≤ fact l.sum
  | [] => by simp [prodL, fact]
  | x :: l => by
    rw [List.map_cons, prodL, List.sum_cons]
    exact Nat.le_trans (Nat.mul_le_mul_left _ (prod_fact l)) (fact_mul _ _)
theorem take_places (l : List Ev) {k : Nat} (hk : k < (placesE l).length) : (placesE l).take (k + 1) = (placesE l).take k ++ [placeAt l k] := by
  rw [List.take_add_one, List.getElem?_eq_getElem hk]; simp [placeAt, hk]
theorem allO_le (w : List Int) : (allO w).length ≤ fact w.length := by
  by_cases h : w.length ≤ 6
  · rw [allO_count h]; exact Nat.le_refl _
  · rw [allO_none (by omega)]; simp
theorem outTo_len (l : List Ev) : ∀ k, k ≤ (placesE l).length → (outTo l k).length ≤ prodL (((placesE l).take k).map fun p => fact (writesE l p).length)
  | 0, _ => by simp [outTo, prodL]
  | k + 1, hk => by
    rw [outTo, nextE_len, take_places l (by omega), List.map_append, prodL_append]
    refine Nat.mul_le_mul (outTo_len l k (by omega)) ?_
    simp only [List.map_cons, List.map_nil, prodL, Nat.mul_one]
    exact allO_le _
theorem outTo_few (l : List Ev) (hw : (locsTo l l.length).length ≤ 7) (k : Nat) (hk : k ≤ (placesE l).length) : (outTo l k).length ≤ 5040 := by
  refine Nat.le_trans (outTo_len l k hk) ?_
  have h1 : (((placesE l).take k).map fun p => fact (writesE l p).length) = (((placesE l).take k).map fun p => (writesE l p).length).map fact := by rw [List.map_map]; rfl
  rw [h1]
  refine Nat.le_trans (prod_fact _) ?_
  have h2 := sum_writes l ((placesE l).take k) ((places_nodup l).sublist (List.take_sublist _ _)) l.length (Nat.le_refl _)
  exact Nat.le_trans (fact_mono (Nat.le_trans h2 hw)) (by decide)
theorem ways_some (l : List Ev) (hw : (locsTo l l.length).length ≤ 7) : ∀ k, k ≤ (placesE l).length → waysTo l k = some (outTo l k)
  | 0, _ => rfl
  | k + 1, hk => by
    rw [waysTo, ways_some l hw k (by omega)]
    simp only [Option.bind_some]
    have h := outTo_few l hw (k + 1) hk
    rw [outTo, nextE_len, placeAt] at h
    rw [if_neg (by omega)]; rfl
theorem allE_eq (l : List Ev) (hw : (locsTo l l.length).length ≤ 7) : allE l = outTo l (placesE l).length := by
  rw [allE, ways_some l hw _ (Nat.le_refl _)]; rfl

/-- An order for each of the first 'k' places. -/
def choice (l : List Ev) (k : Nat) (f : Int → List Int) : Prop := ∀ m, m < k → f (placeAt l m) ∈ allO (writesE l (placeAt l m))
/-- The way of such orders. -/
structure IsWay (l : List Ev) (k : Nat) (f : Int → List Int) (co : List (BitVec 32)) : Prop where
  tidy : tidyR co
  size : sizeR co = l.length
  has : ∀ i j : Nat, hN co i j = true ↔ ∃ m, m < k ∧ bef (f (placeAt l m)) i j

theorem allO_perm {w p : List Int} (h : p ∈ allO w) : p.Perm w := by
  by_cases hw : w.length ≤ 6
  · exact (mem_allO hw).1 h
  · rw [allO_none (by omega)] at h; simp at h
theorem place_ne (l : List Ev) {m k : Nat} (hm : m < k) (hk : k < (placesE l).length) : placeAt l m ≠ placeAt l k := by
  intro e
  have e1 : (placesE l)[m]'(by omega) = (placesE l)[k] := by simpa [placeAt, hk, show m < (placesE l).length by omega] using e
  have := (List.getElem_inj (places_nodup l)).1 e1
  omega
theorem place_get (l : List Ev) {p : Int} (h : p ∈ placesE l) : ∃ m, m < (placesE l).length ∧ placeAt l m = p := by
  obtain ⟨m, hm, e⟩ := List.getElem_of_mem h
  exact ⟨m, hm, by simp [placeAt, hm, e]⟩
theorem bef_write {l : List Ev} {p : List Int} {loc a b : Int} (h : p ∈ allO (writesE l loc)) (hb : bef p a b) : a ∈ writesE l loc ∧ b ∈ writesE l loc := by
  have hp := allO_perm h
  exact ⟨hp.mem_iff.1 (bef_mem hb).1, hp.mem_iff.1 (bef_mem hb).2⟩
theorem write_lt {l : List Ev} {loc : Int} {i : Nat} (h : (i : Int) ∈ writesE l loc) : i < l.length ∧ isW loc (l.getD i default) = true := by
  obtain ⟨j, h1, h2, h3⟩ := (mem_writes l loc i).1 h
  have : i = j := by omega
  subst this
  exact ⟨h1, h3⟩

theorem way_step {l : List Ev} (hl : l.length ≤ 32) {k : Nat} {f : Int → List Int} {co : List (BitVec 32)} (h : IsWay l k f co) {one : List Int} (ho : one ∈ allO (writesE l (placeAt l k))) (f' : Int → List Int) (h1 : ∀ m, m < k → f' (placeAt l m) = f (placeAt l m)) (h2 : f' (placeAt l k) = one) :
    IsWay l (k + 1) f' (orR co (ofR l.length one)) := by
  have hs : sizeR co = sizeR (ofR l.length one) := by rw [h.size, size_of hl]
  refine ⟨tidy_or hs, by rw [size_or hs, h.size], fun i j => ?_⟩
  rw [hN_or hs, Bool.or_eq_true, h.has, hN_of hl]
  constructor
  · rintro (⟨m, hm, hb⟩ | ⟨_, _, hb⟩)
    · exact ⟨m, by omega, by rw [h1 m hm]; exact hb⟩
    · exact ⟨k, by omega, by rw [h2]; exact hb⟩
  · rintro ⟨m, hm, hb⟩
    by_cases e : m = k
    · subst e
      rw [h2] at hb
      obtain ⟨ha, hc⟩ := bef_write ho hb
      exact .inr ⟨(write_lt ha).1, (write_lt hc).1, hb⟩
    · rw [h1 m (by omega)] at hb
      exact .inl ⟨m, by omega, hb⟩
theorem mem_next {n : Nat} {L : List (List Int)} {out : List (List (BitVec 32))} {co : List (BitVec 32)} : co ∈ nextE n L out ↔ ∃ co' ∈ out, ∃ one ∈ L, co = orR co' (ofR n one) := by
  simp only [nextE, orAll, List.mem_flatMap, List.mem_map]
  constructor
  · rintro ⟨a, h1, b, h2, rfl⟩; exact ⟨a, h1, b, h2, rfl⟩
  · rintro ⟨a, h1, b, h2, rfl⟩; exact ⟨a, h1, b, h2, rfl⟩
theorem way_of_mem {l : List Ev} (hl : l.length ≤ 32) : ∀ {k : Nat}, k ≤ (placesE l).length → ∀ {co : List (BitVec 32)}, co ∈ outTo l k → ∃ f, choice l k f ∧ IsWay l k f co
  | 0, _, co, h => by
    simp only [outTo, List.mem_singleton] at h
    subst h
    exact ⟨fun _ => [], fun m hm => by omega, tidy_new _, size_new hl, fun i j => by rw [hN_new]; simp⟩
  | k + 1, hk, co, h => by
    rw [outTo, mem_next] at h
    obtain ⟨co', h1, one, h2, rfl⟩ := h
    obtain ⟨f, hf, hw⟩ := way_of_mem hl (by omega) h1
    have hne : ∀ m, m < k → placeAt l m ≠ placeAt l k := fun m hm => place_ne l hm (by omega)
    refine ⟨fun p => if p = placeAt l k then one else f p, fun m hm => ?_, way_step hl hw h2 _ (fun m hm => if_neg (hne m hm)) (if_pos rfl)⟩
    by_cases e : m = k
    · subst e; simpa using h2
    · simp only [if_neg (hne m (by omega))]
      exact hf m (by omega)
theorem way_exists {l : List Ev} (hl : l.length ≤ 32) (f : Int → List Int) : ∀ {k : Nat}, choice l k f → ∃ co ∈ outTo l k, IsWay l k f co
  | 0, _ => ⟨newR l.length, by simp [outTo], tidy_new _, size_new hl, fun i j => by rw [hN_new]; simp⟩
  | k + 1, h => by
    obtain ⟨co, h1, h2⟩ := way_exists hl f (k := k) fun m hm => h m (by omega)
    refine ⟨orR co (ofR l.length (f (placeAt l k))), ?_, way_step hl h2 (h k (by omega)) f (fun _ _ => rfl) rfl⟩
    rw [outTo, mem_next]
    exact ⟨co, h1, _, h k (by omega), rfl⟩

theorem outTo_nodup {l : List Ev} (hl : l.length ≤ 32) : ∀ {k : Nat}, k ≤ (placesE l).length → (outTo l k).Nodup
  | 0, _ => by simp [outTo]
  | k + 1, hk => by
    have key : ∀ co ∈ outTo l k, ∀ co' ∈ outTo l k, ∀ one ∈ allO (writesE l (placeAt l k)), ∀ one' ∈ allO (writesE l (placeAt l k)), orR co (ofR l.length one) = orR co' (ofR l.length one') → co = co' ∧ one = one' := by
      intro co h1 co' h1' one h2 one' h2' e
      obtain ⟨f, hf, hw⟩ := way_of_mem hl (by omega) h1
      obtain ⟨f', hf', hw'⟩ := way_of_mem hl (by omega) h1'
      have hs : sizeR co = sizeR (ofR l.length one) := by rw [hw.size, size_of hl]
      have hs' : sizeR co' = sizeR (ofR l.length one') := by rw [hw'.size, size_of hl]
      have hh : ∀ i j, (hN co i j = true ∨ hN (ofR l.length one) i j = true) ↔ (hN co' i j = true ∨ hN (ofR l.length one') i j = true) := fun i j => by
        rw [← Bool.or_eq_true, ← Bool.or_eq_true, ← hN_or hs, ← hN_or hs', e]
      have hin : ∀ {co f i j}, choice l k f → IsWay l k f co → hN co i j = true → (i : Int) ∉ writesE l (placeAt l k) := fun {co f i j} hf hw h hm => by
        obtain ⟨m, hm', hb⟩ := (hw.has i j).1 h
        exact place_ne l hm' (by omega) (writes_apart (bef_write (hf m hm') hb).1 hm)
      have hout : ∀ {one : List Int} {i j : Nat}, one ∈ allO (writesE l (placeAt l k)) → hN (ofR l.length one) i j = true → (i : Int) ∈ writesE l (placeAt l k) := fun {one i j} ho h => (bef_write ho ((hN_of hl _ i j).1 h).2.2).1
      refine ⟨tidy_ext hw.tidy hw'.tidy (by rw [hw.size, hw'.size]) fun i j => ?_, ?_⟩
      · rw [Bool.eq_iff_iff]
        constructor
        · intro h
          rcases (hh i j).1 (.inl h) with h3 | h3
          · exact h3
          · exact absurd (hout h2' h3) (hin hf hw h)
        · intro h
          rcases (hh i j).2 (.inl h) with h3 | h3
          · exact h3
          · exact absurd (hout h2 h3) (hin hf' hw' h)
      · have hp := allO_perm h2
        have hp' := allO_perm h2'
        have half : ∀ {co co' one one' f'}, choice l k f' → IsWay l k f' co' → one ∈ allO (writesE l (placeAt l k)) → (∀ i j, (hN co i j = true ∨ hN (ofR l.length one) i j = true) → (hN co' i j = true ∨ hN (ofR l.length one') i j = true)) → ∀ a b, bef one a b → bef one' a b := by
          intro co co' one one' f' hf' hw' h2 hh a b hb
          obtain ⟨ha, hc⟩ := bef_write h2 hb
          obtain ⟨i, hi, rfl, _⟩ := (mem_writes _ _ _).1 ha
          obtain ⟨j, hj, rfl, _⟩ := (mem_writes _ _ _).1 hc
          rcases hh i j (.inr ((hN_of hl _ i j).2 ⟨hi, hj, hb⟩)) with h3 | h3
          · exact absurd ha (hin hf' hw' h3)
          · exact ((hN_of hl _ i j).1 h3).2.2
        exact bef_ext (hp.nodup_iff.2 (writes_nodup _ _)) (hp.trans hp'.symm) fun a b => ⟨half hf' hw' h2 (fun i j => (hh i j).1) a b, half hf hw h2' (fun i j => (hh i j).2) a b⟩
    rw [outTo, nextE]
    refine nodup_flatMap _ _ (outTo_nodup hl (by omega)) (fun co h1 => ?_) (fun co h1 co' h1' hne z hz hz' => ?_)
    · exact nodup_map _ _ (allO_nodup (writes_nodup _ _)) fun one h2 one' h2' e => (key co h1 co h1 one h2 one' h2' e).2
    · rw [orAll, List.mem_map] at hz hz'
      obtain ⟨one, h2, rfl⟩ := hz
      obtain ⟨one', h2', e⟩ := hz'
      exact hne (key co h1 co' h1' one h2 one' h2' e.symm).1
end Go.Proofs.Ytfpbdphdahfgbaa
