/- A statement whose order is open: the rule, whole. -/
import Derived.Test.YtfpbdphdahfgbaaFw22
namespace Go.Proofs.Ytfpbdphdahfgbaa.Fw
open Go Go.RowKit

section
variable {P : Program} {ops : Array Oper}

theorem draw_first {m : Nat} (hf : DrawFits ops m) {en : Nat → List AV} {hp : Nat → List Blk} {rr : Nat → Option Res}
    (hs : ∀ (i : Nat) o, (ops.toList.take m)[i]? = some o → StepAt P ops o (en i) (hp i) (rr i) (en (i + 1)) (hp (i + 1)))
    {K : List AV → List Blk → Prop} {E : Entry} {Q : Exit → Act → World → Prop} (hQ : ∀ e H σ w a, K e H → St E σ w H e a → Q .normal a w)
    (hpost : aOps P ops 0 (ops.toList.drop m) (en (ops.toList.take m).length) (hp (ops.toList.take m).length) K) :
    ∀ (fuel : Nat) (done : List Nat) (listed : Array Bool) (e : List AV) (H : List Blk) (σ : Ctx) (w : World) (a : Act), listed.size = ops.size → (∀ j, listed.getD j false = decide (j ∈ done)) → done.Nodup → (∀ x ∈ done, x < m) →
      ops.size ≤ done.length + fuel → (∀ (k : Nat) p, ops.toList[k]? = some p → k ∈ done → ∀ x ∈ edgesOf p, x ∈ done) → InS P ops (ops.toList.take m) en hp rr E (fun j => listed.getD j false) σ w e H a → wpAny P .any ops Q fuel listed a w := by
  have hml : (ops.toList.take m).length = m := by rw [List.length_take]; have := hf.le; omega
  have hmN : m ≤ ops.size := by have := hf.le; simpa using this
  intro fuel
  induction fuel with
  | zero =>
    intro done listed e H σ w a hsz hL hnd hlt hfu hcl s
    -- all are done: so there is nothing behind the first ones
    have hb := nodup_bound m done hnd hlt
    refine draw_rest hf hQ 0 m listed _ _ σ w a hsz (fun j => ?_) (Nat.le_refl _) hmN (by omega) hpost ?_
    · rw [hL j]
      by_cases hj : j ∈ done
      · simp [hj, hlt j hj]
      · have hn : (j :: done).Nodup := List.nodup_cons.2 ⟨hj, hnd⟩
        by_cases hjm : j < m
        · have := nodup_bound m (j :: done) hn (fun x hx => by
            rcases List.mem_cons.1 hx with rfl | hx
            · exact hjm
            · exact hlt x hx)
          simp at this
          omega
        · simp [hj, hjm]
    · have hall : ∀ j, j < m → listed.getD j false = true := fun j hjm => by
        rw [hL j]
        by_cases hj : j ∈ done
        · simpa using hj
        · have hn : (j :: done).Nodup := List.nodup_cons.2 ⟨hj, hnd⟩
          have := nodup_bound m (j :: done) hn (fun x hx => by
            rcases List.mem_cons.1 hx with rfl | hx
            · exact hjm
            · exact hlt x hx)
          simp at this
          omega
      have he : e = en (ops.toList.take m).length := by
        apply List.ext_getElem?
        intro t
        refine s.new t fun ⟨j, o, hj, _, hLj⟩ => ?_
        have hjm : j < m := by have := (List.getElem?_eq_some_iff.1 hj).1; omega
        rw [hall j hjm] at hLj
        cases hLj
      have hH : H = hp (ops.toList.take m).length := by
        apply List.ext_getElem?
        intro id
        refine s.hnew id fun ⟨j, hj, hLj, _⟩ => ?_
        rw [hall j (by omega)] at hLj
        cases hLj
      rw [← he, ← hH]
      exact s.st
  | succ fuel ih =>
    intro done listed e H σ w a hsz hL hnd hlt hfu hcl s
    by_cases hall : ∀ j, j < m → j ∈ done
    · refine draw_rest hf hQ (fuel + 1) m listed _ _ σ w a hsz (fun j => ?_) (Nat.le_refl _) hmN (by have := nodup_bound m done hnd hlt; omega) hpost ?_
      · rw [hL j]
        by_cases hj : j ∈ done
        · simp [hj, hlt j hj]
        · have hjm : ¬ j < m := fun h => hj (hall j h)
          simp [hj, hjm]
      · have hall' : ∀ j, j < m → listed.getD j false = true := fun j hjm => by rw [hL j]; simpa using hall j hjm
        have he : e = en (ops.toList.take m).length := by
          apply List.ext_getElem?
          intro t
          refine s.new t fun ⟨j, o, hj, _, hLj⟩ => ?_
          have hjm : j < m := by have := (List.getElem?_eq_some_iff.1 hj).1; omega
          rw [hall' j hjm] at hLj
          cases hLj
        have hH : H = hp (ops.toList.take m).length := by
          apply List.ext_getElem?
          intro id
          refine s.hnew id fun ⟨j, hj, hLj, _⟩ => ?_
          rw [hall' j (by omega)] at hLj
          cases hLj
        rw [← he, ← hH]
        exact s.st
    · have hex : ∃ j, j < m ∧ j ∉ done := by
        refine Classical.byContradiction fun hn => hall fun j hj => Classical.byContradiction fun hd => hn ⟨j, hj, hd⟩
      have conv : ∀ {j : Nat}, j ∈ Region.ready .any ops listed → j ∉ done ∧ ∃ o, ops.toList[j]? = some o ∧ ∀ x ∈ edgesOf o, x ∈ done := fun {j} hj => by
        obtain ⟨h1, o, ho, hedge⟩ := mem_ready.1 hj
        have hjl := (Array.getElem?_eq_some_iff.1 ho).1
        have h3 : listed.getD j true = listed.getD j false := by simp [Array.getD, hsz, hjl]
        rw [h3, hL j] at h1
        refine ⟨by simpa using h1, o, by simpa using ho, fun x hx => ?_⟩
        simp only [edgesOf, List.mem_map, List.mem_filter] at hx
        obtain ⟨ed, ⟨hm1, hm2⟩, rfl⟩ := hx
        have := hedge ed (by simpa using hm1) hm2
        rw [hL] at this
        simpa using this
      refine ⟨fun hr => ?_, fun j hj => ?_⟩
      · -- the least that is left is ready
        obtain ⟨k, ⟨hk1, hk2⟩, hk3⟩ := least_of hex
        have hkl : k < ops.size := by omega
        have : k ∈ Region.ready .any ops listed := by
          refine mem_ready.2 ⟨?_, ops[k], by simp [hkl], fun ed hed hb => ?_⟩
          · have h3 : listed.getD k true = listed.getD k false := by simp [Array.getD, hsz, hkl]
            rw [h3, hL k]
            simpa using hk2
          · have hx := hf.back k ops[k] (by simp [hkl]) ed.on (by simp only [edgesOf, List.mem_map, List.mem_filter]; exact ⟨ed, ⟨by simpa using hed, hb⟩, rfl⟩)
            rw [hL]
            by_cases hd : ed.on ∈ done
            · simpa using hd
            · have := hk3 ed.on ⟨by omega, hd⟩
              omega
        rw [hr] at this
        simp at this
      · obtain ⟨hjd, o, ho, hedge⟩ := conv hj
        have hjl : j < ops.size := by have := (List.getElem?_eq_some_iff.1 ho).1; simpa using this
        have hjm : j < m := by
          rcases Nat.lt_or_ge j m with h | h
          · exact h
          · obtain ⟨k, hk1, hk2⟩ := hex
            have := hf.all (fun x => decide (x ∈ done)) j o h ho (fun k p hk hLk x hx => by
              have := hcl k p hk (by simpa using hLk) x hx
              simpa using this) (fun x hx => by simpa using hedge x hx) k (by omega)
            exact absurd (by simpa using this) hk2
        have hjpre : (ops.toList.take m)[j]? = some o := by rw [List.getElem?_take, if_pos hjm]; exact ho
        refine op_any (P := P) (ops := ops) (pre := ops.toList.take m) (en := en) (hp := hp) (rr := rr) hs hf.fits s hjpre (by rw [hL j]; simpa using hjd) (fun x hx => by rw [hL x]; simpa using hedge x hx) fun σ' w' e' H' a' s' => ?_
        refine ih (j :: done) _ e' H' σ' w' a' (by simp [hsz]) (fun k => ?_) (List.nodup_cons.2 ⟨hjd, hnd⟩) (fun x hx => by
          rcases List.mem_cons.1 hx with rfl | hx
          · exact hjm
          · exact hlt x hx) (by simp; omega) (fun k p hk hkd x hx => ?_) ?_
        · by_cases hk : j = k
          · subst hk; simp [Array.getD, hsz, hjl]
          · have e1 : (listed.setIfInBounds j true).getD k false = listed.getD k false := getD_set_ne false hk
            rw [e1, hL k]
            simp [Ne.symm hk]
        · rcases List.mem_cons.1 hkd with rfl | hkd
          · rw [ho] at hk
            injection hk with hk
            subst hk
            exact List.mem_cons_of_mem _ (hedge x hx)
          · exact List.mem_cons_of_mem _ (hcl k p hk hkd x hx)
        · have e2 : (fun i => (listed.setIfInBounds j true).getD i false) = (fun i => listed.getD i false || i == j) := by
            funext i
            by_cases hi : j = i
            · subst hi; simp [Array.getD, hsz, hjl]
            · have e1 : (listed.setIfInBounds j true).getD i false = listed.getD i false := getD_set_ne false hi
              rw [e1]
              simp [Ne.symm hi]
          rw [e2]
          exact s'

theorem deads_ok {w : World} {σ : Ctx} {H : List Blk} (h : HeapOk w σ H) : ∀ k, HeapOk w σ (H ++ List.replicate k .dead) ∧ Step w σ H w σ (H ++ List.replicate k .dead) := by
  intro k
  induction k with
  | zero => simpa using ⟨h, Step.refl w σ H⟩
  | succ k ih =>
    have h2 := dead_ok ih.1
    have e : H ++ List.replicate k Blk.dead ++ [Blk.dead] = H ++ List.replicate (k + 1) .dead := by rw [List.append_assoc, List.replicate_succ']
    rw [e] at h2
    exact ⟨h2.1, ih.2.trans h2.2⟩

theorem WpA.regionDraw {n m : Nat} {id : Nat} {Q : Exit → List AV → List Blk → Prop} {e : List AV} {H : List Blk} (hmix : P.follows .mixedOrders = true) (hok : drawOk ops m = true) (h : aOps P ops m ops.toList e H (Q .normal)) : WpA P n (.region id ops true) Q e H := fun E σ w a hn s => by
  have hf := drawOk_fits hok
  have hml : (ops.toList.take m).length = m := by rw [List.length_take]; have := hf.le; omega
  have h' := h
  rw [← List.take_append_drop m ops.toList] at h'
  rw [← hml] at h'
  rw [hml] at h'
  have h2 : aOps P ops (ops.toList.take m).length (ops.toList.take m ++ ops.toList.drop m) e H (Q .normal) := by rw [hml]; exact h'
  obtain ⟨rs, e', H', ht, hpost⟩ := aOps_trace _ h2
  obtain ⟨en, hp, rr, h3, h4, h5, h6, hs⟩ := trace_at ht
  refine wp_region_any hmix ?_
  have hdraw : St E σ { w with drawn := w.drawn + 1 } H e a := by
    refine s.next (w' := { w with drawn := w.drawn + 1 }) ⟨rfl, rfl, rfl, Nat.le_refl _, fun _ _ _ => rfl, ⟨Nat.le_refl _, fun _ h => h, fun _ _ => rfl, fun _ c hc => ⟨c, hc, Nat.le_refl _, fun _ _ => rfl⟩, fun _ _ h => h⟩, fun _ h => .inl h, fun _ h => .inl h, rfl⟩ ?_
    exact s.heap.same (w' := { w with drawn := w.drawn + 1 }) ⟨Nat.le_refl _, fun _ h => h, fun _ _ => rfl, fun _ c hc => ⟨c, hc, Nat.le_refl _, fun _ _ => rfl⟩, fun _ _ h => h⟩ rfl (fun _ => rfl) (fun _ => rfl) (Nat.le_refl _) (fun _ _ => rfl) (fun _ h => .inl h) s.heap.lt
  obtain ⟨X, hX⟩ := hp_pre hs (ops.toList.take m).length 0 (by omega)
  rw [Nat.zero_add, h4] at hX
  have hdd := deads_ok hdraw.heap X.length
  have hst := hdraw.next hdd.2 hdd.1
  refine draw_first (P := P) hf hs (K := Q .normal) (E := E) (fun e H σ w a hq hs => ⟨e, H, σ, hq, hs⟩) (by rw [h5, h6]; exact hpost) ops.size [] _ e (H ++ List.replicate X.length .dead) σ _ a (by simp) (fun j => ?_) List.nodup_nil (fun x h => by simp at h) (by simp) (fun k p _ h => by simp at h) ?_
  · simp [Array.getD]
  · have hL : ∀ j, (Array.replicate ops.size false).getD j false = false := fun j => by simp [Array.getD]
    have helen : (en (ops.toList.take m).length).length = (en 0).length := en_len hs _ (Nat.le_refl _)
    refine ⟨hst, fun t _ => by rw [h3], fun t ht => ?_, by rw [hX]; simp, fun id ⟨j, hj, _, hn, hid⟩ => ?_, fun id hid => ?_⟩
    · have := en_keep hs (t := t) (ops.toList.take m).length 0 (by omega) (fun j o _ _ hj hd => ht ⟨j, o, hj, hd, hL j⟩)
      rw [Nat.zero_add, h3] at this
      exact this.symm
    · obtain ⟨Y, hY⟩ := hp_pre hs j 0 (by omega)
      rw [Nat.zero_add, h4] at hY
      have hlen : id < (hp (ops.toList.take m).length).length := by
        obtain ⟨Z, hZ⟩ := hp_pre hs ((ops.toList.take m).length - (j + 1)) (j + 1) (by omega)
        rw [show j + 1 + ((ops.toList.take m).length - (j + 1)) = (ops.toList.take m).length from by omega] at hZ
        rcases step_heap (hs j _ (List.getElem?_eq_getElem (by omega))) with ⟨h0, _⟩ | ⟨r', _, _, h0, _⟩
        · rw [hn] at h0; cases h0
        · rw [hZ, h0, ← hid]; simp
      rw [hX] at hlen
      have hge : H.length ≤ id := by rw [← hid, hY]; simp
      rw [List.getElem?_append_right hge, List.getElem?_replicate, if_pos (by simp at hlen; omega)]
    · -- a name that nobody gives is an elder one
      by_cases hlt : id < H.length
      · rw [hX, List.getElem?_append_left hlt, List.getElem?_append_left hlt]
      · by_cases hge : H.length + X.length ≤ id
        · rw [List.getElem?_eq_none (by simp; omega), List.getElem?_eq_none (by rw [hX]; simp; omega)]
        · exfalso
          refine hid ?_
          -- the operation that gives it
          have key : ∀ k, k ≤ (ops.toList.take m).length → id < (hp k).length → ∃ j, j < (ops.toList.take m).length ∧ Res.new (rr j) = true ∧ (hp j).length = id := by
            intro k
            induction k with
            | zero => intro _ h0; rw [h4] at h0; exact absurd h0 hlt
            | succ k ih =>
              intro hk h0
              rcases step_heap (hs k _ (List.getElem?_eq_getElem (by omega))) with ⟨_, h7⟩ | ⟨r', _, hn, h7, _⟩
              · rw [h7] at h0; exact ih (by omega) h0
              · rw [h7] at h0
                simp at h0
                by_cases he : id = (hp k).length
                · exact ⟨k, by omega, hn, he.symm⟩
                · exact ih (by omega) (by omega)
          obtain ⟨j, hj, hn, hid'⟩ := key (ops.toList.take m).length (Nat.le_refl _) (by rw [hX]; simp; omega)
          exact ⟨j, hj, hL j, hn, hid'⟩
end
end Go.Proofs.Ytfpbdphdahfgbaa.Fw
