/- A statement whose order is open: every order. -/
import Derived.Test.YtfpbdphdahfgbaaFw21
namespace Go.Proofs.Ytfpbdphdahfgbaa.Fw
open Go Go.RowKit

section
variable {P : Program} {ops : Array Oper}

theorem aOps_step {all : Array Oper} {o : Oper} {rest : List Oper} {e : List AV} {H : List Blk} {K : List AV → List Blk → Prop} {E : Entry} {σ : Ctx} {w : World} {a : Act} (h : aOps P all 0 (o :: rest) e H K) (s : St E σ w H e a)
    (N : Act → World → Prop) (Q : Exit → Act → World → Prop) (hN : ∀ e' H' σ' w' a', aOps P all 0 rest e' H' K → St E σ' w' H' e' a' → N a' w') :
    if Region.wanted o (yielded all a.tmps) then o.wp P a w N Q else N (a.put o.dst undef) w := by
  have go : aOp P o e H (fun v H' => aOps P all (0 - 1) rest (eput e o.dst v) H' K) → o.wp P a w N Q := fun h => aOp_sound h s N Q fun v H' w' σ' u hv hs => hN _ _ σ' w' _ hv hs
  unfold aOps at h
  simp only [Nat.lt_irrefl, if_false] at h
  cases hg : o.guard with
  | none =>
    simp only [hg] at h
    rw [if_pos (by simp [Region.wanted, hg])]
    exact go h
  | some gw =>
    obtain ⟨g, want⟩ := gw
    simp only [hg] at h
    cases hd : (all[g]?).bind (·.dst) with
    | none => simp only [hd] at h
    | some d =>
      simp only [hd] at h
      rcases h with ⟨b, he, h1, h2⟩ | ⟨he, h2⟩
      rotate_left
      · have hy := yielded_und s hd he
        rw [if_neg (by simp [Region.wanted, hg, hy])]
        exact hN _ _ σ w _ h2 (s.put o.dst (.pv (.val undef)))
      have hy := yielded_ok s hd he
      by_cases hb : b = want
      · subst hb
        have h3 := h1 rfl
        rw [env_set_same he] at h3
        rw [if_pos (by simp [Region.wanted, hg, hy])]
        exact go h3
      · have hb' : b = !want := by cases b <;> cases want <;> simp_all
        subst hb'
        have h3 := h2 rfl
        rw [env_set_same he] at h3
        rw [if_neg (by simp [Region.wanted, hg, hy])]
        exact hN _ _ σ w _ h3 (s.put o.dst (.pv (.val undef)))

theorem fold_bit (g : Nat → Nat) (j : Nat) : ∀ (l : List Nat) (s : Nat), (l.foldl (fun s i => s ||| (1 <<< i) ||| g i) s).testBit j = true → s.testBit j = true ∨ ∃ i ∈ l, j = i ∨ (g i).testBit j = true := by
  intro l
  induction l with
  | nil => intro s h; exact .inl h
  | cons x l ih =>
    intro s h
    simp only [List.foldl_cons] at h
    rcases ih _ h with h | ⟨i, hi, h⟩
    · simp only [Nat.testBit_or, Bool.or_eq_true, Nat.one_shiftLeft, Nat.testBit_two_pow] at h
      rcases h with (h | h) | h
      · exact .inl h
      · exact .inr ⟨x, by simp, .inl ((by simpa using h : x = j).symm)⟩
      · exact .inr ⟨x, by simp, .inr h⟩
    · exact .inr ⟨i, by simp [hi], h⟩

theorem masks_ok {L : Nat → Bool} : ∀ (l pre : List Oper) (acc : List Nat), acc.length = pre.length → (∀ (i : Nat) o, (pre ++ l)[i]? = some o → ∀ x ∈ edgesOf o, x < i) → (∀ (k : Nat) o, (pre ++ l)[k]? = some o → L k = true → ∀ x ∈ edgesOf o, L x = true) →
    (∀ (i : Nat) o, i < acc.length → (pre ++ l)[i]? = some o → (∀ x ∈ edgesOf o, L x = true) → ∀ j, (acc.getD i 0).testBit j = true → L j = true) →
    ∀ (i : Nat) o, (pre ++ l)[i]? = some o → (∀ x ∈ edgesOf o, L x = true) → ∀ j, ((masks l acc).getD i 0).testBit j = true → L j = true := by
  intro l
  induction l with
  | nil =>
    intro pre acc hlen hb hc hacc i o hi he j hj
    simp only [masks] at hj
    refine hacc i o ?_ hi he j hj
    have := (List.getElem?_eq_some_iff.1 hi).1
    simp at this
    omega
  | cons p l ih =>
    intro pre acc hlen hb hc hacc i o hi he j hj
    have e1 : pre ++ p :: l = (pre ++ [p]) ++ l := by simp
    rw [e1] at hb hc hacc hi
    refine ih (pre ++ [p]) (acc ++ [maskOf p acc]) (by simp [hlen]) hb hc (fun i o hlt hi he j hj => ?_) i o hi he j hj
    by_cases h : i < acc.length
    · have e2 : (acc ++ [maskOf p acc]).getD i 0 = acc.getD i 0 := by simp [List.getD_eq_getElem?_getD, List.getElem?_append_left h]
      rw [e2] at hj
      exact hacc i o h hi he j hj
    · have hia : i = acc.length := by simp at hlt; omega
      subst hia
      have e2 : (acc ++ [maskOf p acc]).getD acc.length 0 = maskOf p acc := by simp [List.getD_eq_getElem?_getD]
      rw [e2] at hj
      have hpo : o = p := by
        rw [hlen] at hi
        simp at hi
        exact hi.symm
      subst hpo
      rcases fold_bit (fun i => acc.getD i 0) j (edgesOf o) 0 hj with h0 | ⟨x, hx, h0 | h0⟩
      · simp at h0
      · subst h0; exact he j hx
      · have hxl := hb _ o hi x hx
        have hxo : ((pre ++ [o]) ++ l)[x]? = some (((pre ++ [o]) ++ l)[x]'(by simp; omega)) := List.getElem?_eq_getElem _
        exact hacc x _ hxl hxo (hc x _ hxo (he x hx)) j h0

structure DrawFits (ops : Array Oper) (m : Nat) : Prop where
  le : m ≤ ops.toList.length
  fits : Fits ops (ops.toList.take m)
  back : ∀ (i : Nat) o, ops.toList[i]? = some o → ∀ x ∈ edgesOf o, x < i
  all : ∀ (L : Nat → Bool) (i : Nat) o, m ≤ i → ops.toList[i]? = some o → (∀ (k : Nat) p, ops.toList[k]? = some p → L k = true → ∀ x ∈ edgesOf p, L x = true) → (∀ x ∈ edgesOf o, L x = true) → ∀ j, j < i → L j = true

theorem drawOk_fits {m : Nat} (h : drawOk ops m = true) : DrawFits ops m := by
  simp only [drawOk, Bool.and_eq_true, decide_eq_true_eq] at h
  obtain ⟨⟨h1, h2⟩, h3⟩ := h
  have hz : ∀ (l : List Oper) (i : Nat) o, l[i]? = some o → (o, i) ∈ l.zipIdx := fun l i o hi => by
    rw [List.mem_iff_getElem?]
    refine ⟨i, ?_⟩
    rw [List.getElem?_zipIdx, hi]
    simp
  have hb : ∀ (i : Nat) o, ops.toList[i]? = some o → ∀ x ∈ edgesOf o, x < i := fun i o hi x hx => by
    have := List.all_eq_true.1 h2 (o, i) (hz _ i o hi)
    simp only [Bool.and_eq_true, List.all_eq_true, decide_eq_true_eq] at this
    exact this.1 x hx
  have htk : ∀ (i : Nat) o, (ops.toList.take m)[i]? = some o → ops.toList[i]? = some o := fun i o hi => by
    rw [List.getElem?_take] at hi
    split at hi
    · exact hi
    · cases hi
  have hpair : ∀ (i j : Nat) o p d, (ops.toList.take m)[j]? = some o → (ops.toList.take m)[i]? = some p → p.dst = some d → ((looksOf ops o).contains d = true → (edgesOf o).contains i = true) ∧ (i ≠ j → o.dst ≠ some d) := fun i j o p d hj hi hd => by
    have h4 := List.all_eq_true.1 h3 (o, j) (hz _ j o hj)
    have h5 := List.all_eq_true.1 h4 (p, i) (hz _ i p hi)
    simp only [hd, Bool.and_eq_true, Bool.or_eq_true, Bool.not_eq_true', beq_iff_eq, bne_iff_ne] at h5
    refine ⟨fun hc => ?_, fun hne => ?_⟩
    · rcases h5.1 with h6 | h6
      · rw [hc] at h6; cases h6
      · exact h6
    · rcases h5.2 with h6 | h6
      · exact absurd h6 hne
      · exact h6
  refine ⟨h1, ⟨fun i o hi => by simpa using htk i o hi, fun i j o p d hj hi hd hl => ?_, fun i j o p d hj hi hd hne => (hpair i j o p d hj hi hd).2 hne, fun i o hi => hb i o (htk i o hi)⟩, hb, fun L i o hmi hi hc he j hj => ?_⟩
  · have := (hpair i j o p d hj hi hd).1 (by simpa using hl)
    simpa using this
  · have h4 := List.all_eq_true.1 h2 (o, i) (hz _ i o hi)
    simp only [Bool.and_eq_true, Bool.or_eq_true, decide_eq_true_eq, beq_iff_eq] at h4
    rcases h4.2 with h5 | h5
    · omega
    · have hm := masks_ok (L := L) ops.toList [] [] rfl (by simpa using hb) (by simpa using hc) (fun i o h => by simp at h) i o (by simpa using hi) he j
      rw [h5] at hm
      exact hm (by rw [Nat.testBit_two_pow_sub_one]; simpa using hj)

theorem draw_rest {m : Nat} (hf : DrawFits ops m) {K : List AV → List Blk → Prop} {E : Entry} {Q : Exit → Act → World → Prop} (hQ : ∀ e H σ w a, K e H → St E σ w H e a → Q .normal a w) :
    ∀ (fuel i : Nat) (listed : Array Bool) (e : List AV) (H : List Blk) (σ : Ctx) (w : World) (a : Act), listed.size = ops.size → (∀ j, listed.getD j false = decide (j < i)) → m ≤ i → i ≤ ops.size → ops.size ≤ i + fuel →
      aOps P ops 0 (ops.toList.drop i) e H K → St E σ w H e a → wpAny P .any ops Q fuel listed a w := by
  intro fuel
  induction fuel with
  | zero =>
    intro i listed e H σ w a hsz hL hm hi hfu h s
    have hi' : i = ops.size := by omega
    have hrest : ops.toList.drop i = [] := by rw [hi']; simp
    rw [hrest] at h
    refine ⟨List.eq_nil_iff_forall_not_mem.2 fun j hj => ?_, hQ e H σ w a h s⟩
    obtain ⟨h1, o, ho, _⟩ := mem_ready.1 hj
    have hjl := (Array.getElem?_eq_some_iff.1 ho).1
    have h2 := hL j
    have h3 : listed.getD j true = listed.getD j false := by simp [Array.getD, hsz, hjl]
    rw [h3, h2] at h1
    simp at h1
    omega
  | succ fuel ih =>
    intro i listed e H σ w a hsz hL hm hi hfu h s
    have ready : ∀ j ∈ Region.ready .any ops listed, j = i ∧ i < ops.size := fun j hj => by
      obtain ⟨h1, o, ho, hedge⟩ := mem_ready.1 hj
      have hjl := (Array.getElem?_eq_some_iff.1 ho).1
      have h3 : listed.getD j true = listed.getD j false := by simp [Array.getD, hsz, hjl]
      rw [h3, hL j] at h1
      have hij : i ≤ j := by simpa using h1
      have hol : ops.toList[j]? = some o := by simpa using ho
      have he : ∀ x ∈ edgesOf o, listed.getD x false = true := fun x hx => by
        simp only [edgesOf, List.mem_map, List.mem_filter] at hx
        obtain ⟨ed, ⟨hm1, hm2⟩, rfl⟩ := hx
        exact hedge ed (by simpa using hm1) hm2
      have hall := hf.all (fun x => listed.getD x false) j o (by omega) hol (fun k p hk hLk x hx => by
        have hxk := hf.back k p hk x hx
        have : k < i := by rw [hL k] at hLk; simpa using hLk
        rw [hL x]
        simp
        omega) he
      rcases Nat.lt_or_ge i j with h4 | h4
      · have := hall i h4
        rw [hL i] at this
        simp at this
      · exact ⟨by omega, by omega⟩
    refine ⟨fun hr => ?_, fun j hj => ?_⟩
    · rcases Nat.lt_or_ge i ops.size with h4 | h4
      · have : i ∈ Region.ready .any ops listed := by
          refine mem_ready.2 ⟨by simp [Array.getD, hsz, h4]; have := hL i; simpa [Array.getD, hsz, h4] using this, ops[i], by simp [h4], fun ed hed hb => ?_⟩
          have hx := hf.back i ops[i] (by simp [h4]) ed.on (by simp only [edgesOf, List.mem_map, List.mem_filter]; exact ⟨ed, ⟨by simpa using hed, hb⟩, rfl⟩)
          rw [hL]
          simpa using hx
        rw [hr] at this
        simp at this
      · have hrest : ops.toList.drop i = [] := by apply List.drop_eq_nil_of_le; simpa using h4
        rw [hrest] at h
        exact hQ e H σ w a h s
    · obtain ⟨rfl, hlt⟩ := ready j hj
      have hoj : ops[j]? = some ops[j] := by simp [hlt]
      have hdrop : ops.toList.drop j = ops[j] :: ops.toList.drop (j + 1) := by
        rw [List.drop_eq_getElem_cons (by simpa using hlt)]
        simp
      rw [hdrop] at h
      have hstep := aOps_step h s (wpAny P .any ops Q fuel (listed.setIfInBounds j true)) Q fun e' H' σ' w' a' h' s' => ih (j + 1) _ e' H' σ' w' a' (by simp [hsz]) (fun k => by
        by_cases hk : j = k
        · subst hk
          simp [Array.getD, hsz, hlt]
        · have e1 : (listed.setIfInBounds j true).getD k false = listed.getD k false := getD_set_ne false hk
          rw [e1, hL k]
          simp
          omega) (by omega) (by omega) (by omega) h' s'
      unfold wpOp
      simp only [hoj]
      split
      · rename_i hw
        rw [if_pos hw] at hstep
        exact .inl hstep
      · rename_i hw
        rw [if_neg hw] at hstep
        exact hstep
end
end Go.Proofs.Ytfpbdphdahfgbaa.Fw
