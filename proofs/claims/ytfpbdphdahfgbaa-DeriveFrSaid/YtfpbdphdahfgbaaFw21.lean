/- A statement whose order is open: one operation, whenever it comes up. -/
import Derived.Test.YtfpbdphdahfgbaaFw20
namespace Go.Proofs.Ytfpbdphdahfgbaa.Fw
open Go Go.RowKit

/-- What must hold of the text (checked by 'drawOk'). -/
structure Fits (ops : Array Oper) (pre : List Oper) : Prop where
  at_ : ∀ (i : Nat) o, pre[i]? = some o → ops[i]? = some o
  looks : ∀ (i j : Nat) o p d, pre[j]? = some o → pre[i]? = some p → p.dst = some d → d ∈ looksOf ops o → i ∈ edgesOf o
  uniq : ∀ (i j : Nat) o p d, pre[j]? = some o → pre[i]? = some p → p.dst = some d → i ≠ j → o.dst ≠ some d
  back : ∀ (i : Nat) o, pre[i]? = some o → ∀ x ∈ edgesOf o, x < i

/-- The state behind the operations of 'L'. -/
structure InS (P : Program) (ops : Array Oper) (pre : List Oper) (en : Nat → List AV) (hp : Nat → List Blk) (rr : Nat → Option Res) (E : Entry) (L : Nat → Bool) (σ : Ctx) (w : World) (e : List AV) (H : List Blk) (a : Act) : Prop where
  st : St E σ w H e a
  old : ∀ t, (∃ (j : Nat) (o : Oper), pre[j]? = some o ∧ o.dst = some t ∧ L j = false) → e[t]? = (en 0)[t]?
  new : ∀ t, ¬ (∃ (j : Nat) (o : Oper), pre[j]? = some o ∧ o.dst = some t ∧ L j = false) → e[t]? = (en pre.length)[t]?
  hlen : H.length = (hp pre.length).length
  hold : ∀ id, (∃ j, j < pre.length ∧ L j = false ∧ Res.new (rr j) = true ∧ (hp j).length = id) → H[id]? = some .dead
  hnew : ∀ id, ¬ (∃ j, j < pre.length ∧ L j = false ∧ Res.new (rr j) = true ∧ (hp j).length = id) → H[id]? = (hp pre.length)[id]?

section
variable {P : Program} {ops : Array Oper} {pre : List Oper} {en : Nat → List AV} {hp : Nat → List Blk} {rr : Nat → Option Res}
variable (hs : ∀ i o, pre[i]? = some o → StepAt P ops o (en i) (hp i) (rr i) (en (i + 1)) (hp (i + 1))) (hf : Fits ops pre)
include hs hf

/-- What an operation looks at is there when it comes up. -/
theorem looks_ok {E : Entry} {L : Nat → Bool} {σ : Ctx} {w : World} {e : List AV} {H : List Blk} {a : Act} (s : InS P ops pre en hp rr E L σ w e H a) {j : Nat} {o : Oper} (hj : pre[j]? = some o) (hr : ∀ x ∈ edgesOf o, L x = true) {d : Nat} (hd : d ∈ looksOf ops o) :
    e[d]? = (en j)[d]? := by
  have hjl := (List.getElem?_eq_some_iff.1 hj).1
  have h1 : ¬ (∃ (i : Nat) (p : Oper), pre[i]? = some p ∧ p.dst = some d ∧ L i = false) := fun ⟨i, p, hi, hp', hL⟩ => by
    have := hr i (hf.looks i j o p d hj hi hp' hd)
    rw [this] at hL
    cases hL
  rw [s.new d h1]
  have := en_keep hs (t := d) (pre.length - j) j (by omega) (fun i p h2 _ h3 h4 => by
    have h5 := hf.looks i j o p d hj h3 h4 hd
    have := hf.back j o hj i h5
    omega)
  rw [← this]
  congr 2
  omega

theorem new_uniq {i j : Nat} (hi : i < pre.length) (hj : j < pre.length) (h1 : Res.new (rr i) = true) (h2 : Res.new (rr j) = true) (he : (hp i).length = (hp j).length) : i = j := by
  have _ := hf
  have key : ∀ i j, i < j → j < pre.length → Res.new (rr i) = true → (hp i).length < (hp j).length := fun i j hij hj h1 => by
    rcases step_heap (hs i _ (List.getElem?_eq_getElem (by omega))) with ⟨h, _⟩ | ⟨r', _, _, h, _⟩
    · rw [h1] at h; cases h
    · obtain ⟨X, hX⟩ := hp_pre hs (j - (i + 1)) (i + 1) (by omega)
      rw [show i + 1 + (j - (i + 1)) = j from by omega, h] at hX
      rw [hX]
      simp
  rcases Nat.lt_trichotomy i j with h | h | h
  · have := key i j h hj h1; omega
  · exact h
  · have := key j i h hi h2; omega

theorem op_any {E : Entry} {L : Nat → Bool} {σ : Ctx} {w : World} {e : List AV} {H : List Blk} {a : Act} (s : InS P ops pre en hp rr E L σ w e H a) {j : Nat} {o : Oper} (hj : pre[j]? = some o) (hL : L j = false) (hr : ∀ x ∈ edgesOf o, L x = true)
    {K : Act → World → Prop} {Q : Exit → Act → World → Prop} (hK : ∀ σ' w' e' H' a', InS P ops pre en hp rr E (fun i => L i || i == j) σ' w' e' H' a' → K a' w') : wpOp P ops Q j K a w := by
  have hjl := (List.getElem?_eq_some_iff.1 hj).1
  have hstep := hs j o hj
  obtain ⟨v, hv, hvr⟩ := step_env hstep
  have hlook := fun {d : Nat} (hd : d ∈ looksOf ops o) => looks_ok hs hf s hj hr hd
  have helen : e.length = (en pre.length).length := by
    have h1 : ∀ t : Nat, e[t]? = none ↔ (en pre.length)[t]? = none := fun t => by
      by_cases hx : ∃ (j : Nat) (o : Oper), pre[j]? = some o ∧ o.dst = some t ∧ L j = false
      · rw [s.old t hx, List.getElem?_eq_none_iff, List.getElem?_eq_none_iff, en_len hs pre.length (Nat.le_refl _)]
      · rw [s.new t hx]
    have a1 := (h1 e.length).1 (List.getElem?_eq_none (Nat.le_refl _))
    have a2 := (h1 (en pre.length).length).2 (List.getElem?_eq_none (Nat.le_refl _))
    rw [List.getElem?_eq_none_iff] at a1 a2
    omega
  -- the slots behind it
  have henv : ∀ t, (¬ (∃ (i : Nat) (p : Oper), pre[i]? = some p ∧ p.dst = some t ∧ (L i || i == j) = false) → (eput e o.dst v)[t]? = (en pre.length)[t]?) ∧ ((∃ (i : Nat) (p : Oper), pre[i]? = some p ∧ p.dst = some t ∧ (L i || i == j) = false) → (eput e o.dst v)[t]? = (en 0)[t]?) := fun t => by
    by_cases hd : o.dst = some t
    · refine ⟨fun _ => ?_, fun ⟨i, p, hi, hpd, hLi⟩ => ?_⟩
      · have h1 : (en (j + 1))[t]? = (en pre.length)[t]? := by
          have := en_keep hs (t := t) (pre.length - (j + 1)) (j + 1) (by omega) (fun i p h2 _ h3 => hf.uniq j i p o t h3 hj hd (by omega))
          rw [← this]
          congr 2
          omega
        rw [← h1, hv, hd]
        simp only [eput, List.getElem?_set, if_true]
        rw [en_len hs j (by omega), ← en_len hs pre.length (Nat.le_refl _), helen]
      · have hij : i ≠ j := by rintro rfl; simp at hLi
        exact absurd hd (hf.uniq i j o p t hj hi hpd hij)
    · rw [eput_get hd]
      have hiff : (∃ (i : Nat) (p : Oper), pre[i]? = some p ∧ p.dst = some t ∧ (L i || i == j) = false) ↔ (∃ (i : Nat) (p : Oper), pre[i]? = some p ∧ p.dst = some t ∧ L i = false) := by
        constructor
        · rintro ⟨i, p, h1, h2, h3⟩
          exact ⟨i, p, h1, h2, by simp at h3; exact h3.1⟩
        · rintro ⟨i, p, h1, h2, h3⟩
          have hij : i ≠ j := by rintro rfl; rw [hj] at h1; injection h1 with h1; subst h1; exact hd h2
          exact ⟨i, p, h1, h2, by simp [h3, hij]⟩
      rw [hiff]
      exact ⟨s.new t, s.old t⟩
  unfold wpOp
  simp only [hf.at_ j o hj]
  cases hrr : rr j with
  | none =>
    rw [hrr] at hstep hvr
    obtain ⟨⟨g, want, d, hg, hd, he⟩, _, _⟩ := hstep
    have hld : d ∈ looksOf ops o := by simp [looksOf, hg, hd]
    rw [← hlook hld] at he
    have hnot : ¬ Region.wanted o (yielded ops a.tmps) = true := by
      rcases he with he | he
      · have hy := yielded_ok s.st hd he
        simp [Region.wanted, hg, hy]
      · have hy := yielded_und s.st hd he
        simp [Region.wanted, hg, hy]
    rw [if_neg hnot]
    subst hvr
    refine hK σ w _ H _ ⟨s.st.put o.dst (.pv (.val undef)), fun t h => (henv t).2 h, fun t h => (henv t).1 h, s.hlen, fun id ⟨i, h1, h2, h3, h4⟩ => s.hold id ⟨i, h1, by simp at h2; exact h2.1, h3, h4⟩, fun id h => s.hnew id fun ⟨i, h1, h2, h3, h4⟩ => h ⟨i, h1, ?_, h3, h4⟩⟩
    have hij : i ≠ j := by rintro rfl; rw [hrr] at h3; cases h3
    simp [h2, hij]
  | some r =>
    rw [hrr] at hstep hvr
    obtain ⟨hguard, hq, _, _⟩ := hstep
    have hwant : Region.wanted o (yielded ops a.tmps) = true := by
      rcases hguard with h | ⟨g, want, d, hg, hd, he⟩
      · simp [Region.wanted, h]
      · have hld : d ∈ looksOf ops o := by simp [looksOf, hg, hd]
        rw [← hlook hld] at he
        have hy := yielded_ok s.st hd he
        simp [Region.wanted, hg, hy]
    rw [if_pos hwant]
    refine .inl ?_
    have hq' : QR P o (ev e) (hp j) r := qr_congr (fun x hx => by
      cases x with
      | tmp t =>
        have ht : t ∈ looksOf ops o := by
          refine List.mem_append_left _ (List.mem_filterMap.2 ⟨.tmp t, by simpa using hx, rfl⟩)
        simp only [ev, List.getD_eq_getElem?_getD, hlook ht]
      | _ => rfl) hq
    have hprefix : ∀ id b, (hp j)[id]? = some b → (hp pre.length)[id]? = some b := fun id b hb => by
      obtain ⟨X, hX⟩ := hp_pre hs (pre.length - j) j (by omega)
      rw [show j + (pre.length - j) = pre.length from by omega] at hX
      rw [hX, List.getElem?_append_left (List.getElem?_eq_some_iff.1 hb).1]
      exact hb
    have hrefs : Refs w σ (hp j) := fun id b hb => by
      by_cases hx : ∃ i, i < pre.length ∧ L i = false ∧ Res.new (rr i) = true ∧ (hp i).length = id
      · exact .inr (s.st.heap.ok id _ (s.hold id hx))
      · have := s.hnew id hx
        rw [hprefix id b hb] at this
        exact .inl (s.st.heap.ok id _ this)
    refine qr_sound hq' (fun x => rep_ev s.st.env.2 x) hrefs ⟨s.st.heap.base, s.st.heap.lt⟩ K Q fun u w' hb hres => ?_
    subst hvr
    rcases step_heap (hs j o hj) with ⟨hn, _⟩ | ⟨r', hr', hn, hH, _⟩
    · -- a value
      rw [hrr] at hn
      cases r with
      | val v' =>
        obtain ⟨G, hG, hrep⟩ := hres
        refine hK (σ.more G) w' _ H _ ⟨(s.st.grow hb G hG).put o.dst hrep, fun t h => (henv t).2 h, fun t h => (henv t).1 h, s.hlen, fun id ⟨i, h1, h2, h3, h4⟩ => s.hold id ⟨i, h1, by simp at h2; exact h2.1, h3, h4⟩, fun id h => s.hnew id fun ⟨i, h1, h2, h3, h4⟩ => h ⟨i, h1, ?_, h3, h4⟩⟩
        have hij : i ≠ j := by rintro rfl; rw [hrr] at h3; cases h3
        simp [h2, hij]
      | row e' sz es => cases hn
      | box t cs => cases hn
    · rw [hrr] at hr'
      injection hr' with hr'
      subst hr'
      have hdead := s.hold (hp j).length ⟨j, hjl, hL, by rw [hn], rfl⟩
      obtain ⟨σ', h1, h2, h3, _⟩ := place_ok s.st.heap hdead hb hres
      have hat : (hp pre.length)[(hp j).length]? = some r.blk := by
        obtain ⟨X, hX⟩ := hp_pre hs (pre.length - (j + 1)) (j + 1) (by omega)
        rw [show j + 1 + (pre.length - (j + 1)) = pre.length from by omega, hH] at hX
        rw [hX]
        simp
      have hlt : (hp j).length < H.length := (List.getElem?_eq_some_iff.1 hdead).1
      refine hK σ' w' _ (H.set (hp j).length r.blk) _ ⟨(s.st.next h2 h1).put o.dst h3, fun t h => (henv t).2 h, fun t h => (henv t).1 h, by simp [s.hlen], fun id ⟨i, g1, g2, g3, g4⟩ => ?_, fun id h => ?_⟩
      · have hij : i ≠ j := by rintro rfl; simp at g2
        have hne : (hp j).length ≠ id := fun he => hij (new_uniq hs hf g1 hjl g3 (by rw [hn]) (by rw [g4, he]))
        rw [List.getElem?_set, if_neg hne]
        exact s.hold id ⟨i, g1, by simp at g2; exact g2.1, g3, g4⟩
      · rw [List.getElem?_set]
        by_cases he : (hp j).length = id
        · subst he
          simp only [if_true]
          rw [if_pos hlt, hat]
        · rw [if_neg he]
          refine s.hnew id fun ⟨i, g1, g2, g3, g4⟩ => h ⟨i, g1, ?_, g3, g4⟩
          have hij : i ≠ j := by rintro rfl; exact he g4
          simp [g2, hij]
end
end Go.Proofs.Ytfpbdphdahfgbaa.Fw
