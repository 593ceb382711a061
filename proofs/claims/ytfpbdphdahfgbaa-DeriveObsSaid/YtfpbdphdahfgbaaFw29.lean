/- What comes in, as plain data: any value of integers, truth values, slices and structs. -/
import Derived.Test.YtfpbdphdahfgbaaFw28
import Derived.Deep.Slices
import Derived.ChangeSame
import Derived.ChangeOld
namespace Go.Proofs.Ytfpbdphdahfgbaa.Fw
open Go Go.RowKit

/-- Cells that are what plain data says. -/
def RepL (w : World) (F : Nat → Prop) (ps : List PV) (cs : List Value) : Prop := ps.length = cs.length ∧ ∀ (i : Nat) p v, ps[i]? = some p → cs[i]? = some v → RepP w F p v ∧ v.oneCell' = true

/-- Fields, one behind the other. -/
def tiles (P : Program) : Nat → Nat → List Field → Bool
  | o, n, [] => o == n
  | o, n, f :: l => f.offset == o && tiles P (o + P.cellsOf f.type) n l

/-- Types of integers, truth values, slices and structs alone. -/
def simpleT (P : Program) : Nat → TypeId → Bool
  | 0, _ => false
  | n + 1, t => match P.underlying t with
    | some .bool | some (.int _) => true
    | some (.slice e) => decide (0 < P.cellsOf e) && simpleT P n e
    | some (.struct fs) => tiles P 0 (P.cellsOf t) fs.toList && fs.toList.all fun f => simpleT P n f.type
    | _ => false

def ShapedT (P : Program) : Nat → TypeId → List PV → Prop
  | 0, _, _ => False
  | n + 1, t, ps => match P.underlying t with
    | some .bool => ∃ b, ps = [.val (.bool b)]
    | some (.int k) => ∃ x, ps = [.val (.int k x)] ∧ (Lit.int k x).wf = true
    | some (.slice e) => ∃ es, ps = [.imm es] ∧ es.length ≤ maxLen ∧ ∀ x ∈ es, ShapedT P n e x
    | some (.struct fs) => ps.length = P.cellsOf t ∧ ∀ f ∈ fs.toList, ShapedT P n f.type ((ps.drop f.offset).take (P.cellsOf f.type))
    | _ => False

theorem flat_index {α : Type} {sz : Nat} : ∀ {es : List (List α)}, (∀ e ∈ es, e.length = sz) → ∀ {k : Nat} {p : α}, es.flatten[k]? = some p → ∃ i j l, k = i * sz + j ∧ es[i]? = some l ∧ l[j]? = some p
  | [], _, k, p, h => by simp at h
  | e :: es, hs, k, p, h => by
    have he := hs e (by simp)
    rw [List.flatten_cons, List.getElem?_append] at h
    split at h
    · exact ⟨0, k, e, by simp, rfl, h⟩
    · rename_i hk
      obtain ⟨i, j, l, h1, h2, h3⟩ := flat_index (fun x hx => hs x (by simp [hx])) h
      exact ⟨i + 1, j, l, by rw [Nat.succ_mul]; omega, h2, h3⟩

theorem fields_fit {w : World} {F : Nat → Prop} {P : Program} {n : Nat} {cs : List Value} : ∀ (fs : List Field) (o m : Nat), tiles P o m fs = true → m ≤ cs.length → (∀ f ∈ fs, ∃ ps, RepL w F ps ((cs.drop f.offset).take (P.cellsOf f.type)) ∧ ShapedT P n f.type ps) →
    o ≤ m ∧ ∃ ps, RepL w F ps ((cs.drop o).take (m - o)) ∧ ∀ f ∈ fs, o ≤ f.offset ∧ ShapedT P n f.type ((ps.drop (f.offset - o)).take (P.cellsOf f.type))
  | [], o, m, h, hm, _ => by
    simp only [tiles, beq_iff_eq] at h
    subst h
    exact ⟨Nat.le_refl _, [], ⟨by simp, fun i p v h => by simp at h⟩, fun f h => by simp at h⟩
  | f :: fs, o, m, h, hm, hf => by
    simp only [tiles, Bool.and_eq_true, beq_iff_eq] at h
    obtain ⟨h1, h2⟩ := h
    obtain ⟨ps1, h3, h4⟩ := hf f (by simp)
    obtain ⟨h5, ps2, h6, h7⟩ := fields_fit fs (o + P.cellsOf f.type) m h2 hm fun g hg => hf g (by simp [hg])
    have hl1 : ps1.length = P.cellsOf f.type := by
      have := h3.1
      rw [List.length_take, List.length_drop, h1] at this
      omega
    refine ⟨by omega, ps1 ++ ps2, ⟨?_, fun i p v hp hv => ?_⟩, fun g hg => ?_⟩
    · have := h6.1
      rw [List.length_take, List.length_drop] at this
      rw [List.length_append, hl1, this, List.length_take, List.length_drop]
      omega
    · rw [List.getElem?_append] at hp
      rw [List.getElem?_take] at hv
      split at hv
      · rw [List.getElem?_drop] at hv
        split at hp
        · rename_i hi
          exact h3.2 i p v hp (by rw [List.getElem?_take, if_pos (by omega), List.getElem?_drop, h1]; exact hv)
        · rename_i hi
          exact h6.2 (i - ps1.length) p v hp (by rw [List.getElem?_take, if_pos (by omega), List.getElem?_drop, hl1]; rw [show o + P.cellsOf f.type + (i - P.cellsOf f.type) = o + i from by omega]; exact hv)
      · cases hv
    · rcases List.mem_cons.1 hg with rfl | hg
      · refine ⟨by omega, ?_⟩
        rw [h1, Nat.sub_self, List.drop_zero, ← hl1, List.take_left]
        exact h4
      · obtain ⟨h8, h9⟩ := h7 g hg
        refine ⟨by omega, ?_⟩
        rw [show g.offset - o = ps1.length + (g.offset - (o + P.cellsOf f.type)) from by omega, ← List.drop_drop, List.drop_left]
        exact h9

theorem trod_shape {H : Type} {enc : TypeId × Value → H} {P : Program} {w : World} {base : Nat} {spare : Nat → Bool} {held : Bool} : ∀ (n : Nat) (t : TypeId) (fuel : Nat) (cs : List Value) (x : DataW H × List MemPlace), simpleT P n t = true → DataW.trod enc P w base spare held fuel t cs = some x →
    ∃ ps, RepL w (fun b => b < w.heap.size) ps cs ∧ ShapedT P n t ps
  | 0, _, _, _, _, h, _ => by simp [simpleT] at h
  | n + 1, t, 0, cs, x, _, h => by simp [DataW.trod] at h
  | n + 1, t, fuel + 1, cs, x, hs, h => by
    cases ht : P.underlying t with
    | none => simp [simpleT, ht] at hs
    | some d =>
      have one : ∀ {p : PV} {v : Value}, RepP w (fun b => b < w.heap.size) p v → v.oneCell' = true → RepL w (fun b => b < w.heap.size) [p] [v] := fun {p v} h1 h2 => ⟨rfl, fun i q u hq hu => by
        match i with
        | 0 => simp at hq hu; subst hq; subst hu; exact ⟨h1, h2⟩
        | i + 1 => simp at hq⟩
      cases d with
      | bool =>
        unfold DataW.trod at h
        rw [ht] at h
        split at h <;> simp_all
        rename_i b
        exact ⟨[.val (.bool b)], one (.val _) rfl, by simp [ShapedT, ht]⟩
      | int k =>
        unfold DataW.trod at h
        rw [ht] at h
        split at h <;> simp_all
        rename_i k' y _
        obtain ⟨⟨rfl, h2⟩, _⟩ := h
        exact ⟨[.val (.int k' y)], one (.val _) rfl, by simp [ShapedT, ht, h2]⟩
      | slice e =>
        have hse : 0 < P.cellsOf e ∧ simpleT P n e = true := by simpa [simpleT, ht] using hs
        obtain ⟨hz, hse⟩ := hse
        rcases Deep.open_slice ht h with ⟨rfl, _⟩ | ⟨a, len, cap, m, n', D, Pl, rfl, _, hl, hm, hmm, _, hel⟩
        · exact ⟨[.imm []], one (repP_imm.2 ⟨none, 0, 0, rfl, by simp, by simp, by simp, fun h => absurd h (by simp)⟩) rfl, by simp [ShapedT, ht]⟩
        · have hle : len ≤ m := by rw [hmm]; split <;> omega
          obtain ⟨es, h1, h2⟩ : ∃ es : List (List PV), es.length = len ∧ ∀ i, i < len → ∃ l cs', es[i]? = some l ∧ w.cells? base (a.add (i * P.cellsOf e)) (P.cellsOf e) = some cs' ∧ RepL w (fun b => b < w.heap.size) l cs' ∧ ShapedT P n e l := by
            have key : ∀ j, j ≤ len → ∃ es : List (List PV), es.length = j ∧ ∀ i, i < j → ∃ l cs', es[i]? = some l ∧ w.cells? base (a.add (i * P.cellsOf e)) (P.cellsOf e) = some cs' ∧ RepL w (fun b => b < w.heap.size) l cs' ∧ ShapedT P n e l := by
              intro j
              induction j with
              | zero => exact fun _ => ⟨[], rfl, fun i hi => by omega⟩
              | succ j ih =>
                intro hj
                obtain ⟨es, h1, h2⟩ := ih (by omega)
                obtain ⟨cs', h3, h4⟩ := hel j (by omega)
                obtain ⟨l, h5, h6⟩ := trod_shape n e n' cs' _ hse h4
                refine ⟨es ++ [l], by simp [h1], fun i hi => ?_⟩
                by_cases hij : i < j
                · obtain ⟨l', cs'', a1, a2⟩ := h2 i hij
                  exact ⟨l', cs'', by rw [List.getElem?_append_left (by omega)]; exact a1, a2⟩
                · have : i = j := by omega
                  subst this
                  exact ⟨l, cs', by rw [List.getElem?_append_right (by omega), h1]; simp, h3, h5, h6⟩
            exact key len (Nat.le_refl _)
          have hsz : ∀ l ∈ es, l.length = P.cellsOf e := fun l hl => by
            obtain ⟨i, hi, e1⟩ := List.getElem_of_mem hl
            obtain ⟨l', cs', a1, a2, a3, _⟩ := h2 i (by omega)
            rw [List.getElem?_eq_getElem hi, e1] at a1
            injection a1 with a1
            subst a1
            rw [a3.1, (World.cells?_some a2).2.1]
          refine ⟨[.imm es], one (repP_imm.2 ⟨some a, cap, P.cellsOf e, by rw [h1], by omega, hm, hsz, fun hp => ?_⟩) rfl, ?_⟩
          · have hblk : a.block < w.heap.size := by
              obtain ⟨l', cs', a1, a2, _⟩ := h2 0 (by omega)
              have := World.cells?_block a2 hz
              rwa [add_block] at this
            refine ⟨a, rfl, hblk, fun k p hk => ?_⟩
            obtain ⟨i, j, l, rfl, b1, b2⟩ := flat_index hsz hk
            have hi : i < len := by rw [← h1]; exact (List.getElem?_eq_some_iff.1 b1).1
            obtain ⟨l', cs', a1, a2, a3, _⟩ := h2 i hi
            rw [b1] at a1
            injection a1 with a1
            subst a1
            obtain ⟨_, c2, c3⟩ := World.cells?_some a2
            have hj : j < cs'.length := by rw [← a3.1]; exact (List.getElem?_eq_some_iff.1 b2).1
            have hv := List.getElem?_eq_getElem hj
            obtain ⟨d1, d2⟩ := a3.2 j p _ b2 hv
            refine ⟨cs'[j], ?_, d2, d1⟩
            rw [← add_add, c3 j (by omega), hv]
          · simp only [ShapedT, ht]
            refine ⟨es, rfl, by omega, fun x hx => ?_⟩
            obtain ⟨i, hi, e1⟩ := List.getElem_of_mem hx
            obtain ⟨l, cs', a1, _, _, a4⟩ := h2 i (by omega)
            rw [List.getElem?_eq_getElem hi, e1] at a1
            injection a1 with a1
            subst a1
            exact a4
      | struct fs =>
        have hs' : tiles P 0 (P.cellsOf t) fs.toList = true ∧ ∀ f ∈ fs.toList, simpleT P n f.type = true := by simpa only [simpleT, ht, Bool.and_eq_true, List.all_eq_true] using hs
        obtain ⟨xs, n', _, _, hl, hlen, hf⟩ := DataW.trod_struct ht h
        obtain ⟨_, ps, h1, h2⟩ := fields_fit (w := w) (F := fun b => b < w.heap.size) (n := n) (cs := cs) fs.toList 0 (P.cellsOf t) hs'.1 (by omega) fun f hfm => by
          obtain ⟨i, hi, e1⟩ := List.getElem_of_mem hfm
          have h3 := hf i f (by rw [← Array.getElem?_toList, List.getElem?_eq_getElem hi, e1])
          have hx : i < xs.length := by rw [hlen]; simpa using hi
          rw [List.getElem?_eq_getElem hx] at h3
          exact trod_shape n f.type n' _ _ (hs'.2 f hfm) h3
        rw [Nat.sub_zero, List.drop_zero, ← hl, List.take_length] at h1
        refine ⟨ps, h1, ?_⟩
        simp only [ShapedT, ht]
        exact ⟨by rw [h1.1, hl], fun f hfm => by have := (h2 f hfm).2; rwa [Nat.sub_zero] at this⟩
      | _ => simp [simpleT, ht] at hs
attribute [irreducible] ShapedT
end Go.Proofs.Ytfpbdphdahfgbaa.Fw
