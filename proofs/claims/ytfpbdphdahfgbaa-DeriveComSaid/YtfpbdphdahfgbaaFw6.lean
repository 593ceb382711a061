/- The machine's operation yields what is said of it: operation by operation. -/
import Derived.Test.YtfpbdphdahfgbaaFw5
namespace Go.Proofs.Ytfpbdphdahfgbaa.Fw
open Go Go.RowKit

section
variable {P : Program} {a : Act} {w : World} {σ : Ctx} {H : List Blk}

theorem run_isAgg {t : TypeId} {b : Bool} (h : isAggT P t = some b) : (isAgg t).run P w = .ok b w := by
  unfold isAggT at h
  cases hu : P.underlying t with
  | none => simp [hu] at h
  | some d =>
    simp only [hu] at h
    cases d <;> simp at h <;> subst h <;> simp [isAgg, run_underlying hu]

theorem tinfo_parts {t : TypeId} {z : Option Value} {s b : Nat} (h : tinfo P t = some (z, s, b)) : ∃ i, P.info? t = some i ∧ i.zero = z ∧ i.size = s ∧ i.bytes = b := by
  unfold tinfo at h
  obtain ⟨i, hi, he⟩ := Option.map_eq_some_iff.1 h
  simp only [Prod.mk.injEq] at he
  exact ⟨i, hi, he.1, he.2.1, he.2.2⟩

theorem run_sizeOf {t : TypeId} {z : Option Value} {s b : Nat} (h : tinfo P t = some (z, s, b)) : (sizeOf t).run P w = .ok s w := by
  obtain ⟨i, hi, _, rfl, _⟩ := tinfo_parts h
  simp [sizeOf, typeInfo, hi]

theorem run_zeroValue {t : TypeId} {z : Value} {s b : Nat} (h : tinfo P t = some (some z, s, b)) : (zeroValue t).run P w = .ok z w := by
  obtain ⟨i, hi, h1, _, _⟩ := tinfo_parts h
  simp [zeroValue, typeInfo, hi, h1]

theorem run_loadVar_one {t : TypeId} {ad : Addr} {v : Value} (ht : isAggT P t = some false) (h : w.cell? ad = some v) : (loadVar t ad).run P w = .ok v w := by
  simp [loadVar, run_isAgg ht, h]

theorem run_loadVar_agg {t : TypeId} {ad : Addr} {vs : List Value} {z : Option Value} {b : Nat} (ht : isAggT P t = some true) (hi : tinfo P t = some (z, vs.length, b)) (h : ∀ (j : Nat) v, vs[j]? = some v → w.cell? (ad.add j) = some v) :
    (loadVar t ad).run P w = .ok (.agg vs.toArray) w := by
  simp [loadVar, run_isAgg ht, run_sizeOf hi, run_loadCells_list w ad vs h]

/-- Cells that are read one behind the other. -/
theorem cells_list {F : Nat → Prop} {ad : Addr} {cs : List PV} (h : ∀ (k : Nat) p, cs[k]? = some p → ∃ v, w.cell? (ad.add k) = some v ∧ v.oneCell' = true ∧ RepP w F p v) :
    ∃ vs : List Value, cs.length = vs.length ∧ (∀ (j : Nat) v, vs[j]? = some v → w.cell? (ad.add j) = some v) ∧ (∀ v ∈ vs, v.oneCell' = true) ∧ ∀ (i : Nat) p v, cs[i]? = some p → vs[i]? = some v → RepP w F p v := by
  induction cs generalizing ad with
  | nil => exact ⟨[], rfl, fun j v h => by simp at h, fun v h => by simp at h, fun i p v h => by simp at h⟩
  | cons c cs ih =>
    obtain ⟨v, h1, h2, h3⟩ := h 0 c rfl
    obtain ⟨vs, i1, i2, i4, i3⟩ := ih (ad := ad.add 1) (fun k p hk => by
      obtain ⟨v, a1, a2, a3⟩ := h (k + 1) p (by simpa using hk)
      exact ⟨v, by rw [add_add, Nat.add_comm]; exact a1, a2, a3⟩)
    refine ⟨v :: vs, by simp [i1], fun j u hj => ?_, fun u hu => ?_, fun i p u hp hu => ?_⟩
    · match j with
      | 0 => simp at hj; subst hj; exact h1
      | j + 1 => rw [show j + 1 = 1 + j from Nat.add_comm j 1, ← add_add]; exact i2 j u (by simpa using hj)
    · simp only [List.mem_cons] at hu
      rcases hu with rfl | hu
      · exact h2
      · exact i4 u hu
    · match i with
      | 0 => simp at hp hu; subst hp; subst hu; exact h3
      | i + 1 => exact i3 i p u (by simpa using hp) (by simpa using hu)

theorem sub_cells {F : Nat → Prop} {ad : Addr} {cs : List PV} (h : ∀ (k : Nat) p, cs[k]? = some p → ∃ v, w.cell? (ad.add k) = some v ∧ v.oneCell' = true ∧ RepP w F p v) (off s : Nat) :
    ∀ (k : Nat) p, ((cs.drop off).take s)[k]? = some p → ∃ v, w.cell? ((ad.add off).add k) = some v ∧ v.oneCell' = true ∧ RepP w F p v := fun k p hk => by
  rw [List.getElem?_take] at hk
  split at hk
  · rw [List.getElem?_drop] at hk
    rw [add_add]
    exact h _ p hk
  · cases hk

/-- A load of what lies at cells that are told. -/
theorem runs_load {o : Oper} {t : TypeId} {x : Operand} (ho : o.op = .load t x) {ad : Addr} (hx : a.eval x = .pointer (some ad)) {cs : List PV} {r : Res}
    (h : ∀ (k : Nat) p, cs[k]? = some p → ∃ v, w.cell? (ad.add k) = some v ∧ v.oneCell' = true ∧ RepP w σ.F p v)
    (hr : (isAggT P t = some false ∧ ∃ p, cs[0]? = some p ∧ r = .val (.pv p)) ∨ (isAggT P t = some true ∧ ∃ z s b, tinfo P t = some (z, s, b) ∧ s ≤ cs.length ∧ r = .val (.pv (.agg (cs.take s))))) : Runs P o a w σ r := by
  rcases hr with ⟨ht, p, hp, rfl⟩ | ⟨ht, z, s, b, hi, hs, rfl⟩
  · obtain ⟨v, h1, _, h3⟩ := h 0 p hp
    have h1' : w.cell? ad = some v := by simpa [Addr.add] using h1
    exact runs_val (u := v) (by simp [execOp, ho, Instr.loadAt, hx, Instr.sureAddr, run_loadVar_one ht h1']) (.pv h3)
  · obtain ⟨vs, h1, h2, _, h3⟩ := cells_list (w := w) (F := σ.F) (ad := ad) (cs := cs.take s) (fun k p hk => h k p (by rw [List.getElem?_take] at hk; split at hk <;> simp_all))
    have hl : s = vs.length := by rw [← h1, List.length_take]; omega
    exact runs_val (u := .agg vs.toArray) (by simp [execOp, ho, Instr.loadAt, hx, Instr.sureAddr, run_loadVar_agg ht (by rw [hi, hl]) h2]) (.pv (.agg _ _ h1 h3))

theorem qr_load {o : Oper} {t : TypeId} {x : Operand} (ho : o.op = .load t x) {ρ : Operand → AV} (hρ : Rep w σ (ρ x) (a.eval x)) (hr : Refs w σ H) {r : Res} (h : QR P o ρ H r) : Runs P o a w σ r := by
  simp only [QR, ho] at h
  generalize hx : ρ x = v at h hρ
  generalize hu : a.eval x = u at hρ
  cases hρ with
  | «at» cs ad hok hc => exact runs_load ho hu hc h
  | rat id n k g c hc hn hg =>
    obtain ⟨fz, e, sz, es, i, off, el, hb, hl, hk, hi, hcase⟩ := h
    rcases hr id _ hb with hb' | hb'
    · obtain ⟨h0, h2, _, h3, ⟨xs, ho', hx'⟩, _⟩ := hb'
      have hrow : ∀ (k : Nat) p, es.flatten[k]? = some p → ∃ v, w.cell? ((⟨g, 0, none⟩ : Addr).add k) = some v ∧ v.oneCell' = true ∧ RepP w σ.F p v := fun k p hp => by
        obtain ⟨v, a1, a2, a3⟩ := hx' k p hp
        exact ⟨v, ho'.cells (g := g) (by rw [hl]; exact hg) k v a1, a2, a3⟩
      obtain ⟨ad, hA, _, hll, hcell⟩ := elem_at (w := w) (G := fun _ => True) (F := σ.F) (A := some ⟨g, 0, none⟩) (sz := sz) ⟨h3, fun _ => ⟨_, rfl, trivial, hrow⟩⟩ hi
      injection hA with hA
      subst hA
      have hcs : ∀ (j : Nat) p, (el.drop off)[j]? = some p → ∃ v, w.cell? ((⟨g, k, none⟩ : Addr).add j) = some v ∧ v.oneCell' = true ∧ RepP w σ.F p v := fun j p hp => by
        rw [List.getElem?_drop] at hp
        obtain ⟨v, a1, a2, a3⟩ := hcell _ p hp
        refine ⟨v, ?_, a2, a3⟩
        rw [add_at] at a1 ⊢
        rw [← a1]
        congr 2
        omega
      refine runs_load ho hu hcs (hcase.imp (fun ⟨h1, p, h2, h3⟩ => ⟨h1, p, by rw [List.getElem?_drop]; exact h2, h3⟩) (fun ⟨h1, z, s, b, h2, h3, h4⟩ => ⟨h1, z, s, b, h2, by rw [List.length_drop]; omega, h4⟩))
    · rw [hb'.1] at hc; cases hc
  | bat id k g hbx =>
    obtain ⟨bt, cs, hb, hcase⟩ := h
    rcases hr id _ hb with hb' | hb'
    · obtain ⟨h0, g', vs, h1, h2, h3, h4, h5, h6⟩ := hb'
      rw [hbx] at h1
      injection h1 with h1
      subst h1
      have hcell : ∀ j, w.cell? ⟨g, j, none⟩ = vs.toArray[j]? := fun j => cell_of_row w g j vs.toArray bt (0, 0) h4
      rcases hcase with ⟨ht, v, hv, rfl⟩ | ⟨ht, z, s, b, hi, hs, rfl⟩
      · have hk : k < vs.length := by rw [← h5]; exact (List.getElem?_eq_some_iff.1 hv).1
        have hvk : vs[k]? = some vs[k] := List.getElem?_eq_getElem hk
        have hc : w.cell? ⟨g, k, none⟩ = some vs[k] := by rw [hcell]; simp
        exact runs_val (u := vs[k]) (by simp [execOp, ho, Instr.loadAt, hu, Instr.sureAddr, run_loadVar_one ht hc]) (h6 k v _ hv hvk).1
      · have hl : ((vs.drop k).take s).length = s := by rw [List.length_take, List.length_drop]; omega
        refine runs_val (u := .agg ((vs.drop k).take s).toArray) ?_ (.agg _ _ (by rw [List.length_take, List.length_drop, hl]; omega) fun i p v hp hv => ?_)
        · have hrun := run_loadVar_agg (P := P) (w := w) (ad := ⟨g, k, none⟩) (vs := (vs.drop k).take s) ht (by rw [hl]; exact hi) (fun j v hv => by
            rw [List.getElem?_take] at hv
            split at hv
            · rw [List.getElem?_drop] at hv
              rw [add_at, hcell]
              simpa using hv
            · cases hv)
          simp [execOp, ho, Instr.loadAt, hu, Instr.sureAddr, hrun]
        · rw [List.getElem?_take] at hp hv
          split at hp
          · rename_i hlt
            rw [if_pos hlt] at hv
            rw [List.getElem?_drop] at hp hv
            exact (h6 _ p v hp hv).1
          · cases hp
    · rw [hb'.2] at hbx; cases hbx
  | _ => exact h.elim
end
end Go.Proofs.Ytfpbdphdahfgbaa.Fw
