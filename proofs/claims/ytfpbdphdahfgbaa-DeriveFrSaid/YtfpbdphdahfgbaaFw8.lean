/- The machine's operation yields what is said of it: what is new, and calls. -/
import Derived.Test.YtfpbdphdahfgbaaFw7
namespace Go.Proofs.Ytfpbdphdahfgbaa.Fw
open Go Go.RowKit

section
variable {P : Program} {a : Act} {w : World} {σ : Ctx} {H : List Blk} {o : Oper} {ρ : Operand → AV} {r : Res}

theorem below_alloc (w : World) (b : Obj) : Below w.heap.size w (w.alloc b) := (Below.refl _ _).alloc (Nat.le_refl _) b

theorem resOk_box {t : TypeId} {cs : List AV} {vs : List Value} (hl : cs.length = vs.length) (h : ∀ (i : Nat) c v, cs[i]? = some c → vs[i]? = some v → Rep w σ c v ∧ v.oneCell' = true) (hlt : ∀ b, σ.ok b → b < w.heap.size) :
    ResOk w (w.alloc (.cells vs.toArray t)) σ (.pointer (some ⟨w.heap.size, 0, none⟩)) (.box t cs) := by
  refine ⟨w.heap.size, vs, Nat.le_refl _, rfl, heap_alloc_new w _, hl, fun i c v h1 h2 => ⟨?_, (h i c v h1 h2).2⟩⟩
  exact Keep.rep ⟨Nat.le_refl _, fun _ h => h, fun ad ha => (below_alloc w _).cell (hlt _ ha), fun _ c hc => ⟨c, hc, Nat.le_refl _, fun _ _ => rfl⟩, fun _ _ h => h⟩ (h i c v h1 h2).1

theorem qr_box {t : TypeId} {x : Operand} (ho : o.op = .box t x) (hρ : ∀ x, Rep w σ (ρ x) (a.eval x)) (hlt : ∀ b, σ.ok b → b < w.heap.size) (h : QR P o ρ H r) : Runs P o a w σ r := by
  simp only [QR, ho] at h
  obtain ⟨hok, rfl⟩ := h
  obtain ⟨h1, h2⟩ := rep_cells (hρ x) hok
  exact runs_of (u := .pointer (some ⟨w.heap.size, 0, none⟩)) (w' := w.alloc (.cells (a.eval x).cells t)) (by simp [execOp, ho, Instr.box, newVar, newRow]) (below_alloc w _) (by simpa using resOk_box (w := w) (t := t) h1 h2 hlt)

theorem qr_alloc {t : TypeId} (ho : o.op = .alloc t) (hlt : ∀ b, σ.ok b → b < w.heap.size) (h : QR P o ρ H r) : Runs P o a w σ r := by
  simp only [QR, ho] at h
  obtain ⟨z, s, b, hi, h1, rfl⟩ := h
  have hz : ∀ v ∈ z.cells.toList, v.oneCell' = true := fun v hv => by
    rw [Array.all_eq_true'] at h1
    exact h1 v (by simpa using hv)
  refine runs_of (u := .pointer (some ⟨w.heap.size, 0, none⟩)) (w' := w.alloc (.cells z.cells t)) (by simp [execOp, ho, Instr.alloc, run_zeroValue hi, newVar, newRow]) (below_alloc w _) ?_
  have := resOk_box (w := w) (σ := σ) (t := t) (cs := z.cells.toList.map cv) (vs := z.cells.toList) (by simp) (fun i c v h1 h2 => by
    rw [List.getElem?_map, h2] at h1
    simp at h1
    subst h1
    exact ⟨rep_cv w σ v, hz v (List.mem_of_getElem? h2)⟩) hlt
  simpa using this

theorem foldl_set (vs : List Value) : ∀ (off k : Nat) (cells : Array Value), (vs.zipIdx k).foldl (fun cs (c, j) => cs.setIfInBounds (off + j) c) cells = (vs.zipIdx k).foldl (fun cs (c, j) => cs.setIfInBounds (off + j) c) cells := fun _ _ _ => rfl

theorem setAll_ok {w : World} {σ : Ctx} (vs : List Value) : ∀ (as cs : List AV) (cells : Array Value) (off k : Nat), as.length = vs.length → cs.length = cells.size →
    (∀ (i : Nat) c v, as[i]? = some c → vs[i]? = some v → Rep w σ c v) → (∀ (i : Nat) c v, cs[i]? = some c → cells[i]? = some v → Rep w σ c v) →
    (setAll cs (off + k) as).length = ((vs.zipIdx k).foldl (fun cs (x : Value × Nat) => cs.setIfInBounds (off + x.2) x.1) cells).size ∧
    ∀ (i : Nat) c v, (setAll cs (off + k) as)[i]? = some c → ((vs.zipIdx k).foldl (fun cs (x : Value × Nat) => cs.setIfInBounds (off + x.2) x.1) cells)[i]? = some v → Rep w σ c v := by
  induction vs with
  | nil =>
    intro as cs cells off k hl hc h1 h2
    have : as = [] := List.eq_nil_of_length_eq_zero (by simpa using hl)
    subst this
    simp only [setAll, List.zipIdx_nil, List.foldl_nil]
    exact ⟨hc, h2⟩
  | cons v vs ih =>
    intro as cs cells off k hl hc h1 h2
    match as, hl with
    | a :: as, hl =>
      simp only [setAll, List.zipIdx_cons, List.foldl_cons]
      have := ih as (cs.set (off + k) a) (cells.setIfInBounds (off + k) v) off (k + 1) (by simpa using hl) (by simp [hc]) (fun i c u h3 h4 => h1 (i + 1) c u (by simpa using h3) (by simpa using h4)) (fun i c u h3 h4 => by
        rw [List.getElem?_set] at h3
        rw [Array.getElem?_setIfInBounds] at h4
        by_cases e : off + k = i
        · subst e
          simp only [if_true] at h3 h4
          split at h3
          · split at h4
            · injection h3 with h3
              injection h4 with h4
              subst h3
              subst h4
              exact h1 0 _ _ rfl rfl
            · cases h4
          · cases h3
        · rw [if_neg e] at h3 h4
          exact h2 i c u h3 h4)
      simpa [Nat.add_assoc] using this

theorem fill_ok {w : World} {σ : Ctx} (place : Nat → Option (Nat × Nat)) (ps : List (Nat × AV)) : ∀ (vs : List (Nat × Value)) (cs : List AV) (cells : Array Value) (ds : List AV), cs.length = cells.size →
    (∀ (i : Nat) c v, cs[i]? = some c → cells[i]? = some v → Rep w σ c v) → ps.length = vs.length → (∀ (i : Nat) p v, ps[i]? = some p → vs[i]? = some v → p.1 = v.1 ∧ Rep w σ p.2 v.2) → fillA place cs ps = some ds →
    ∃ out : Array Value, Instr.fill place cells vs = some out ∧ ds.length = out.size ∧ ∀ (i : Nat) c v, ds[i]? = some c → out[i]? = some v → Rep w σ c v := by
  induction ps with
  | nil =>
    intro vs cs cells ds h1 h2 h3 h4 h5
    have : vs = [] := List.eq_nil_of_length_eq_zero (by simpa using h3.symm)
    subst this
    simp [fillA] at h5
    subst h5
    exact ⟨cells, by simp [Instr.fill], h1, h2⟩
  | cons p ps ih =>
    intro vs cs cells ds h1 h2 h3 h4 h5
    match vs, h3 with
    | v :: vs, h3 =>
      obtain ⟨i, x⟩ := p
      obtain ⟨j, u⟩ := v
      obtain ⟨he, hr⟩ := h4 0 _ _ rfl rfl
      simp only at he hr
      subst he
      simp only [fillA] at h5
      cases hp : place i with
      | none => simp [hp] at h5
      | some q =>
        obtain ⟨off, size⟩ := q
        simp only [hp] at h5
        split at h5
        · rename_i hcond
          obtain ⟨g1, g2, g3⟩ := hcond
          obtain ⟨k1, k2⟩ := rep_cells hr g1
          have hsz : u.cells.size = size := by rw [← Array.length_toList, ← k1]; exact g2
          have hset := setAll_ok (w := w) (σ := σ) u.cells.toList (cellsA x) cs cells off 0 k1 h1 (fun i c v a b => (k2 i c v a b).1) h2
          simp only [Nat.add_zero] at hset
          obtain ⟨out, o1, o2, o3⟩ := ih vs _ _ ds hset.1 hset.2 (by simpa using h3) (fun i p v a b => h4 (i + 1) p v (by simpa using a) (by simpa using b)) h5
          refine ⟨out, ?_, o2, o3⟩
          have hc : ¬ (u.cells.size ≠ size || off + u.cells.size > cells.size) = true := by simp; omega
          simp only [Instr.fill, hp]
          rw [if_neg hc, ← o1]
          congr 1
          rw [← Array.foldl_toList, Array.toList_zipIdx]
        · cases h5

theorem placesOf_run {fs : List Field} {pl : List (Nat × Nat)} (h : placesOf P fs = some pl) : (fs.mapM (m := Sem) fun f => do pure (f.offset, ← sizeOf f.type)).run P w = .ok pl w := by
  induction fs generalizing pl with
  | nil => simp [placesOf] at h; subst h; simp
  | cons f fs ih =>
    simp only [placesOf] at h
    split at h
    · rename_i z s b l hi hl
      injection h with h
      subst h
      simp only [List.mapM_cons, Sem.run_bind, run_sizeOf hi, Result.andThen_ok, Sem.run_pure]
      rw [ih hl]
      rfl
    · cases h

theorem qr_build {t : TypeId} {parts : Array (Nat × Operand)} (ho : o.op = .build t parts) (hρ : ∀ x, Rep w σ (ρ x) (a.eval x)) (h : QR P o ρ H r) : Runs P o a w σ r := by
  simp only [QR, ho] at h
  obtain ⟨z, s, b, pl, cs, hc, hi, hf, rfl⟩ := h
  obtain ⟨out, h1, h2, h3⟩ := fill_ok (w := w) (σ := σ) pl (parts.toList.map fun p => (p.1, ρ p.2)) (parts.toList.map fun p => (p.1, a.eval p.2)) (z.cells.toList.map cv) z.cells cs (by simp) (fun i c v h4 h5 => by
    rw [List.getElem?_map] at h4
    have h5' : z.cells.toList[i]? = some v := by simpa using h5
    rw [h5'] at h4
    simp at h4
    subst h4
    exact rep_cv w σ v) (by simp) (fun i p v h4 h5 => by
    rw [List.getElem?_map] at h4 h5
    cases hp : parts.toList[i]? with
    | none => simp [hp] at h4
    | some q =>
      simp [hp] at h4 h5
      subst h4
      subst h5
      exact ⟨rfl, hρ q.2⟩) hf
  refine runs_val (u := .agg out) ?_ (by
    have := Rep.agg (w := w) (σ := σ) cs out.toList (by simpa using h2) (fun i c v a b => h3 i c v a (by simpa using b))
    simpa using this)
  have hl : (parts.map fun x => (x.1, a.eval x.2)).toList = parts.toList.map fun p => (p.1, a.eval p.2) := by simp
  rcases hc with ⟨fs, l, ht, hpl, rfl⟩ | ⟨n, el, z', sz, b', ht, hel, rfl⟩
  · have hm : (fs.mapM (m := Sem) fun f => do pure (f.offset, ← sizeOf f.type)).run P w = .ok l.toArray w := by
      rw [Array.mapM_eq_mapM_toList, Sem.run_map, placesOf_run (P := P) (w := w) hpl]
      rfl
    have hpl' : (l.toArray[·]? : Nat → Option (Nat × Nat)) = (l[·]?) := by funext i; simp
    simp only [execOp, ho, Instr.build, Sem.run_bind, run_zeroValue hi, Result.andThen_ok, run_underlying ht, hm]
    simp only [hpl', hl, h1, Sem.run_pure, Result.andThen_ok]
  · simp only [execOp, ho, Instr.build, Sem.run_bind, run_zeroValue hi, Result.andThen_ok, run_underlying ht, run_sizeOf hel]
    simp only [hl, h1, Sem.run_pure, Result.andThen_ok]
end
end Go.Proofs.Ytfpbdphdahfgbaa.Fw
