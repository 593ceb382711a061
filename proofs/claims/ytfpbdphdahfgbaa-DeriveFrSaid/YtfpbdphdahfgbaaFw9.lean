/- The machine's operation yields what is said of it: slices, and calls. -/
import Derived.Test.YtfpbdphdahfgbaaFw8
namespace Go.Proofs.Ytfpbdphdahfgbaa.Fw
open Go Go.RowKit

section
variable {P : Program} {a : Act} {w : World} {σ : Ctx} {H : List Blk} {o : Oper} {ρ : Operand → AV} {r : Res}

theorem okCells_one {v : AV} (h : okCells v = true) : ∀ c ∈ cellsA v, c.one = true := by
  intro c hc
  cases v with
  | agg cs => simp only [okCells, List.all_eq_true] at h; exact h c hc
  | pv p =>
    cases p with
    | agg ps =>
      simp only [okCells, List.all_eq_true] at h
      simp only [cellsA, List.mem_map] at hc
      obtain ⟨p, hp, rfl⟩ := hc
      exact h p hp
    | val v => simp only [cellsA, List.mem_singleton] at hc; subst hc; exact h
    | imm es => simp only [cellsA, List.mem_singleton] at hc; subst hc; exact h
  | _ => simp only [cellsA, List.mem_singleton] at hc; subst hc; exact h

theorem setAll_mid (as : List AV) : ∀ (pre rest : List AV), as.length ≤ rest.length → setAll (pre ++ rest) pre.length as = pre ++ as ++ rest.drop as.length := by
  induction as with
  | nil => intro pre rest _; simp [setAll]
  | cons a as ih =>
    intro pre rest h
    match rest, h with
    | r :: rest, h =>
      have e : (pre ++ r :: rest).set pre.length a = (pre ++ [a]) ++ rest := by simp
      have := ih (pre ++ [a]) rest (by simpa using h)
      simp only [setAll, e]
      simp only [List.length_append, List.length_singleton] at this
      rw [this]
      simp

theorem lit_fill (sz : Nat) (ps : List (Nat × AV)) : ∀ (k : Nat) (es : List (List PV)) (pre : List AV), litOf sz k ps = some es → pre.length = k * sz →
    fillA (fun i => some (i * sz, sz)) (pre ++ List.replicate (ps.length * sz) .any) ps = some (pre ++ ps.flatMap fun p => cellsA p.2) ∧ es.length = ps.length ∧ (∀ l ∈ es, l.length = sz) ∧
    toPs (ps.flatMap fun p => cellsA p.2) = some es.flatten ∧ ∀ c ∈ ps.flatMap (fun p => cellsA p.2), c.one = true := by
  induction ps with
  | nil =>
    intro k es pre h _
    simp [litOf] at h
    subst h
    simp [fillA, toPs]
  | cons p ps ih =>
    intro k es pre h hp
    obtain ⟨i, v⟩ := p
    simp only [litOf] at h
    split at h
    · rename_i hc
      obtain ⟨rfl, h1, h2⟩ := hc
      split at h
      · rename_i q l hq hl
        injection h with h
        subst h
        obtain ⟨i1, i2, i3, i4, i5⟩ := ih (i + 1) l (pre ++ cellsA v) hl (by rw [List.length_append, hp, h2, Nat.succ_mul])
        obtain ⟨t1, t2⟩ := toPs_get hq
        refine ⟨?_, by simp [i2], fun x hx => ?_, ?_, fun c hc => ?_⟩
        · simp only [fillA]
          rw [if_pos ⟨h1, h2, by simp [hp, Nat.succ_mul]⟩]
          have e := setAll_mid (cellsA v) pre (List.replicate ((ps.length + 1) * sz) .any) (by rw [h2]; simp [Nat.succ_mul])
          rw [hp] at e
          simp only [List.length_cons]
          rw [e, h2, List.drop_replicate]
          have e2 : (ps.length + 1) * sz - sz = ps.length * sz := by rw [Nat.succ_mul]; omega
          rw [e2, i1]
          simp
        · simp only [List.mem_cons] at hx
          rcases hx with rfl | hx
          · omega
          · exact i3 x hx
        · simp only [List.flatMap_cons, List.flatten_cons]
          have key : ∀ (l m : List AV) (p q : List PV), toPs l = some p → toPs m = some q → toPs (l ++ m) = some (p ++ q) := by
            intro l
            induction l with
            | nil => intro m p q h1 h2; simp [toPs] at h1; subst h1; simpa using h2
            | cons x l ih =>
              intro m p q h1 h2
              simp only [toPs] at h1
              split at h1
              · rename_i y ys hy hys
                injection h1 with h1
                subst h1
                simp only [List.cons_append, toPs, hy, ih m ys q hys h2]
              · cases h1
          exact key _ _ _ _ hq i4
        · simp only [List.flatMap_cons, List.mem_append] at hc
          rcases hc with hc | hc
          · exact okCells_one h1 c hc
          · exact i5 c hc
      · cases h
    · cases h

/-- A row that was just made. -/
theorem made_row {el : TypeId} {sz : Nat} {es : List (List PV)} {vs : List Value} (hsz : 0 < sz) (hl : ∀ l ∈ es, l.length = sz) (hlen : vs.length = es.length * sz) (hm : es.length ≤ maxLen)
    (h : ∀ (k : Nat) p, es.flatten[k]? = some p → ∃ v, vs[k]? = some v ∧ v.oneCell' = true ∧ RepP w σ.F p v) (hlt : ∀ b, σ.ok b → b < w.heap.size) :
    ResOk w (w.alloc (.cells vs.toArray el)) σ (.slice (some ⟨w.heap.size, 0, none⟩) es.length es.length) (.row el sz es) ∧
    ResOk w (w.alloc (.cells vs.toArray el)) σ (.slice (some ⟨w.heap.size, 0, none⟩) es.length es.length) (.val (.tight es)) := by
  have hmono : ∀ (G : Nat → Prop) p v, RepP w σ.F p v → RepP (w.alloc (.cells vs.toArray el)) (σ.more G).F p v := fun G p v h =>
    h.mono (fun ad ha => (below_alloc w _).cell (hlt _ (.inl ha))) (fun _ h => Or.inl h)
  constructor
  · refine ⟨fun _ => False, vs, fun _ h => h.elim, hsz, ?_, hl, fun k p hk => ?_, fun _ _ h => h⟩
    · have := World.ownsRow_lit (e := el) (size := sz) w vs.toArray es.length (Nat.le_refl _) hm (by simpa using hlen)
      simpa using this
    · obtain ⟨v, a1, a2, a3⟩ := h k p hk
      exact ⟨v, a1, a2, hmono _ p v a3⟩
  · refine ⟨fun b => b = w.heap.size, fun b hb => by subst hb; simp, .tight es _ sz hm ⟨hl, fun _ => ⟨_, rfl, .inr rfl, fun k p hk => ?_⟩⟩⟩
    obtain ⟨v, a1, a2, a3⟩ := h k p hk
    refine ⟨v, ?_, a2, hmono _ p v a3⟩
    rw [add_at, cell_of_row _ _ _ vs.toArray el (0, 0) (heap_alloc_new w _)]
    simpa using a1

theorem qr_buildSlice {t : TypeId} {n : Nat} {parts : Array (Nat × Operand)} (ho : o.op = .buildSlice t n parts) (hρ : ∀ x, Rep w σ (ρ x) (a.eval x)) (hlt : ∀ b, σ.ok b → b < w.heap.size) (h : QR P o ρ H r) : Runs P o a w σ r := by
  simp only [QR, ho] at h
  obtain ⟨el, z, s, b, es, ht, hi, hs, hz, hbig, hlit, hn, hr⟩ := h
  obtain ⟨f1, f2, f3, f4, f5⟩ := lit_fill s _ 0 es [] hlit (by simp)
  have hpl : parts.toList.length = n := by rw [← hn, f2]; simp
  simp only [List.nil_append, List.length_map, hpl] at f1
  obtain ⟨out, h1, h2, h3⟩ := fill_ok (w := w) (σ := σ) (fun i => some (i * s, s)) (parts.toList.map fun p => (p.1, ρ p.2)) (parts.toList.map fun p => (p.1, a.eval p.2)) (List.replicate (n * s) .any)
    ((Array.range (n * s)).map (z.cells[· % z.cells.size]!)) _ (by simp) (fun i c v h4 _ => by
      rw [List.getElem?_replicate] at h4
      split at h4
      · injection h4 with h4; subst h4; exact .any v
      · cases h4) (by simp) (fun i p v h4 h5 => by
      rw [List.getElem?_map] at h4 h5
      cases hp : parts.toList[i]? with
      | none => simp [hp] at h4
      | some q => simp [hp] at h4 h5; subst h4; subst h5; exact ⟨rfl, hρ q.2⟩) f1
  obtain ⟨t1, t2⟩ := toPs_get f4
  have hfl : ∀ (es : List (List PV)), (∀ l ∈ es, l.length = s) → es.flatten.length = es.length * s := by
    intro es
    induction es with
    | nil => intro _; simp
    | cons e es ih => intro h; simp [ih (fun l hl => h l (by simp [hl])), h e (by simp), Nat.succ_mul, Nat.add_comm]
  have hlen : out.toList.length = es.length * s := by rw [Array.length_toList, ← h2, t1, hfl es f3]
  have hm : es.length ≤ maxLen := by
    have : es.length ≤ n * s := by rw [hn]; exact Nat.le_mul_of_pos_right n hs
    simp only [maxLen]
    omega
  have hmade := made_row (w := w) (σ := σ) (el := el) (sz := s) (es := es) (vs := out.toList) hs f3 hlen hm (fun k p hk => by
    have hlt' := (List.getElem?_eq_some_iff.1 hk).1
    have hk2 : k < out.toList.length := by rw [hlen, ← hfl es f3]; exact hlt'
    have hv : out.toList[k]? = some (out.toList[k]) := List.getElem?_eq_getElem hk2
    have hc : ((parts.toList.map fun p => (p.1, ρ p.2)).flatMap fun p => cellsA p.2)[k]? = some (((parts.toList.map fun p => (p.1, ρ p.2)).flatMap fun p => cellsA p.2)[k]'(by omega)) := List.getElem?_eq_getElem (by omega)
    have hrep := h3 k _ (out.toList[k]) hc (by rw [← Array.getElem?_toList]; exact hv)
    exact ⟨_, hv, rep_one hrep (f5 _ (List.mem_of_getElem? hc)), rep_toP hrep (t2 k _ p hc hk)⟩) hlt
  have hrun : (execOp a.eval o).run P w = .ok (.value (.slice (some ⟨w.heap.size, 0, none⟩) n n)) (w.alloc (.cells out.toList.toArray el)) := by
    have hl : (parts.map fun x => (x.1, a.eval x.2)).toList = parts.toList.map fun p => (p.1, a.eval p.2) := by simp
    simp only [execOp, ho, Instr.buildSlice, Sem.run_bind, run_underlying ht, Result.andThen_ok, run_sizeOf hi]
    rw [if_neg (by omega)]
    by_cases h0 : n * s = 0
    · have e0 : Array.range (n * s) = #[] := by rw [h0]; rfl
      have h1' := h1
      rw [e0] at h1'
      simp only [Array.map_empty] at h1'
      rw [if_pos h0]
      simp only [Sem.run_bind, Sem.run_pure, Result.andThen_ok, e0, Array.map_empty, hl, h1', newRow, run_newObj, Array.toArray_toList]
      rfl
    · rw [if_neg h0]
      simp only [Sem.run_bind, run_zeroValue hi, Sem.run_pure, Result.andThen_ok, hl, h1, newRow, run_newObj, Array.toArray_toList]
      rfl
  rw [← hn] at hrun
  rcases hr with rfl | rfl
  · exact runs_of hrun (below_alloc w _) hmade.2
  · exact runs_of hrun (below_alloc w _) hmade.1

theorem qr_makeSlice {t : TypeId} {l c : Operand} (ho : o.op = .makeSlice t l c) (hρ : ∀ x, Rep w σ (ρ x) (a.eval x)) (hlt : ∀ b, σ.ok b → b < w.heap.size) (h : QR P o ρ H r) : Runs P o a w σ r := by
  simp only [QR, ho] at h
  have h1 := hρ l
  have h2 := hρ c
  split at h
  · rename_i n m e1 e2
    rw [e1] at h1
    rw [e2] at h2
    obtain ⟨el, z, b, rfl, h0, ht, hi, hz, hb, h63, p, hp, rfl⟩ := h
    obtain ⟨k, rfl⟩ := Int.eq_ofNat_of_zero_le h0
    obtain ⟨i, hii, hiz, his, hib⟩ := tinfo_parts hi
    obtain ⟨w', hr, ho', hg⟩ := run_make_full (P := P) w w.heap.size t el i z 1 ht hii hiz his .i64 .i64 k (by rw [hib, Nat.mul_comm]; omega) (by simp only [maxLen]; omega) (Nat.le_refl _)
    have hbel : Below w.heap.size w w' := ⟨hg.os, hg.tape, hg.output, hg.size, fun j hj => hg.block j hj (by simp)⟩
    have hcells : z.cells = #[z] := by cases z <;> first | rfl | (simp [Value.oneCell'] at hz)
    rw [hcells, Nat.mul_one, toList_madeCells_one] at ho'
    refine runs_of (u := .slice (some ⟨w.heap.size, 0, none⟩) k k) (by simp [execOp, ho, rep_val h1, rep_val h2, hr]) hbel ⟨fun _ => False, List.replicate k z, fun _ h => h.elim, by omega, by simpa using ho', fun x hx => ?_, fun j q hj => ?_, fun _ _ h => h⟩
    · simp at hx
      rw [hx.2]
      rfl
    · have hf : (List.replicate (k : Int).toNat [p]).flatten = List.replicate k p := by simp
      rw [hf, List.getElem?_replicate] at hj
      split at hj
      · rename_i hjk
        injection hj with hj
        subst hj
        refine ⟨z, by rw [List.getElem?_replicate, if_pos hjk], hz, ?_⟩
        have := rep_toP (rep_cv w' (σ.more fun _ => False) z) hp
        exact this
      · cases hj
  · exact h.elim

theorem list1 {α : Type} {xs : Array α} {x : α} (h : xs.toList = [x]) : xs = #[x] := by apply Array.ext'; simpa using h
theorem list2 {α : Type} {xs : Array α} {x y : α} (h : xs.toList = [x, y]) : xs = #[x, y] := by apply Array.ext'; simpa using h

theorem qr_builtin {c : Call} {b : Builtin} (ho : o.op = .call c) (hc : c.callee = .builtin b) (hb : b ≠ .append) (hρ : ∀ x, Rep w σ (ρ x) (a.eval x)) (hr : Refs w σ H) (hbb : σ.base ≤ w.heap.size ∧ ∀ b, σ.F b → b < w.heap.size)
    (h : BuiltQ P b ρ H r c.args.toList c.argTypes.toList) : Runs P o a w σ r := by
  generalize hargs : c.args.toList = args at h
  generalize hts : c.argTypes.toList = ts at h
  unfold BuiltQ at h
  split at h
  · rename_i x t
    obtain ⟨el, ht, es, he, rfl⟩ := h
    obtain ⟨A, cap, sz, hu, _⟩ := rep_elems hr hbb (hρ x) he
    exact runs_val (u := .int .i64 es.length) (by simp [execOp, ho, resolve, hc, list1 hargs, list1 hts, invoke, builtin, hu, Builtin.len_, run_underlying ht, goInt]) (.pv (.val _))
  · rename_i _ x y
    have h1 := hρ x
    have h2 := hρ y
    split at h
    · rename_i k m k' n e1 e2
      rw [e1] at h1
      rw [e2] at h2
      subst h
      exact runs_val (by simp [execOp, ho, resolve, hc, list2 hargs, invoke, builtin, rep_val h1, rep_val h2, run_min_int2]) (.pv (.val _))
    · exact h.elim
  · rename_i _ x y
    have h1 := hρ x
    have h2 := hρ y
    split at h
    · rename_i k m k' n e1 e2
      rw [e1] at h1
      rw [e2] at h2
      subst h
      exact runs_val (by simp [execOp, ho, resolve, hc, list2 hargs, invoke, builtin, rep_val h1, rep_val h2, run_max_int2]) (.pv (.val _))
    · exact h.elim
  · exact absurd rfl hb
  · exact h.elim
end
end Go.Proofs.Ytfpbdphdahfgbaa.Fw
