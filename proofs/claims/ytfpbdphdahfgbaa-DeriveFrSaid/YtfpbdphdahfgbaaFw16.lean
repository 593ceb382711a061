/- Statements and code, said of abstract values; contracts out of bodies. -/
import Derived.Test.YtfpbdphdahfgbaaFw15
namespace Go.Proofs.Ytfpbdphdahfgbaa.Fw
open Go Go.RowKit

/-- An argument that may be told with less. -/
inductive Wk1 (H : List Blk) : AV → AV → Prop
  | refl (a : AV) : Wk1 H a a
  | any (a : AV) : Wk1 H a .any
  | nil_imm : Wk1 H .nil (.pv (.imm []))
  | tight_imm (es : List (List PV)) : Wk1 H (.tight es) (.pv (.imm es))
  | frozen (id : Nat) (e : TypeId) (sz n : Nat) (es : List (List PV)) (h : H[id]? = some (.row true e sz es)) (hn : n = es.length) : Wk1 H (.row id n) (.pv (.imm es))

inductive WkL (H : List Blk) : List AV → List AV → Prop
  | nil : WkL H [] []
  | cons {a b : AV} {l m : List AV} (h : Wk1 H a b) (t : WkL H l m) : WkL H (a :: l) (b :: m)

/-- What a store turns. -/
def StoreQ (P : Program) (t : TypeId) (x v : AV) (H : List Blk) (K : List Blk → Prop) : Prop :=
  match x with
  | .rat id n k => ∃ i el sz b z es ps, k = i * sz ∧ H[id]? = some (.row false el sz es) ∧ es.length = n ∧ i < n ∧ okCells v = true ∧ toPs (cellsA v) = some ps ∧ ps.length = sz ∧ tinfo P t = some (z, sz, b) ∧
      K (H.set id (.row false el sz (es.set i ps)))
  | .bat id k => ∃ s b z bt cs, H[id]? = some (.box bt cs) ∧ okCells v = true ∧ k + (cellsA v).length ≤ cs.length ∧ (cellsA v).length = s ∧ tinfo P t = some (z, s, b) ∧ K (H.set id (.box bt (setAll cs k (cellsA v))))
  | _ => False

def QK (P : Program) (o : Oper) (e : List AV) (H : List Blk) (K : AV → List Blk → Prop) : Prop := ∃ r, QR P o (ev e) H r ∧ K (r.av H.length) (r.add H)

def BuiltK (P : Program) (b : Builtin) (o : Oper) (e : List AV) (H : List Blk) (K : AV → List Blk → Prop) (args : List Operand) (ts : List TypeId) : Prop :=
  match b, args, ts with
  | .append, [s, x], [t, t'] =>
    match ev e s with
    | .row id n => ∃ el sz b z es xs, t = t' ∧ H[id]? = some (.row false el sz es) ∧ es.length = n ∧ elemsOf H (ev e x) = some xs ∧ (∀ l ∈ xs, l.length = sz) ∧ P.underlying t = some (.slice el) ∧ tinfo P el = some (some z, sz, b) ∧
        z.cells.size = sz ∧ (n + xs.length) * b ≤ 140737488355328 ∧ n + xs.length ≤ maxLen ∧ K (.row id (n + xs.length)) (H.set id (.row false el sz (es ++ xs)))
    | _ => QK P o e H K
  | .copy, [d, x], [t, _] =>
    match ev e d with
    | .row id n => ∃ el b z es xs, H[id]? = some (.row false el 1 es) ∧ es.length = n ∧ elemsOf H (ev e x) = some xs ∧ (∀ l ∈ xs, l.length = 1) ∧ P.underlying t = some (.slice el) ∧ tinfo P el = some (z, 1, b) ∧
        K (.pv (.val (.int .i64 (min xs.length n : Nat)))) (H.set id (.row false el 1 (xs.take n ++ es.drop xs.length)))
    | _ => False
  | _, _, _ => QK P o e H K

/-- One operation. -/
def aOp (P : Program) (o : Oper) (e : List AV) (H : List Blk) (K : AV → List Blk → Prop) : Prop :=
  match o.op with
  | .store t x y => StoreQ P t (ev e x) (ev e y) H (K .any)
  | .call c => match c.callee with
    | .builtin b => BuiltK P b o e H K c.args.toList c.argTypes.toList
    | .value f => QK P o e H K ∨ ∃ g as bs R, CallF (ev e) f c.args = some (g, as) ∧ WkL H as bs ∧ ACalls P g bs H R ∧ ∀ v H', R v H' → K v H'
    | _ => False
  | _ => QK P o e H K

/-- What stands in the slot of an operation that was left out. -/
abbrev und : AV := .pv (.val undef)

/-- A region's operations, in the order of the text; the first 'm' turn nothing. -/
def aOps (P : Program) (all : Array Oper) : Nat → List Oper → List AV → List Blk → (List AV → List Blk → Prop) → Prop
  | _, [], e, H, K => K e H
  | m, o :: rest, e, H, K =>
    let run (e : List AV) : Prop := if 0 < m then QK P o e H (fun v H' => aOps P all (m - 1) rest (eput e o.dst v) H' K) else aOp P o e H (fun v H' => aOps P all (m - 1) rest (eput e o.dst v) H' K)
    match o.guard with
    | none => run e
    | some (g, want) => match (all[g]?).bind (·.dst) with
      | some d => (∃ b, e[d]? = some (.pv (.val (.bool b))) ∧ (b = want → run (e.set d (.pv (.val (.bool want))))) ∧ (b = !want → aOps P all (m - 1) rest (eput (e.set d (.pv (.val (.bool !want)))) o.dst und) H K)) ∨
          (e[d]? = some und ∧ aOps P all (m - 1) rest (eput e o.dst und) H K)
      | none => False

section
variable {P : Program} {E : Entry} {a : Act} {w : World} {σ : Ctx} {H : List Blk} {o : Oper} {e : List AV}

theorem wk1_ok (hh : HeapOk w σ H) {b c : AV} (h : Wk1 H b c) {v : Value} (hr : Rep w σ b v) : Rep w σ c v := by
  cases h with
  | refl => exact hr
  | any => exact .any v
  | nil_imm => exact .pv (rep_toP hr rfl)
  | tight_imm es => exact .pv (rep_toP hr rfl)
  | frozen id e sz n es h hn =>
    have := conv_ok hh.refs ⟨hh.base, hh.lt⟩ (Conv.frozen id e sz n es h hn) hr
    cases this with
    | pv hp => exact .pv hp

theorem wkL_ok (hh : HeapOk w σ H) {as bs : List AV} (h : WkL H as bs) : ∀ {vs : List Value}, as.length = vs.length → (∀ (i : Nat) c v, as[i]? = some c → vs[i]? = some v → Rep w σ c v) →
    bs.length = vs.length ∧ ∀ (i : Nat) c v, bs[i]? = some c → vs[i]? = some v → Rep w σ c v := by
  induction h with
  | nil => intro vs hl _; exact ⟨hl, fun i c v h => by simp at h⟩
  | cons h _ ih =>
    intro vs hl hrep
    match vs, hl with
    | v :: vs, hl =>
      obtain ⟨i1, i2⟩ := ih (vs := vs) (by simpa using hl) (fun i c v a b => hrep (i + 1) c v (by simpa using a) (by simpa using b))
      refine ⟨by simp [i1], fun i c x a b => ?_⟩
      match i with
      | 0 => simp at a b; subst a; subst b; exact wk1_ok hh h (hrep 0 _ _ rfl rfl)
      | i + 1 => exact i2 i c x (by simpa using a) (by simpa using b)

theorem qk_sound {K : AV → List Blk → Prop} (h : QK P o e H K) (s : St E σ w H e a) (N : Act → World → Prop) (Q : Exit → Act → World → Prop)
    (hN : ∀ v H' w' σ' u, K v H' → St E σ' w' H' (eput e o.dst v) (a.put o.dst u) → N (a.put o.dst u) w') : o.wp P a w N Q := by
  obtain ⟨r, hr, hK⟩ := h
  refine qr_sound hr (fun x => rep_ev s.env.2 x) s.heap.refs ⟨s.heap.base, s.heap.lt⟩ N Q fun u w' hb hres => ?_
  obtain ⟨σ', h1⟩ := s.res hb hres o.dst
  exact hN _ _ w' σ' u hK h1

theorem aOp_sound {K : AV → List Blk → Prop} (h : aOp P o e H K) (s : St E σ w H e a) (N : Act → World → Prop) (Q : Exit → Act → World → Prop)
    (hN : ∀ v H' w' σ' u, K v H' → St E σ' w' H' (eput e o.dst v) (a.put o.dst u) → N (a.put o.dst u) w') : o.wp P a w N Q := by
  unfold aOp at h
  split at h
  · rename_i t x y ho
    unfold StoreQ at h
    split at h
    · rename_i id n k hx
      obtain ⟨i, el, sz, b, z, es, ps, rfl, h1, h2, h3, h4, h5, h6, h7, hK⟩ := h
      exact runs_store_row s ho hx h1 h2 h3 h4 h5 h6 h7 N Q fun w' σ' h8 => hN _ _ w' σ' undef hK h8
    · rename_i id k hx
      obtain ⟨s', b, z, bt, cs, h1, h2, h3, h4, h5, hK⟩ := h
      exact runs_store_box s ho hx h1 h2 h3 h4 h5 N Q fun w' h8 => hN _ _ w' σ undef hK h8
    · exact h.elim
  · rename_i c ho
    split at h
    · rename_i b hc
      generalize hargs : c.args.toList = args at h
      generalize hts : c.argTypes.toList = ts at h
      unfold BuiltK at h
      split at h
      · rename_i s' x t t'
        split at h
        · rename_i id n hs
          obtain ⟨el, sz, b, z, es, xs, rfl, h1, h2, h3, h4, h5, h6, h7, h8, h9, hK⟩ := h
          exact runs_append s ho hc hargs hts hs h1 h2 h3 h4 h5 h6 h7 h8 h9 N Q fun u w' σ' h10 => hN _ _ w' σ' u hK h10
        · exact qk_sound h s N Q hN
      · rename_i d x t t'
        split at h
        · rename_i id n hs
          obtain ⟨el, b, z, es, xs, h1, h2, h3, h4, h5, h6, hK⟩ := h
          exact runs_copy s ho hc hargs hts hs h1 h2 h3 h4 h5 h6 N Q fun u w' σ' h10 => hN _ _ w' σ' u hK h10
        · exact h.elim
      · exact qk_sound h s N Q hN
    · rename_i f hc
      rcases h with h | ⟨g, as, bs, R, h1, h2, h3, hK⟩
      · exact qk_sound h s N Q hN
      · obtain ⟨vs, v1, v2, v3⟩ := callF_run (P := P) h1 (fun x => rep_ev s.env.2 x)
        obtain ⟨b1, b2⟩ := wkL_ok s.heap h2 v1 v2
        have hcl := h3.run w σ vs s.heap b1 b2
        have hrun : (execOp a.eval o).run P w = .ok (.enter g vs.toArray) w := by
          obtain ⟨cal, args, ts⟩ := c
          simp only at hc
          subst hc
          have := v3 o.type ts
          rw [h3.plain] at this
          simpa only [execOp, ho] using this
        unfold Oper.wp
        rw [hrun]
        simp only [Oper.upon]
        refine hcl.mono fun en w' ⟨u, v, H', σ', he, hR, hh, hs, hrep⟩ => ?_
        subst he
        exact hN v H' w' σ' u (hK v H' hR) ((s.next hs hh).put o.dst hrep)
    · exact h.elim
  · exact qk_sound h s N Q hN

theorem env_set_same {e : List AV} {d : Nat} {v : AV} (h : e[d]? = some v) : e.set d v = e := by
  apply List.ext_getElem?
  intro i
  rw [List.getElem?_set]
  by_cases hi : d = i
  · subst hi; simp only [if_true]; rw [if_pos (List.getElem?_eq_some_iff.1 h).1]; exact h.symm
  · rw [if_neg hi]

theorem yielded_ok {all : Array Oper} {g d : Nat} {b : Bool} (s : St E σ w H e a) (hd : (all[g]?).bind (·.dst) = some d) (he : e[d]? = some (.pv (.val (.bool b)))) : yielded all a.tmps g = some b := by
  have h1 := s.env.2 d _ he
  have h2 := rep_val h1
  have hlt : d < a.tmps.size := by rw [← s.env.1]; exact (List.getElem?_eq_some_iff.1 he).1
  have h3 : a.tmps[d]? = some (.bool b) := by
    rw [Array.getElem?_eq_getElem hlt]
    simp only [Array.getD, hlt, dif_pos] at h2
    exact congrArg some h2
  simp [yielded, hd, h3]

theorem yielded_und {all : Array Oper} {g d : Nat} (s : St E σ w H e a) (hd : (all[g]?).bind (·.dst) = some d) (he : e[d]? = some und) : yielded all a.tmps g = none := by
  have h1 := s.env.2 d _ he
  have h2 := rep_val h1
  have hlt : d < a.tmps.size := by rw [← s.env.1]; exact (List.getElem?_eq_some_iff.1 he).1
  have h3 : a.tmps[d]? = some undef := by
    rw [Array.getElem?_eq_getElem hlt]
    simp only [Array.getD, hlt, dif_pos] at h2
    exact congrArg some h2
  simp [yielded, hd, h3, undef]

theorem aOps_sound {all : Array Oper} (l : List Oper) : ∀ {m : Nat} {e : List AV} {H : List Blk} {K : List AV → List Blk → Prop} {σ : Ctx} {w : World} {a : Act} {Q : Exit → Act → World → Prop}, aOps P all m l e H K → St E σ w H e a →
    (∀ e' H' σ' w' a', K e' H' → St E σ' w' H' e' a' → Q .normal a' w') → wpList P all Q l a w := by
  induction l with
  | nil => intro m e H K σ w a Q h s hQ; exact wpList_nil (hQ e H σ w a h s)
  | cons o rest ih =>
    intro m e H K σ w a Q h s hQ
    have go : ∀ (K' : AV → List Blk → Prop), (∀ v H', K' v H' → aOps P all (m - 1) rest (eput e o.dst v) H' K) → (if 0 < m then QK P o e H K' else aOp P o e H K') → o.wp P a w (wpList P all Q rest) Q := fun K' hK' h => by
      split at h
      · exact qk_sound h s _ Q fun v H' w' σ' u hv hs => ih (hK' v H' hv) hs hQ
      · exact aOp_sound h s _ Q fun v H' w' σ' u hv hs => ih (hK' v H' hv) hs hQ
    unfold aOps at h
    cases hg : o.guard with
    | none =>
      simp only [hg] at h
      unfold wpList
      rw [if_pos (by simp [Region.wanted, hg])]
      exact .inl (go _ (fun _ _ h => h) h)
    | some gw =>
      obtain ⟨g, want⟩ := gw
      simp only [hg] at h
      cases hd : (all[g]?).bind (·.dst) with
      | none => simp only [hd] at h
      | some d =>
        simp only [hd] at h
        rcases h with ⟨b, he, h1, h2⟩ | ⟨he, h2⟩
        rotate_left
        · have hy := yielded_und s hd he
          unfold wpList
          rw [if_neg (by simp [Region.wanted, hg, hy])]
          exact ih h2 (s.put o.dst (.pv (.val undef))) hQ
        have hy := yielded_ok s hd he
        unfold wpList
        by_cases hb : b = want
        · subst hb
          have h3 := h1 rfl
          rw [env_set_same he] at h3
          rw [if_pos (by simp [Region.wanted, hg, hy])]
          exact .inl (go _ (fun _ _ h => h) h3)
        · have hb' : b = !want := by cases b <;> cases want <;> simp_all
          subst hb'
          have h3 := h2 rfl
          rw [env_set_same he] at h3
          rw [if_neg (by simp [Region.wanted, hg, hy])]
          exact ih h3 (s.put o.dst (.pv (.val undef))) hQ
end

/-- So many names came in; no others were known. -/
def EntryOk (E : Entry) (n : Nat) : Prop := E.H.length ≤ n ∧ ∀ id, E.H.length ≤ id → E.σ.cur id = none ∧ E.σ.box id = none

/-- Code, said of abstract values; 'n': so many names came in. -/
def WpA (P : Program) (n : Nat) (c : Code) (Q : Exit → List AV → List Blk → Prop) (e : List AV) (H : List Blk) : Prop :=
  ∀ (E : Entry) (σ : Ctx) (w : World) (a : Act), EntryOk E n → St E σ w H e a → c.wp P (fun x a' w' => ∃ e' H' σ', Q x e' H' ∧ St E σ' w' H' e' a') a w

def AThen (next : List AV → List Blk → Prop) (Q : Exit → List AV → List Blk → Prop) : Exit → List AV → List Blk → Prop
  | .normal, e, H => next e H
  | x, e, H => Q x e H
end Go.Proofs.Ytfpbdphdahfgbaa.Fw
