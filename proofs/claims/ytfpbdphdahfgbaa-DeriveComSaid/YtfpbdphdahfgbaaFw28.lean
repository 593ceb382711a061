/- More rules: text that is jumped out of, results that lie in memory, copy. -/
import Derived.Test.YtfpbdphdahfgbaaFw27
import Derived.Scope
namespace Go.Proofs.Ytfpbdphdahfgbaa.Fw
open Go Go.RowKit

section
variable {P : Program} {n : Nat} {Q : Exit → List AV → List Blk → Prop} {e : List AV} {H : List Blk}

def ANoGoto (Q : Exit → List AV → List Blk → Prop) : Exit → List AV → List Blk → Prop
  | .goto _, _, _ => False
  | x, e, H => Q x e H

theorem WpA.scope {c : Code} (h : WpA P n c (ANoGoto Q) e H) : WpA P n (.scope c) Q e H := fun E σ w a hn s => by
  refine wp_scope_straight (Code.wp_mono (fun x a' w' hx => ?_) (h E σ w a hn s))
  obtain ⟨e', H', σ', h1, h2⟩ := hx
  cases x with
  | goto l => exact h1.elim
  | _ => exact ⟨e', H', σ', h1, h2⟩

/-- A slot that holds an own row holds plain data from here on; the row is turned no more. -/
theorem WpA.settle {c : Code} (t id : Nat) {k : Nat} {fz : Bool} {el : TypeId} {sz : Nat} {es : List (List PV)} (ht : e[t]? = some (.row id k)) (hid : H[id]? = some (.row fz el sz es)) (hk : es.length = k) (h : WpA P n c Q (e.set t (.pv (.imm es))) (H.set id (.row true el sz es))) : WpA P n c Q e H := by
  have key : ∀ {H : List Blk}, H[id]? = some (.row true el sz es) → WpA P n c Q (e.set t (.pv (.imm es))) H → WpA P n c Q e H := fun {H} hid h E σ w a hn s => by
    have hrep := s.env.2 t _ ht
    have hp := wk1_ok s.heap (Wk1.frozen id el sz k es hid hk.symm) hrep
    refine h E σ w a hn ⟨s.heap, s.step, ⟨by simp [s.env.1], fun t' v hv => ?_⟩, s.defers⟩
    rw [List.getElem?_set] at hv
    by_cases e2 : t = t'
    · subst e2
      simp only [if_true] at hv
      split at hv
      · injection hv with hv
        subst hv
        exact hp
      · cases hv
    · rw [if_neg e2] at hv
      exact s.env.2 t' v hv
  have hset : (H.set id (.row true el sz es))[id]? = some (.row true el sz es) := by
    rw [List.getElem?_set]; simp [(List.getElem?_eq_some_iff.1 hid).1]
  cases fz with
  | false => exact WpA.freeze id hid (key hset h)
  | true =>
    have hs : H.set id (.row true el sz es) = H := by
      apply List.ext_getElem?
      intro j
      rw [List.getElem?_set]
      by_cases hj : id = j
      · subst hj; simp only [if_true]; rw [if_pos (List.getElem?_eq_some_iff.1 hid).1]; exact hid.symm
      · rw [if_neg hj]
    rw [hs] at h
    exact key hid h

/-- A slot, told as plain data. -/
theorem WpA.plain {c : Code} (t : Nat) {v : AV} {p : PV} (ht : e[t]? = some v) (hp : toP v = some p) (h : WpA P n c Q (e.set t (.pv p)) H) : WpA P n c Q e H := fun E σ w a hn s => by
  have hrep := rep_toP (s.env.2 t _ ht) hp
  refine h E σ w a hn ⟨s.heap, s.step, ⟨by simp [s.env.1], fun t' v hv => ?_⟩, s.defers⟩
  rw [List.getElem?_set] at hv
  by_cases e2 : t = t'
  · subst e2
    simp only [if_true] at hv
    split at hv
    · injection hv with hv
      subst hv
      exact .pv hrep
    · cases hv
  · rw [if_neg e2] at hv
    exact s.env.2 t' v hv

/-- A copy over an own row. -/
theorem aOp.copy {o : Oper} {Kv : AV → List Blk → Prop} {t t' el : TypeId} {d x : Operand} {id c b : Nat} {z : Option Value} {es xs : List (List PV)} (ho : o.op = .call ⟨.builtin .copy, #[d, x], #[t, t']⟩) (hd : ev e d = .row id c) (hH : H[id]? = some (.row false el 1 es)) (hc : es.length = c) (hxs : elemsOf H (ev e x) = some xs) (hl : ∀ l ∈ xs, l.length = 1)
    (hu : P.underlying t = some (.slice el)) (ht : tinfo P el = some (z, 1, b)) (h : Kv (.pv (.val (.int .i64 (min xs.length c : Nat)))) (H.set id (.row false el 1 (xs.take c ++ es.drop xs.length)))) : aOp P o e H Kv := by
  unfold aOp
  simp only [ho, BuiltK, hd]
  exact ⟨el, b, z, es, xs, hH, hc, hxs, hl, hu, ht, h⟩

inductive OutL (H : List Blk) : List AV → List AV → Prop
  | nil : OutL H [] []
  | cons {a b : AV} {l m : List AV} (h : Out H a b) (t : OutL H l m) : OutL H (a :: l) (b :: m)
theorem OutL.get {as bs : List AV} (h : OutL H as bs) : as.length = bs.length ∧ ∀ (i : Nat) c d, as[i]? = some c → bs[i]? = some d → Out H c d := by
  induction h with
  | nil => exact ⟨rfl, fun i c d h => by simp at h⟩
  | cons h _ ih =>
    refine ⟨by simp [ih.1], fun i c d h1 h2 => ?_⟩
    match i with
    | 0 => simp at h1 h2; subst h1; subst h2; exact h
    | i + 1 => simp at h1 h2; exact ih.2 i c d h1 h2
theorem Out.aggL {cs ds : List AV} {ps : List PV} (h : OutL H cs ds) (hp : toPs ds = some ps) : Out H (.agg cs) (.pv (.agg ps)) := .agg cs ds ps h.get.1 h.get.2 hp

/-- One result, as it goes out. -/
def RetOne (P : Program) (e : List AV) (H : List Blk) : ResultVar → AV → Prop
  | .tmp t, v => Out H (e.getD t .any) v
  | .cell t ty, v => ∃ id bt cs, e.getD t .any = .bat id 0 ∧ H[id]? = some (.box bt cs) ∧ isAggT P ty = some true ∧ ∃ z b, tinfo P ty = some (z, cs.length, b) ∧ Out H (.agg cs) v

/-- What a call answers, in memory or not. -/
def RetG (P : Program) (rs : List ResultVar) (e : List AV) (H : List Blk) (r : Res) : Prop :=
  match rs with
  | [x] => ∃ v, RetOne P e H x v ∧ r = .val v
  | [x, .tmp y] => ∃ v u, RetOne P e H x v ∧ Out H (e.getD y .any) u ∧ r = .val (.tup [v, u])
  | _ => False

theorem results_cell1 {fn : Func} {p : Tmp} {ty : TypeId} (h : fn.results = #[.cell p ty]) {tmps : Array Value} {w : World} {ad : Addr} {v : Value} (hp : tmps.getD p undef = .pointer (some ad)) (hv : (loadVar ty ad).run P w = .ok v w) : (results fn tmps).run P w = .ok v w := by
  have hp' : tmps[p]?.getD undef = .pointer (some ad) := by simpa using hp
  simp [results, h, hp', asAddr, hv]
theorem results_cell2 {fn : Func} {p u : Tmp} {ty : TypeId} (h : fn.results = #[.cell p ty, .tmp u]) {tmps : Array Value} {w : World} {ad : Addr} {v : Value} (hp : tmps.getD p undef = .pointer (some ad)) (hv : (loadVar ty ad).run P w = .ok v w) : (results fn tmps).run P w = .ok (.tuple #[v, tmps.getD u undef]) w := by
  have hp' : tmps[p]?.getD undef = .pointer (some ad) := by simpa using hp
  simp [results, h, hp', asAddr, hv]

theorem PCalls.of_bodyG {f : FuncId} {fn : Func} {c : Code} {args : List AV} {r : Res} {k : Nat} {rs : Array ResultVar} (hf : P.funcs[f]? = some fn) (hname : (fn.name == "runtime.NumGoroutine") = false) (hb : fn.body = some c) (hk : fn.ntmps = k) (hrs : fn.results = rs)
    (h : WpA P 0 c (BodyQ fun e H => RetG P rs.toList e H r) (args ++ List.replicate (k - args.length) .any) []) : PCalls P f args r := by
  subst hk
  subst hrs
  refine ⟨fun vs w => ?_, fun w F vs hF hl hr => ?_⟩
  · have h1 : fn.name ≠ "runtime.NumGoroutine" := by simpa using hname
    simp [callFunc, hf, h1, hb]
  refine calls_of_wp hf hb ?_
  have hh : HeapOk w (Ctx.callee F w.heap.size) [] := ⟨fun id b h => by simp at h, fun _ _ => ⟨rfl, rfl⟩, fun i j b c g h => by simp at h, hF, Nat.le_refl _⟩
  have hst := start_ok (E := ⟨w, Ctx.callee F w.heap.size, []⟩) (fn := fn) hh (Step.refl _ _ _) hl hr
  refine Code.wp_mono (fun x a' w' hx => ?_) (h ⟨w, Ctx.callee F w.heap.size, []⟩ _ w _ ⟨Nat.le_refl _, fun _ _ => ⟨rfl, rfl⟩⟩ hst)
  obtain ⟨e', H', σ', hq, s⟩ := hx
  have hbel : Below w.heap.size w w' := ⟨s.step.os, s.step.tape, s.step.output, s.step.size, fun k hk => s.step.heap k hk (fun ⟨id, b, hb, _⟩ => by simp at hb)⟩
  have hbase : σ'.base = w.heap.size := s.step.base
  have hnew : ∀ b, σ'.F b → F b ∨ w.heap.size ≤ b := fun b hb => by
    rcases s.step.new b hb with h | ⟨id, c, hc, _⟩ | h
    · exact .inl h
    · simp at hc
    · exact .inr h
  have key : RetG P fn.results.toList e' H' r → a'.defers = [] ∧ ∃ v, (results fn a'.tmps).run P w' = .ok v w' ∧ (Below w.heap.size w w' ∧ ∃ u, Ending.returned v = .returned u ∧ ResOk w w' (Ctx.callee F 0) u r) := fun hq => by
    refine ⟨s.defers, ?_⟩
    let G : Nat → Prop := fun b => (σ'.F b ∨ Own σ' H' b) ∧ w.heap.size ≤ b
    have hG : ∀ b, G b → w.heap.size ≤ b ∧ b < w'.heap.size := fun b ⟨h1, h2⟩ => ⟨h2, by
      rcases h1 with h1 | h1
      · exact s.heap.lt b h1
      · exact (own_lt s.heap h1).2⟩
    have hFG : ∀ b, σ'.F b → F b ∨ G b := fun b hb => (hnew b hb).imp (fun h => h) fun h => ⟨.inl hb, h⟩
    have hOG : ∀ b, Own σ' H' b → F b ∨ G b := fun b hb => .inr ⟨.inr hb, by have := (own_lt s.heap hb).1; omega⟩
    have slot : ∀ t, Rep w' σ' (e'.getD t .any) (a'.tmps.getD t undef) := fun t => by
      cases ht : e'[t]? with
      | none => simp only [List.getD_eq_getElem?_getD, ht, Option.getD_none]; exact .any _
      | some v => simp only [List.getD_eq_getElem?_getD, ht, Option.getD_some]; exact s.env.2 t v ht
    have out : ∀ {b v : AV} {u : Value}, Rep w' σ' b u → Out H' b v → Rep w' ((Ctx.callee F 0).more G) v u := fun {b v u} hu ho => by
      obtain ⟨p, rfl, hp⟩ := out_rep s.heap (F' := fun b => F b ∨ G b) hFG hOG ho hu
      exact .pv hp
    have cell : ∀ {t : Tmp} {ty : TypeId} {v : AV}, RetOne P e' H' (.cell t ty) v → ∃ ad u, a'.tmps.getD t undef = .pointer (some ad) ∧ (loadVar ty ad).run P w' = .ok u w' ∧ Rep w' ((Ctx.callee F 0).more G) v u := fun {t ty v} ho => by
      obtain ⟨id, bt, cs, h1, h2, h3, z, b, h4, h5⟩ := ho
      have hs := slot t
      rw [h1] at hs
      generalize hu : a'.tmps.getD t undef = u at hs
      cases hs with
      | bat _ _ g hb =>
        obtain ⟨_, g', vs, k1, _, _, k4, k5, k6⟩ := s.heap.ok id _ h2
        rw [hb] at k1
        injection k1 with k1
        subst k1
        refine ⟨_, .agg vs.toArray, rfl, run_loadVar_agg h3 (by rw [← k5]; exact h4) (fun j v hv => ?_), out (.agg cs vs k5 fun i p v a b => (k6 i p v a b).1) h5⟩
        rw [add_at, cell_of_row w' g (0 + j) vs.toArray bt (0, 0) k4, Nat.zero_add]
        simpa using hv
    generalize hrl : fn.results.toList = rl at hq
    unfold RetG at hq
    split at hq
    · rename_i x
      obtain ⟨v, h1, rfl⟩ := hq
      cases x with
      | tmp t => exact ⟨_, results_tmp (list1 hrl) _ P w', hbel, _, rfl, G, hG, out (slot t) h1⟩
      | cell t ty =>
        obtain ⟨ad, u, h2, h3, h4⟩ := cell h1
        exact ⟨_, results_cell1 (by apply Array.ext'; simpa using hrl) h2 h3, hbel, _, rfl, G, hG, h4⟩
    · rename_i x y
      obtain ⟨v, u, h1, hy, rfl⟩ := hq
      · cases x with
        | tmp t =>
          refine ⟨_, results_tmp2 (list2 hrl) _ P w', hbel, _, rfl, G, hG, ?_⟩
          exact .tup [v, u] [_, _] rfl fun i p x h1' h2' => by
            match i with
            | 0 => simp at h1' h2'; subst h1'; subst h2'; simpa using out (slot _) h1
            | 1 => simp at h1' h2'; subst h1'; subst h2'; simpa using out (slot _) hy
            | i + 2 => simp at h1'
        | cell t ty =>
          obtain ⟨ad, x, h2, h3, h4⟩ := cell h1
          refine ⟨_, results_cell2 (by apply Array.ext'; simpa using hrl) h2 h3, hbel, _, rfl, G, hG, ?_⟩
          exact .tup [v, u] [_, _] rfl fun i p y h5 h6 => by
            match i with
            | 0 => simp at h5 h6; subst h5; subst h6; exact h4
            | 1 => simp at h5 h6; subst h5; subst h6; simpa using out (slot _) hy
            | i + 2 => simp at h5
    · exact hq.elim
  cases x with
  | normal => exact key hq
  | ret => exact key hq
  | _ => exact hq.elim
end
end Go.Proofs.Ytfpbdphdahfgbaa.Fw
