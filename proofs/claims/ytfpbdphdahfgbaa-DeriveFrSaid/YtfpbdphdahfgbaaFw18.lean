/- Contracts out of bodies. -/
import Derived.Test.YtfpbdphdahfgbaaFw17
namespace Go.Proofs.Ytfpbdphdahfgbaa.Fw
open Go Go.RowKit

/-- How a slot's value goes out: own rows are turned no more. -/
inductive Out (H : List Blk) : AV → AV → Prop
  | pv (p : PV) : Out H (.pv p) (.pv p)
  | nil : Out H .nil (.pv (.imm []))
  | tight (es : List (List PV)) : Out H (.tight es) (.pv (.imm es))
  | row (id : Nat) (fz : Bool) (e : TypeId) (sz n : Nat) (es : List (List PV)) (h : H[id]? = some (.row fz e sz es)) (hn : n = es.length) : Out H (.row id n) (.pv (.imm es))
  | sub (id n sz i j : Nat) (es : List (List PV)) (h : elemsOf H (.sub id n sz i j) = some es) : Out H (.sub id n sz i j) (.pv (.imm es))
  | agg (cs : List AV) (ds : List AV) (ps : List PV) (hl : cs.length = ds.length) (h : ∀ (i : Nat) c d, cs[i]? = some c → ds[i]? = some d → Out H c d) (hp : toPs ds = some ps) : Out H (.agg cs) (.pv (.agg ps))

/-- What a call answers. -/
def RetQ (rs : List ResultVar) (e : List AV) (H : List Blk) (r : Res) : Prop :=
  match rs with
  | [] => r = .val (.tup [])
  | [.tmp t] => (∃ v, Out H (e.getD t .any) v ∧ r = .val v) ∨ (∃ id el sz es, e.getD t .any = .row id es.length ∧ H[id]? = some (.row false el sz es) ∧ r = .row el sz es) ∨ r = .val .any
  | [.tmp t, .tmp u] => ∃ x y, Out H (e.getD t .any) x ∧ Out H (e.getD u .any) y ∧ r = .val (.tup [x, y])
  | [.tmp t, .tmp u, .tmp v] => ∃ x y z, Out H (e.getD t .any) x ∧ Out H (e.getD u .any) y ∧ Out H (e.getD v .any) z ∧ r = .val (.tup [x, y, z])
  | _ => False

/-- The post of a body. -/
def BodyQ (Q : List AV → List Blk → Prop) : Exit → List AV → List Blk → Prop
  | .normal, e, H | .ret, e, H => Q e H
  | _, _, _ => False

section
variable {P : Program}

theorem own_lt {w : World} {σ : Ctx} {H : List Blk} (h : HeapOk w σ H) {b : Nat} (ho : Own σ H b) : σ.base ≤ b ∧ b < w.heap.size := by
  obtain ⟨id, c, hc, _, hg⟩ := ho
  exact (h.ok id c hc).lt hg

/-- Everything that is the call's own, as turned no more. -/
theorem out_rep {w : World} {σ : Ctx} {H : List Blk} (h : HeapOk w σ H) {F' : Nat → Prop} (hF : ∀ b, σ.F b → F' b) (hO : ∀ b, Own σ H b → F' b) {a v : AV} (ho : Out H a v) : ∀ {u : Value}, Rep w σ a u → ∃ p, v = .pv p ∧ RepP w F' p u := by
  have bbb : σ.base ≤ w.heap.size ∧ ∀ b, σ.F b → b < w.heap.size := ⟨h.base, h.lt⟩
  have row : ∀ {id : Nat} {fz : Bool} {el : TypeId} {sz : Nat} {es : List (List PV)}, H[id]? = some (.row fz el sz es) → ∃ A cap, σ.row id es.length = .slice A es.length cap ∧ es.length ≤ cap ∧ cap ≤ maxLen ∧ Cells w F' F' A es sz := fun {id fz el sz es} hid => by
    obtain ⟨h0, h1, h2, h3, ⟨xs, ho', hx'⟩, hf⟩ := h.ok id _ hid
    rcases ho'.2 with ⟨h5, h6⟩ | ⟨g, cap, cur, h5, _, h7, h8, h9, _⟩
    · have h0' : es = [] := List.eq_nil_of_length_eq_zero h6
      subst h0'
      exact ⟨none, 0, by rw [h5]; rfl, by simp, by simp, by simp, fun h => absurd h (by simp)⟩
    · refine ⟨_, cap, h5, h8, h9, h3, fun _ => ⟨_, rfl, ?_, fun k p hk => ?_⟩⟩
      · cases fz with
        | true => exact hF _ ((hf g (by rw [h5]; rfl)).1 rfl)
        | false => exact hO _ ⟨id, _, hid, rfl, by rw [blkOf, h5]; rfl⟩
      · obtain ⟨v, a1, a2, a3⟩ := hx' k p hk
        exact ⟨v, ho'.cells (g := g) (by rw [h5]; rfl) k v a1, a2, a3.mono (fun _ _ => rfl) hF⟩
  induction ho with
  | pv p => intro u hr; cases hr with | pv hr => exact ⟨p, rfl, hr.mono (fun _ _ => rfl) hF⟩
  | nil => intro u hr; cases hr; exact ⟨_, rfl, repP_imm.2 ⟨none, 0, 0, rfl, by simp, by simp, by simp, fun h => absurd h (by simp)⟩⟩
  | tight es => intro u hr; exact ⟨_, rfl, (rep_toP hr rfl).mono (fun _ _ => rfl) hF⟩
  | row id fz el sz n es hid hn =>
    intro u hr
    subst hn
    cases hr with
    | row _ _ c hc hle hv =>
      obtain ⟨A, cap, h1, h2, h3, h4⟩ := row hid
      rw [h1]
      exact ⟨_, rfl, repP_imm.2 ⟨A, cap, sz, rfl, h2, h3, h4⟩⟩
  | sub id n sz i j es hes =>
    intro u hr
    cases hr with
    | sub _ _ _ _ _ c cap A hc hle hv hij hj hcap =>
      simp only [elemsOf] at hes
      cases hb : H[id]? with
      | none => simp [hb] at hes
      | some b =>
        cases b with
        | row fz el sz' es' =>
          simp only [hb] at hes
          split at hes
          · rename_i hn
            injection hes with hes
            subst hes
            obtain ⟨rfl, rfl⟩ := hn
            obtain ⟨A', cap', h1, h2, h3, h4⟩ := row hb
            rw [hv] at h1
            injection h1 with h1a h1b h1c
            subst h1a
            subst h1c
            have hlen : ((es'.take j).drop i).length = j - i := by rw [List.length_drop, List.length_take]; omega
            refine ⟨_, rfl, repP_imm.2 ⟨_, _, sz, by rw [hlen], by rw [hlen]; omega, by omega, cells_cut h4 hij hj (by omega)⟩⟩
          · cases hes
        | _ => simp [hb] at hes
  | agg cs ds ps hl _ hp ih =>
    intro u hr
    cases hr with
    | agg _ vs hlen hc =>
      obtain ⟨t1, t2⟩ := toPs_get hp
      refine ⟨_, rfl, .agg ps vs (by omega) fun i p v hpi hv => ?_⟩
      have hlt := (List.getElem?_eq_some_iff.1 hpi).1
      have h1 : cs[i]? = some (cs[i]'(by omega)) := List.getElem?_eq_getElem (by omega)
      have h2 : ds[i]? = some (ds[i]'(by omega)) := List.getElem?_eq_getElem (by omega)
      obtain ⟨q, hq, hrep⟩ := ih i _ _ h1 h2 (hc i _ v h1 hv)
      have := t2 i _ p h2 hpi
      rw [hq] at this
      simp [toP] at this
      subst this
      exact hrep

/-- The slots at a call's begin. -/
def slots0 (fn : Func) (args : List AV) : List AV := args ++ List.replicate (fn.ntmps - args.length) .any

theorem start_ok {E : Entry} {w : World} {σ : Ctx} {H : List Blk} {fn : Func} {args : List AV} {vs : List Value} (hh : HeapOk w σ H) (hE : Step E.w E.σ E.H w σ H) (hl : args.length = vs.length) (hr : ∀ (i : Nat) a v, args[i]? = some a → vs[i]? = some v → Rep w σ a v) :
    St E σ w H (slots0 fn args) { tmps := vs.toArray ++ Array.replicate (fn.ntmps - vs.toArray.size) undef, defers := [] } := by
  refine ⟨hh, hE, ⟨by simp [slots0, hl], fun t v ht => ?_⟩, rfl⟩
  simp only [slots0] at ht
  by_cases hlt : t < args.length
  · rw [List.getElem?_append_left hlt] at ht
    have hv : vs[t]? = some (vs[t]'(by omega)) := List.getElem?_eq_getElem (by omega)
    have := hr t v _ ht hv
    have e1 : (vs.toArray ++ Array.replicate (fn.ntmps - vs.toArray.size) undef).getD t undef = vs[t]'(by omega) := by
      simp only [Array.getD_eq_getD_getElem?]
      rw [Array.getElem?_append_left (by simp; omega)]
      simp [hv]
    simp only [e1]
    exact this
  · rw [List.getElem?_append_right (by omega), List.getElem?_replicate] at ht
    split at ht
    · injection ht with ht; subst ht; exact .any _
    · cases ht

theorem PCalls.of_body {f : FuncId} {fn : Func} {c : Code} {args : List AV} {r : Res} {k : Nat} {rs : Array ResultVar} (hf : P.funcs[f]? = some fn) (hname : (fn.name == "runtime.NumGoroutine") = false) (hb : fn.body = some c) (hk : fn.ntmps = k) (hrs : fn.results = rs)
    (h : WpA P 0 c (BodyQ fun e H => RetQ rs.toList e H r) (args ++ List.replicate (k - args.length) .any) []) : PCalls P f args r := by
  subst hk
  subst hrs
  refine ⟨fun vs w => ?_, fun w F vs hF hl hr => ?_⟩
  · have h1 : fn.name ≠ "runtime.NumGoroutine" := by simpa using hname
    simp [callFunc, hf, h1, hb]
  refine calls_of_wp hf hb ?_
  have hh : HeapOk w (Ctx.callee F w.heap.size) [] := ⟨fun id b h => by simp at h, fun _ _ => ⟨rfl, rfl⟩, fun i j b c g h => by simp at h, hF, Nat.le_refl _⟩
  have hst := start_ok (E := ⟨w, Ctx.callee F w.heap.size, []⟩) (fn := fn) hh (Step.refl _ _ _) hl hr
  refine Code.wp_mono (fun x a' w' hx => ?_) (h ⟨w, Ctx.callee F w.heap.size, []⟩ _ w _ ⟨Nat.le_refl _, fun _ _ => ⟨rfl, rfl⟩⟩ hst)
  obtain ⟨e', H', σ', hq, s⟩ := hx
  have hbel : Below w.heap.size w w' := ⟨s.step.os, s.step.tape, s.step.output, s.step.size, fun k hk => s.step.heap k hk (fun ⟨id, b, hb, _⟩ => by simp at hb)⟩
  have hbase : σ'.base = w.heap.size := s.step.base
  have hnew : ∀ b, σ'.F b → F b ∨ w.heap.size ≤ b := fun b hb => by
    rcases s.step.new b hb with h | ⟨id, c, hc, _⟩ | h
    · exact .inl h
    · simp at hc
    · exact .inr h
  have key : RetQ fn.results.toList e' H' r → a'.defers = [] ∧ ∃ v, (results fn a'.tmps).run P w' = .ok v w' ∧ (Below w.heap.size w w' ∧ ∃ u, Ending.returned v = .returned u ∧ ResOk w w' (Ctx.callee F 0) u r) := fun hq => by
    refine ⟨s.defers, ?_⟩
    -- what goes out
    let G : Nat → Prop := fun b => (σ'.F b ∨ Own σ' H' b) ∧ w.heap.size ≤ b
    have hG : ∀ b, G b → w.heap.size ≤ b ∧ b < w'.heap.size := fun b ⟨h1, h2⟩ => ⟨h2, by
      rcases h1 with h1 | h1
      · exact s.heap.lt b h1
      · exact (own_lt s.heap h1).2⟩
    have hFG : ∀ b, σ'.F b → F b ∨ G b := fun b hb => (hnew b hb).imp (fun h => h) fun h => ⟨.inl hb, h⟩
    have hOG : ∀ b, Own σ' H' b → F b ∨ G b := fun b hb => .inr ⟨.inr hb, by have := (own_lt s.heap hb).1; omega⟩
    have slot : ∀ t, Rep w' σ' (e'.getD t .any) (a'.tmps.getD t undef) := fun t => by
      cases ht : e'[t]? with
      | none => simp only [List.getD_eq_getElem?_getD, ht, Option.getD_none]; exact .any _
      | some v => simp only [List.getD_eq_getElem?_getD, ht, Option.getD_some]; exact s.env.2 t v ht
    have out : ∀ {t : Nat} {v : AV}, Out H' (e'.getD t .any) v → Rep w' ((Ctx.callee F 0).more G) v (a'.tmps.getD t undef) := fun {t v} ho => by
      obtain ⟨p, rfl, hp⟩ := out_rep s.heap (F' := fun b => F b ∨ G b) hFG hOG ho (slot t)
      exact .pv hp
    generalize hrl : fn.results.toList = rl at hq
    unfold RetQ at hq
    split at hq
    · subst hq
      refine ⟨_, results_none (Array.toList_eq_nil_iff.1 hrl) _ P w', hbel, _, rfl, fun _ => False, fun _ h => h.elim, .tup [] [] rfl fun i p v h => by simp at h⟩
    · rename_i t
      refine ⟨_, results_tmp (list1 hrl) _ P w', hbel, _, rfl, ?_⟩
      rcases hq with ⟨v, ho, rfl⟩ | ⟨id, el, sz, es, he, hid, rfl⟩ | rfl
      rotate_right
      · exact ⟨fun _ => False, fun _ h => h.elim, .any _⟩
      · exact ⟨G, hG, out ho⟩
      · have hs := slot t
        rw [he] at hs
        generalize hu : a'.tmps.getD t undef = u at hs
        cases hs with
        | row _ _ c hc hle hv =>
          obtain ⟨h0, h1, h2, h3, ⟨xs, ho', hx'⟩, hf'⟩ := s.heap.ok id _ hid
          refine ⟨fun b => σ'.F b ∧ w.heap.size ≤ b, xs, fun b ⟨h4, h5⟩ => ⟨h5, s.heap.lt b h4⟩, h0, by rw [← hbase]; exact ho', h3, fun k p hk => ?_, fun g hg hf => (hf' g hg).2 rfl hf.1⟩
          obtain ⟨v, a1, a2, a3⟩ := hx' k p hk
          exact ⟨v, a1, a2, a3.mono (fun _ _ => rfl) fun b hb => (hnew b hb).imp (fun h => h) fun h => ⟨hb, h⟩⟩
    · rename_i t u
      obtain ⟨x, y, hx, hy, rfl⟩ := hq
      refine ⟨_, results_tmp2 (list2 hrl) _ P w', hbel, _, rfl, G, hG, ?_⟩
      exact .tup [x, y] [_, _] rfl fun i p v h1 h2 => by
        match i with
        | 0 => simp at h1 h2; subst h1; subst h2; simpa using out hx
        | 1 => simp at h1 h2; subst h1; subst h2; simpa using out hy
        | i + 2 => simp at h1
    · rename_i t u v
      obtain ⟨x, y, z, hx, hy, hz, rfl⟩ := hq
      have hres' : fn.results = #[.tmp t, .tmp u, .tmp v] := by apply Array.ext'; simpa using hrl
      refine ⟨_, results_tmp3 hres' _ P w', hbel, _, rfl, G, hG, ?_⟩
      exact .tup [x, y, z] [_, _, _] rfl fun i p v h1 h2 => by
        match i with
        | 0 => simp at h1 h2; subst h1; subst h2; simpa using out hx
        | 1 => simp at h1 h2; subst h1; subst h2; simpa using out hy
        | 2 => simp at h1 h2; subst h1; subst h2; simpa using out hz
        | i + 3 => simp at h1
    · exact hq.elim
  cases x with
  | normal => exact key hq
  | ret => exact key hq
  | _ => exact hq.elim
end
end Go.Proofs.Ytfpbdphdahfgbaa.Fw
