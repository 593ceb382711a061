/- The machine's operation yields what is said of it: calls; all that turn nothing, together. -/
import Derived.Test.YtfpbdphdahfgbaaFw11
namespace Go.Proofs.Ytfpbdphdahfgbaa.Fw
open Go Go.RowKit

section
variable {P : Program} {a : Act} {w : World} {σ : Ctx} {H : List Blk} {o : Oper} {ρ : Operand → AV} {r : Res}

theorem keep_callee (w : World) (σ : Ctx) (G : Nat → Prop) : Keep w ((Ctx.callee σ.F 0).more G) w (σ.more G) :=
  ⟨Nat.zero_le _, fun _ h => h, fun _ _ => rfl, fun _ _ h => (nomatch h), fun _ _ h => (nomatch h)⟩

theorem resOk_callee {w' : World} {u : Value} (h : ResOk w w' (Ctx.callee σ.F 0) u r) : ResOk w w' σ u r := by
  cases r with
  | val v =>
    obtain ⟨G, hG, hr⟩ := h
    exact ⟨G, hG, (keep_callee w' σ G).rep hr⟩
  | row e sz es => exact h
  | box t cs =>
    obtain ⟨g, vs, h1, h2, h3, h4, h5⟩ := h
    refine ⟨g, vs, h1, h2, h3, h4, fun i c v a b => ⟨?_, (h5 i c v a b).2⟩⟩
    have k : Keep w' (Ctx.callee σ.F 0) w' σ := ⟨Nat.zero_le _, fun _ h => h, fun _ _ => rfl, fun _ _ h => (nomatch h), fun _ _ h => (nomatch h)⟩
    exact k.rep (h5 i c v a b).1

theorem conv_ok (hr : Refs w σ H) (hbb : σ.base ≤ w.heap.size ∧ ∀ b, σ.F b → b < w.heap.size) {b c : AV} (hc : Conv H b c) : ∀ {v : Value}, Rep w σ b v → Rep w (Ctx.callee σ.F w.heap.size) c v := by
  have ok : ∀ b, σ.ok b → (Ctx.callee σ.F w.heap.size).ok b := fun b hb => by
    rcases hb with hb | hb
    · exact .inl hb
    · exact .inr (Nat.lt_of_lt_of_le hb hbb.1)
  have bor : ∀ {x : AV} {es : List (List PV)} {v : Value}, elemsOf H x = some es → Rep w σ x v → Rep w (Ctx.callee σ.F w.heap.size) (.bor es) v := fun {x es v} he hx => by
    obtain ⟨A, cap, sz, rfl, h1, h2, h3⟩ := rep_elems hr hbb hx he
    exact .bor es A cap sz h1 h2 (h3.mono (fun _ _ => rfl) (fun _ _ => rfl) (fun b hb => .inr hb) (fun _ h => h))
  induction hc with
  | any b => exact fun _ => .any _
  | pv p => intro v h; cases h with | pv h => exact .pv h
  | bor es => exact fun h => bor (x := .bor es) rfl h
  | tight es => intro v h; cases h with | tight _ A sz hm h => exact .tight es A sz hm h
  | «at» cs => intro v h; cases h with | «at» _ ad hok h => exact .at cs ad (ok _ hok) h
  | imm_bor es => exact fun h => bor (x := .pv (.imm es)) rfl h
  | tight_bor es => exact fun h => bor (x := .tight es) rfl h
  | tight_imm es => intro v h; exact .pv (rep_toP h rfl)
  | nil => intro v h; cases h; exact .nil
  | nil_bor => exact fun h => bor (x := .nil) rfl h
  | nil_imm => intro v h; exact .pv (rep_toP h rfl)
  | row id fz e sz n es h hn => exact fun hx => bor (x := .row id n) (by simp [elemsOf, h, hn]) hx
  | sub id n sz i j es h => exact fun hx => bor (x := .sub id n sz i j) h hx
  | frozen id e sz n es h hn =>
    intro v hx
    subst hn
    cases hx with
    | row _ _ c hc hle hv =>
      rcases hr id _ h with h4 | h4
      · obtain ⟨h0, h2, _, h3, ⟨xs, ho', hx'⟩, hf⟩ := h4
        rcases ho'.2 with ⟨h5, h6⟩ | ⟨g, cap, cur, h5, _, h7, h8, h9, _⟩
        · have h0' : es = [] := List.eq_nil_of_length_eq_zero h6
          subst h0'
          rw [h5]
          exact .pv (repP_imm.2 ⟨none, 0, sz, rfl, by simp, by simp, by simp, fun h => absurd h (by simp)⟩)
        · have hg := (hf g (by rw [h5]; rfl)).1 rfl
          rw [h5]
          refine .pv (repP_imm.2 ⟨_, cap, sz, rfl, h8, h9, h3, fun _ => ⟨_, rfl, hg, fun k p hk => ?_⟩⟩)
          obtain ⟨v, a1, a2, a3⟩ := hx' k p hk
          exact ⟨v, ho'.cells (g := g) (by rw [h5]; rfl) k v a1, a2, a3⟩
      · rw [h4.1] at hc; cases hc
  | bat id k t cs ps h hp =>
    intro v hx
    cases hx with
    | bat _ _ g hbx =>
      rcases hr id _ h with h4 | h4
      · obtain ⟨_, g', vs, h1, h2, h3, h5, h6, h7⟩ := h4
        rw [hbx] at h1
        injection h1 with h1
        subst h1
        have hlt := (Array.getElem?_eq_some_iff.1 h5).1
        refine .at ps _ (.inr hlt) fun i p hpi => ?_
        obtain ⟨t1, t2⟩ := toPs_get hp
        have hi := (List.getElem?_eq_some_iff.1 hpi).1
        have hci : (cs.drop k)[i]? = some ((cs.drop k)[i]'(by omega)) := List.getElem?_eq_getElem (by omega)
        have hci' := hci
        rw [List.getElem?_drop] at hci'
        have hk : k + i < cs.length := (List.getElem?_eq_some_iff.1 hci').1
        have hvi : vs[k + i]? = some (vs[k + i]'(by omega)) := List.getElem?_eq_getElem (by omega)
        have hrep := h7 _ _ _ hci' hvi
        refine ⟨_, ?_, hrep.2, rep_toP hrep.1 (t2 i _ p hci hpi)⟩
        rw [add_at, cell_of_row _ _ _ vs.toArray t (0, 0) h5]
        simp
      · rw [h4.2] at hbx; cases hbx
  | agg cs ds hl _ ih =>
    intro v hx
    cases hx with
    | agg _ vs hl' h =>
      refine .agg ds vs (by omega) fun i p v hp hv => ?_
      have hlt := (List.getElem?_eq_some_iff.1 hp).1
      have hc : cs[i]? = some (cs[i]'(by omega)) := List.getElem?_eq_getElem (by omega)
      exact ih i _ p hc hp (h i _ v hc hv)
  | aggp cs ps hp =>
    intro v hx
    cases hx with
    | agg _ vs hl' h =>
      obtain ⟨t1, t2⟩ := toPs_get hp
      refine .pv (.agg ps vs (by omega) fun i p v hpi hv => ?_)
      have hlt := (List.getElem?_eq_some_iff.1 hpi).1
      have hc : cs[i]? = some (cs[i]'(by omega)) := List.getElem?_eq_getElem (by omega)
      exact rep_toP (h i _ v hc hv) (t2 i _ p hc hpi)
  | fn f cs ds hl _ ih =>
    intro v hx
    cases hx with
    | fn _ _ vs hl' h =>
      refine .fn f ds vs (by omega) fun i p v hp hv => ?_
      have hlt := (List.getElem?_eq_some_iff.1 hp).1
      have hc : cs[i]? = some (cs[i]'(by omega)) := List.getElem?_eq_getElem (by omega)
      exact ih i _ p hc hp (h i _ v hc hv)

theorem convL_ok (hr : Refs w σ H) (hbb : σ.base ≤ w.heap.size ∧ ∀ b, σ.F b → b < w.heap.size) {as bs : List AV} (hc : ConvL H as bs) : ∀ {vs : List Value}, as.length = vs.length → (∀ (i : Nat) c v, as[i]? = some c → vs[i]? = some v → Rep w σ c v) →
    bs.length = vs.length ∧ ∀ (i : Nat) c v, bs[i]? = some c → vs[i]? = some v → Rep w (Ctx.callee σ.F w.heap.size) c v := by
  induction hc with
  | nil => intro vs hl _; exact ⟨hl, fun i c v h => by simp at h⟩
  | cons h _ ih =>
    intro vs hl hrep
    match vs, hl with
    | v :: vs, hl =>
      obtain ⟨i1, i2⟩ := ih (vs := vs) (by simpa using hl) (fun i c v a b => hrep (i + 1) c v (by simpa using a) (by simpa using b))
      refine ⟨by simp [i1], fun i c x a b => ?_⟩
      match i with
      | 0 => simp at a b; subst a; subst b; exact conv_ok hr hbb h (hrep 0 _ _ rfl rfl)
      | i + 1 => exact i2 i c x (by simpa using a) (by simpa using b)

theorem callF_run {f : Operand} {args : Array Operand} {g : FuncId} {as : List AV} (h : CallF ρ f args = some (g, as)) (hρ : ∀ x, Rep w σ (ρ x) (a.eval x)) :
    ∃ vs : List Value, as.length = vs.length ∧ (∀ (i : Nat) c v, as[i]? = some c → vs[i]? = some v → Rep w σ c v) ∧
      ∀ (ty : TypeId) (ts : Array TypeId), (do let d ← resolve a.eval { callee := .value f, args, argTypes := ts } ty; invoke d.target d.args : Sem Next).run P w = (callFunc g vs.toArray).run P w := by
  obtain ⟨m1, m2⟩ := reps_map hρ args.toList
  have hf := hρ f
  unfold CallF at h
  split at h
  · rename_i g' fs cs e1
    rw [e1] at hf
    split at h
    · rename_i hz
      obtain ⟨hz1, hz2⟩ := hz
      obtain rfl := Array.eq_empty_of_size_eq_zero hz1
      obtain rfl := Array.eq_empty_of_size_eq_zero hz2
      injection h with h
      simp only [Prod.mk.injEq] at h
      obtain ⟨rfl, rfl⟩ := h
      refine ⟨args.toList.map a.eval, m1, m2, fun ty ts => ?_⟩
      have hf' := rep_val hf
      have e : (args.toList.map a.eval).toArray = args.map a.eval := by rw [← Array.toList_map]
      rw [e]
      simp [resolve, hf', Deferred.ofValue, invoke]
    · cases h
  · rename_i g' caps e1
    rw [e1] at hf
    injection h with h
    simp only [Prod.mk.injEq] at h
    obtain ⟨rfl, rfl⟩ := h
    generalize hu : a.eval f = u at hf
    cases hf with
    | fn _ _ cvs hl hcaps =>
      refine ⟨args.toList.map a.eval ++ cvs, by simp [hl], fun i c v h1 h2 => ?_, fun ty ts => ?_⟩
      · by_cases hlt : i < args.toList.length
        · rw [List.getElem?_append_left (by simpa using hlt)] at h1 h2
          exact m2 i c v h1 h2
        · rw [List.getElem?_append_right (by simp at hlt ⊢; omega)] at h1 h2
          simp only [List.length_map] at h1 h2
          exact hcaps _ c v h1 h2
      · have e : (args.toList.map a.eval ++ cvs).toArray = args.map a.eval ++ cvs.toArray := by
          apply Array.ext'
          simp
        rw [e]
        simp [resolve, hu, Deferred.ofValue, invoke]
  · cases h

theorem qr_call {c : Call} {f : Operand} (ho : o.op = .call c) (hcf : c.callee = .value f) (hρ : ∀ x, Rep w σ (ρ x) (a.eval x)) (hr : Refs w σ H) (hbb : σ.base ≤ w.heap.size ∧ ∀ b, σ.F b → b < w.heap.size)
    {g : FuncId} {as bs : List AV} (h1 : CallF ρ f c.args = some (g, as)) (h2 : PCalls P g bs r) (h3 : ConvL H as bs) : Runs P o a w σ r := by
  intro N Q hN
  obtain ⟨vs, v1, v2, v3⟩ := callF_run (P := P) h1 hρ
  obtain ⟨b1, b2⟩ := convL_ok hr hbb h3 v1 v2
  have hc := h2.run w σ.F vs hbb.2 b1 b2
  have hrun : (execOp a.eval o).run P w = .ok (.enter g vs.toArray) w := by
    obtain ⟨cal, args, ts⟩ := c
    simp only at hcf
    subst hcf
    have := v3 o.type ts
    rw [h2.plain] at this
    simpa only [execOp, ho] using this
  unfold Oper.wp
  rw [hrun]
  simp only [Oper.upon]
  refine hc.mono fun en w' ⟨hb, u, he, hres⟩ => ?_
  subst he
  exact hN u w' hb (resOk_callee hres)

theorem qr_sound (h : QR P o ρ H r) (hρ : ∀ x, Rep w σ (ρ x) (a.eval x)) (hr : Refs w σ H) (hbb : σ.base ≤ w.heap.size ∧ ∀ b, σ.F b → b < w.heap.size) : Runs P o a w σ r := by
  have hlt : ∀ b, σ.ok b → b < w.heap.size := fun b hb => by
    rcases hb with hb | hb
    · exact hbb.2 b hb
    · exact Nat.lt_of_lt_of_le hb hbb.1
  cases ho : o.op with
  | move x => exact qr_move (.inl ho) hρ h
  | assign x => exact qr_move (.inr ho) hρ h
  | pick c x y => exact qr_pick ho hρ h
  | binOp op t x y t' =>
    simp only [QR, ho] at h
    rcases h with h | ⟨hy, el, es, ht, hes, hpos, h⟩
    · exact qr_binOp ho hρ h
    · have hyv := hρ y
      rw [hy] at hyv
      generalize hv : a.eval y = v at hyv
      cases hyv
      obtain ⟨A, cap, sz, hu, _, _, hc⟩ := rep_elems hr hbb (hρ x) hes
      obtain ⟨ad, rfl, _⟩ := hc.2 hpos
      rcases h with ⟨rfl, rfl⟩ | ⟨rfl, rfl⟩
      · exact runs_val (u := .bool false) (by simp only [execOp, ho, hu, hv, Sem.run_bind, run_eqGuard_nil, Result.andThen_ok, run_eql_nil _ _ _ ht, Sem.run_pure]) (.pv (.val _))
      · exact runs_val (u := .bool true) (by simp only [execOp, ho, hu, hv, Sem.run_bind, run_eqGuard_nil, Result.andThen_ok, run_neq_nil _ _ _ ht, Sem.run_pure]) (.pv (.val _))
  | unOp op t x => exact qr_unOp ho hρ h
  | convert s d x => exact qr_convert ho hρ h
  | makeFunc f fs cs => exact qr_makeFunc ho hρ h
  | extract t i => exact qr_extract ho hρ h
  | nilCheck x => exact qr_nilCheck ho hρ h
  | box t x => exact qr_box ho hρ hlt h
  | alloc t => exact qr_alloc ho hlt h
  | build t ps => exact qr_build ho hρ h
  | buildSlice t n ps => exact qr_buildSlice ho hρ hlt h
  | load t x => exact qr_load ho (hρ x) hr h
  | makeSlice t l c => exact qr_makeSlice ho hρ hlt h
  | slice t x lo hi mx => exact qr_slice ho hρ hr hbb h
  | fieldAddr s x f => exact qr_fieldAddr ho hρ h
  | field t x f => exact qr_field ho hρ h
  | indexAddr t x ix => exact qr_indexAddr ho hρ hr h
  | index t x ix => exact qr_index ho hρ h
  | call c =>
    simp only [QR, ho, CallQ] at h
    cases hc : c.callee with
    | builtin b =>
      simp only [hc] at h
      by_cases hb : b = .append
      · subst hb; exact qr_append ho hc hρ hr hbb h
      · exact qr_builtin ho hc hb hρ hr hbb h
    | value f =>
      simp only [hc] at h
      obtain ⟨g, as, bs, h1, h2, h3⟩ := h
      exact qr_call ho hc hρ hr hbb h1 h2 h3
    | invoke x m => simp only [hc] at h
  | _ => simp only [QR, ho] at h
end
end Go.Proofs.Ytfpbdphdahfgbaa.Fw
