/- Contracts of calls that turn their caller's own blocks, out of bodies; answers. -/
import Derived.Test.YtfpbdphdahfgbaaFw25
namespace Go.Proofs.Ytfpbdphdahfgbaa.Fw
open Go Go.RowKit

section
variable {P : Program}

theorem RetQ.val {t : Nat} {e : List AV} {H : List Blk} {v : AV} (h : Out H (e.getD t .any) v) : RetQ [.tmp t] e H (.val v) := .inl ⟨v, h, rfl⟩
theorem RetQ.row {t : Nat} {e : List AV} {H : List Blk} {id : Nat} {el : TypeId} {sz c : Nat} {es : List (List PV)} (h : e.getD t .any = .row id c) (hc : es.length = c) (hH : H[id]? = some (.row false el sz es)) : RetQ [.tmp t] e H (.row el sz es) := .inr (.inl ⟨id, el, sz, es, by rw [hc]; exact h, hH, rfl⟩)
theorem RetQ.any {t : Nat} {e : List AV} {H : List Blk} : RetQ [.tmp t] e H (.val .any) := .inr (.inr rfl)

def RetA (rs : List ResultVar) (e : List AV) (H : List Blk) (R : AV → List Blk → Prop) : Prop :=
  match rs with
  | [] => R (.tup []) H
  | [.tmp t] => R (e.getD t .any) H
  | _ => False

theorem ACalls.of_body {f : FuncId} {fn : Func} {c : Code} {args : List AV} {H : List Blk} {R : AV → List Blk → Prop} {k : Nat} {rs : Array ResultVar} (hf : P.funcs[f]? = some fn) (hname : (fn.name == "runtime.NumGoroutine") = false) (hb : fn.body = some c) (hk : fn.ntmps = k) (hrs : fn.results = rs)
    (h : WpA P H.length c (BodyQ fun e H' => RetA rs.toList e H' R) (args ++ List.replicate (k - args.length) .any) H) : ACalls P f args H R := by
  subst hk
  subst hrs
  refine ⟨fun vs w => ?_, fun w σ vs hh hl hr => ?_⟩
  · have h1 : fn.name ≠ "runtime.NumGoroutine" := by simpa using hname
    simp [callFunc, hf, h1, hb]
  refine calls_of_wp hf hb ?_
  have hst := start_ok (E := ⟨w, σ, H⟩) (fn := fn) hh (Step.refl _ _ _) hl hr
  refine Code.wp_mono (fun x a' w' hx => ?_) (h ⟨w, σ, H⟩ _ w _ ⟨Nat.le_refl _, hh.out⟩ hst)
  obtain ⟨e', H', σ', hq, s⟩ := hx
  have key : RetA fn.results.toList e' H' R → a'.defers = [] ∧ ∃ v, (results fn a'.tmps).run P w' = .ok v w' ∧ ∃ u b H'' σ'', Ending.returned v = .returned u ∧ R b H'' ∧ HeapOk w' σ'' H'' ∧ Step w σ H w' σ'' H'' ∧ Rep w' σ'' b u := fun hq => by
    refine ⟨s.defers, ?_⟩
    have slot : ∀ t, Rep w' σ' (e'.getD t .any) (a'.tmps.getD t undef) := fun t => by
      cases ht : e'[t]? with
      | none => simp only [List.getD_eq_getElem?_getD, ht, Option.getD_none]; exact .any _
      | some v => simp only [List.getD_eq_getElem?_getD, ht, Option.getD_some]; exact s.env.2 t v ht
    generalize hrl : fn.results.toList = rl at hq
    unfold RetA at hq
    split at hq
    · exact ⟨_, results_none (Array.toList_eq_nil_iff.1 hrl) _ P w', _, _, H', σ', rfl, hq, s.heap, s.step, .tup [] [] rfl fun i p v h => by simp at h⟩
    · rename_i t
      exact ⟨_, results_tmp (list1 hrl) _ P w', _, _, H', σ', rfl, hq, s.heap, s.step, slot t⟩
    · exact hq.elim
  cases x with
  | normal => exact key hq
  | ret => exact key hq
  | _ => exact hq.elim

/-- A loop's invariant: a fact, the slots, the blocks. -/
structure At (e : List AV) (H : List Blk) (p : Prop) (t : List AV) (h : List Blk) : Prop where
  fact : p
  slots : Wk e t
  blocks : H = h

variable {n : Nat} {Q : Exit → List AV → List Blk → Prop} {e : List AV} {H : List Blk} {all : Array Oper} {l : List Oper} {m : Nat} {K : List AV → List Blk → Prop}

theorem WpA.iter {c : Code} {ι : Type} (p : ι → Prop) (t : ι → List AV) (h : ι → List Blk) (μ : ι → Nat) (i : ι) (h0 : p i) (hw : Wk e (t i)) (hH : H = h i)
    (round : ∀ i, p i → WpA P n c (AThen (fun e' H' => ∃ j, At e' H' (p j ∧ μ j < μ i) (t j) (h j)) Q) (t i) (h i)) : WpA P n (.loop c) Q e H := by
  refine WpA.loop (fun i e H => At e H (p i) (t i) (h i)) μ i ⟨h0, hw, hH⟩ fun i e H hI => ?_
  obtain ⟨h1, h2, h3⟩ := hI
  subst h3
  refine WpA.weak h2 ((round i h1).mono fun x e H hx => ?_)
  cases x with
  | normal => obtain ⟨j, ⟨⟨h4, h5⟩, h6, h7⟩⟩ := hx; exact ⟨j, ⟨h4, h6, h7⟩, h5⟩
  | _ => exact hx

/-- A middle assertion. -/
theorem WpA.mid {x y : Code} {ι : Type} (p : ι → Prop) (t : ι → List AV) (h : ι → List Blk) (hx : WpA P n x (AThen (fun e' H' => ∃ j, At e' H' (p j) (t j) (h j)) Q) e H) (hy : ∀ i, p i → WpA P n y Q (t i) (h i)) : WpA P n (.seq x y) Q e H := by
  refine WpA.seq fun K hK => hx.mono fun ex e H hx => ?_
  cases ex with
  | normal =>
    obtain ⟨j, h1, h2, h3⟩ := hx
    subst h3
    exact hK _ _ (WpA.weak h2 (hy j h1))
  | _ => exact hx

theorem aOps_split {d : Nat} {b : Bool} (he : e[d]? = some (.pv (.val (.bool b)))) (ht : b = true → aOps P all m l (e.set d (.pv (.val (.bool true)))) H K) (hf : b = false → aOps P all m l (e.set d (.pv (.val (.bool false)))) H K) : aOps P all m l e H K := by
  have e1 : e.set d (.pv (.val (.bool b))) = e := env_set_same he
  cases b with
  | true => rw [← e1]; exact ht rfl
  | false => rw [← e1]; exact hf rfl

theorem ConvL.get {as bs : List AV} (h : ConvL H as bs) : as.length = bs.length ∧ ∀ (i : Nat) c d, as[i]? = some c → bs[i]? = some d → Conv H c d := by
  induction h with
  | nil => exact ⟨rfl, fun i c d h => by simp at h⟩
  | cons h _ ih =>
    refine ⟨by simp [ih.1], fun i c d h1 h2 => ?_⟩
    match i with
    | 0 => simp at h1 h2; subst h1; subst h2; exact h
    | i + 1 => simp at h1 h2; exact ih.2 i c d h1 h2
theorem Conv.fnL (f : Fn) {cs ds : List AV} (h : ConvL H cs ds) : Conv H (.fn f cs) (.fn f ds) := .fn f cs ds h.get.1 h.get.2

def cutA (k : Nat) (e : List AV) : List AV := e.map fun v => if ltA k v then v else .any

theorem cutA_wk (k : Nat) : ∀ e : List AV, Wk e (cutA k e)
  | [] => trivial
  | v :: e => by
    refine ⟨?_, cutA_wk k e⟩
    by_cases h : ltA k v = true
    · exact .inr (if_pos h).symm
    · exact .inl (if_neg h)
theorem cutA_lt (k : Nat) (e : List AV) : (cutA k e).all (ltA k) = true := by
  rw [List.all_eq_true]
  intro v hv
  obtain ⟨u, _, rfl⟩ := List.mem_map.1 hv
  split
  · assumption
  · rfl
/-- Blocks from 'k' on are let go, with the slots that name them. -/
theorem WpA.cut {c : Code} (k : Nat) (hk : n ≤ k) (hH : (H.take k).all (ltBlk k) = true) (h : WpA P n c Q (cutA k e) (H.take k)) : WpA P n c Q e H :=
  WpA.weak (cutA_wk k e) (WpA.drop k hk (cutA_lt k e) hH h)
theorem ltA_any (k : Nat)  : ltA k (.any) = true := rfl
theorem ltA_nil (k : Nat)  : ltA k (.nil) = true := rfl
theorem ltA_pv (k : Nat) (p : PV) : ltA k (.pv p) = true := rfl
theorem ltA_bor (k : Nat) (es : List (List PV)) : ltA k (.bor es) = true := rfl
theorem ltA_tight (k : Nat) (es : List (List PV)) : ltA k (.tight es) = true := rfl
theorem ltA_at (k : Nat) (cs : List PV) : ltA k (.«at» cs) = true := rfl
theorem ltA_row (k : Nat) (id n : Nat) : ltA k (.row id n) = decide (id < k) := rfl
theorem ltA_sub (k : Nat) (id n sz i j : Nat) : ltA k (.sub id n sz i j) = decide (id < k) := rfl
theorem ltA_rat (k : Nat) (id n j : Nat) : ltA k (.rat id n j) = decide (id < k) := rfl
theorem ltA_bat (k : Nat) (id j : Nat) : ltA k (.bat id j) = decide (id < k) := rfl
theorem lt0_any (k : Nat)  : lt0 k (.any) = true := rfl
theorem lt0_nil (k : Nat)  : lt0 k (.nil) = true := rfl
theorem lt0_pv (k : Nat) (p : PV) : lt0 k (.pv p) = true := rfl
theorem lt0_bor (k : Nat) (es : List (List PV)) : lt0 k (.bor es) = true := rfl
theorem lt0_tight (k : Nat) (es : List (List PV)) : lt0 k (.tight es) = true := rfl
theorem lt0_at (k : Nat) (cs : List PV) : lt0 k (.«at» cs) = true := rfl
theorem lt0_row (k : Nat) (id n : Nat) : lt0 k (.row id n) = decide (id < k) := rfl
theorem lt0_sub (k : Nat) (id n sz i j : Nat) : lt0 k (.sub id n sz i j) = decide (id < k) := rfl
theorem lt0_rat (k : Nat) (id n j : Nat) : lt0 k (.rat id n j) = decide (id < k) := rfl
theorem lt0_bat (k : Nat) (id j : Nat) : lt0 k (.bat id j) = decide (id < k) := rfl
theorem ltA_agg (k : Nat) (cs : List AV) : ltA k (.agg cs) = cs.all (lt0 k) := rfl
theorem ltA_tup (k : Nat) (cs : List AV) : ltA k (.tup cs) = cs.all (lt0 k) := rfl
theorem ltA_fn (k : Nat) (f : Fn) (cs : List AV) : ltA k (.fn f cs) = cs.all (lt0 k) := rfl

variable {o : Oper} {Kv : AV → List Blk → Prop}
/-! The rest of a slice that is lent, or plain data. -/
theorem QK.fromBor {t el : TypeId} {x l : Operand} {z : Option Value} {sz b i : Nat} {es : List (List PV)} (ho : o.op = .slice t x (some l) none none) (hu : P.underlying t = some (.slice el)) (ht : tinfo P el = some (z, sz, b)) (hsz : 0 < sz) (hx : ev e x = .bor es) (hl : ∀ l ∈ es, l.length = sz)
    (hlo : ev e l = .pv (.val (.int .i64 i))) (hi : i ≤ es.length) (h : Kv (.bor (es.drop i)) H) : QK P o e H Kv := by
  refine ⟨.val (.bor (es.drop i)), ?_, h⟩
  simp only [QR, ho]
  exact ⟨el, z, sz, b, hu, ht, hsz, es, by rw [hx]; rfl, hl, i, es.length, hi, Nat.le_refl _, hlo, ⟨rfl, trivial⟩, trivial, by rw [hx]; exact ⟨trivial, by rw [List.take_of_length_le (Nat.le_refl _)]⟩⟩
theorem QK.fromImm {t el : TypeId} {x l : Operand} {z : Option Value} {sz b i : Nat} {es : List (List PV)} (ho : o.op = .slice t x (some l) none none) (hu : P.underlying t = some (.slice el)) (ht : tinfo P el = some (z, sz, b)) (hsz : 0 < sz) (hx : ev e x = .pv (.imm es)) (hl : ∀ l ∈ es, l.length = sz)
    (hlo : ev e l = .pv (.val (.int .i64 i))) (hi : i ≤ es.length) (h : Kv (.pv (.imm (es.drop i))) H) : QK P o e H Kv := by
  refine ⟨.val (.pv (.imm (es.drop i))), ?_, h⟩
  simp only [QR, ho]
  exact ⟨el, z, sz, b, hu, ht, hsz, es, by rw [hx]; rfl, hl, i, es.length, hi, Nat.le_refl _, hlo, ⟨rfl, trivial⟩, trivial, by rw [hx]; exact .inl ⟨trivial, by rw [List.take_of_length_le (Nat.le_refl _)]⟩⟩
end
end Go.Proofs.Ytfpbdphdahfgbaa.Fw
