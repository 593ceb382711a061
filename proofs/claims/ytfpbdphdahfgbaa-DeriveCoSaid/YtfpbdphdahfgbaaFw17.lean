/- Code, said of abstract values: the rules. -/
import Derived.Test.YtfpbdphdahfgbaaFw16
namespace Go.Proofs.Ytfpbdphdahfgbaa.Fw
open Go Go.RowKit

section
variable {P : Program} {n : Nat} {Q : Exit → List AV → List Blk → Prop} {e : List AV} {H : List Blk}

theorem WpA.mono {c : Code} {Q' : Exit → List AV → List Blk → Prop} (h : WpA P n c Q e H) (hq : ∀ x e H, Q x e H → Q' x e H) : WpA P n c Q' e H := fun E σ w a hn s =>
  Code.wp_mono (fun x a' w' ⟨e', H', σ', h1, h2⟩ => ⟨e', H', σ', hq _ _ _ h1, h2⟩) (h E σ w a hn s)

theorem WpA.skip (h : Q .normal e H) : WpA P n .skip Q e H := fun _ σ _ _ _ s => wp_skip ⟨e, H, σ, h, s⟩
theorem WpA.label {l : Nat} (h : Q .normal e H) : WpA P n (.label l) Q e H := fun _ σ _ _ _ s => wp_label ⟨e, H, σ, h, s⟩
theorem WpA.exit {id : Nat} (h : Q (.exit id) e H) : WpA P n (.exit id) Q e H := fun _ σ _ _ _ s => wp_exit ⟨e, H, σ, h, s⟩
theorem WpA.ret (h : Q .ret e H) : WpA P n .ret Q e H := fun _ σ _ _ _ s => wp_ret ⟨e, H, σ, h, s⟩

theorem WpA.seq {x y : Code} (h : ∀ K : List AV → List Blk → Prop, (∀ e H, WpA P n y Q e H → K e H) → WpA P n x (AThen K Q) e H) : WpA P n (.seq x y) Q e H := fun E σ w a hn s => by
  refine wp_seq (Code.wp_mono (fun ex a' w' hx => ?_) (h _ (fun _ _ h => h) E σ w a hn s))
  obtain ⟨e', H', σ', h1, h2⟩ := hx
  cases ex with
  | normal => exact h1 E σ' w' a' hn h2
  | _ => exact ⟨e', H', σ', h1, h2⟩

theorem WpA.cond {c : Operand} {x y : Code} {b : Bool} (hc : ev e c = .pv (.val (.bool b))) (ht : b = true → WpA P n x Q e H) (hf : b = false → WpA P n y Q e H) : WpA P n (.cond c x y) Q e H := fun E σ w a hn s => by
  have h1 := rep_ev s.env.2 c
  rw [hc] at h1
  exact wp_cond_split (rep_val h1) (fun hb => ht hb E σ w a hn s) (fun hb => hf hb E σ w a hn s)

def AInBlock (id : Nat) (Q : Exit → List AV → List Blk → Prop) : Exit → List AV → List Blk → Prop
  | .exit id', e, H => if id' = id then Q .normal e H else Q (.exit id') e H
  | x, e, H => Q x e H

theorem WpA.block {id : Nat} {c : Code} (h : WpA P n c (AInBlock id Q) e H) : WpA P n (.block id c) Q e H := fun E σ w a hn s => by
  refine wp_block (Code.wp_mono (fun ex a' w' hx => ?_) (h E σ w a hn s))
  obtain ⟨e', H', σ', h1, h2⟩ := hx
  cases ex with
  | exit id' =>
    simp only [AInBlock] at h1
    simp only [Exit.inBlock]
    split
    · rename_i hid; rw [if_pos hid] at h1; exact ⟨e', H', σ', h1, h2⟩
    · rename_i hid; rw [if_neg hid] at h1; exact ⟨e', H', σ', h1, h2⟩
  | _ => exact ⟨e', H', σ', h1, h2⟩

/-- Slots that are told with less. -/
def Wk : List AV → List AV → Prop
  | [], [] => True
  | a :: l, b :: m => (b = .any ∨ a = b) ∧ Wk l m
  | _, _ => False

theorem wk_get : ∀ {l m : List AV}, Wk l m → l.length = m.length ∧ ∀ (t : Nat) v, m[t]? = some v → v = .any ∨ l[t]? = some v
  | [], [], _ => ⟨rfl, fun t v h => by simp at h⟩
  | a :: l, b :: m, h => by
    obtain ⟨h1, h2⟩ := wk_get (l := l) (m := m) h.2
    refine ⟨by simp [h1], fun t v ht => ?_⟩
    match t with
    | 0 => simp at ht ⊢; subst ht; exact h.1
    | t + 1 => simp at ht ⊢; exact h2 t v ht
  | [], _ :: _, h => h.elim
  | _ :: _, [], h => h.elim

theorem St.weak {E : Entry} {σ : Ctx} {w : World} {a : Act} {e' : List AV} (s : St E σ w H e a) (h : Wk e e') : St E σ w H e' a := by
  obtain ⟨h1, h2⟩ := wk_get h
  refine ⟨s.heap, s.step, ⟨by rw [← h1]; exact s.env.1, fun t v ht => ?_⟩, s.defers⟩
  rcases h2 t v ht with h3 | h3
  · subst h3; exact .any _
  · exact s.env.2 t v h3

theorem WpA.weak {c : Code} {e' : List AV} (hw : Wk e e') (h : WpA P n c Q e' H) : WpA P n c Q e H := fun E σ w a hn s => h E σ w a hn (s.weak hw)

theorem least_of {p : Nat → Prop} (h : ∃ k, p k) : ∃ k, p k ∧ ∀ j, p j → k ≤ j := by
  obtain ⟨k, hk⟩ := h
  induction k using Nat.strongRecOn with
  | _ k ih =>
    by_cases hj : ∃ j, j < k ∧ p j
    · obtain ⟨j, hj1, hj2⟩ := hj
      exact ih j hj1 hj2
    · exact ⟨k, hk, fun j hp => by
        rcases Nat.lt_or_ge j k with h1 | h1
        · exact absurd ⟨j, h1, hp⟩ hj
        · exact h1⟩

open Classical in
/-- A loop: what holds at each round's head, told by what it has come to. -/
theorem wp_loop_ix {c : Code} {R : Exit → Act → World → Prop} {ι : Type} (I : ι → Act → World → Prop) (μ : ι → Nat) (round : ∀ i a w, I i a w → c.wp P (Exit.then (fun a' w' => ∃ j, I j a' w' ∧ μ j < μ i) R) a w) {a : Act} {w : World} (i : ι) (h : I i a w) :
    (Code.loop c).wp P R a w := by
  let p : Act → World → Nat → Prop := fun a w k => ∃ i, I i a w ∧ μ i = k
  let m : Act → World → Nat := fun a w => if h : ∃ k, p a w k then (least_of h).choose else 0
  have hm : ∀ a w k, p a w k → p a w (m a w) ∧ m a w ≤ k := fun a w k hk => by
    have hx : ∃ k, p a w k := ⟨k, hk⟩
    have e1 : m a w = (least_of hx).choose := by simp only [m]; rw [dif_pos hx]
    rw [e1]
    exact ⟨(least_of hx).choose_spec.1, (least_of hx).choose_spec.2 k hk⟩
  refine wp_loop (fun a w => ∃ i, I i a w) m ⟨i, h⟩ fun a w ⟨i, hi⟩ => ?_
  obtain ⟨⟨j, hj, hjm⟩, _⟩ := hm a w (μ i) ⟨i, hi, rfl⟩
  refine Code.wp_mono (fun x a' w' hx => ?_) (round j a w hj)
  cases x with
  | normal =>
    obtain ⟨l, hl, hlt⟩ := hx
    refine ⟨⟨l, hl⟩, ?_⟩
    have := (hm a' w' (μ l) ⟨l, hl, rfl⟩).2
    omega
  | _ => exact hx

theorem WpA.loop {c : Code} {ι : Type} (I : ι → List AV → List Blk → Prop) (μ : ι → Nat) (i : ι) (h0 : I i e H)
    (round : ∀ i e H, I i e H → WpA P n c (AThen (fun e' H' => ∃ j, I j e' H' ∧ μ j < μ i) Q) e H) : WpA P n (.loop c) Q e H := fun E σ w a hn s => by
  refine wp_loop_ix (fun i a w => ∃ e H σ, I i e H ∧ St E σ w H e a) μ (fun i a w ⟨e, H, σ, hI, hs⟩ => ?_) i ⟨e, H, σ, h0, s⟩
  refine Code.wp_mono (fun x a' w' hx => ?_) (round i e H hI E σ w a hn hs)
  obtain ⟨e', H', σ', h1, h2⟩ := hx
  cases x with
  | normal =>
    obtain ⟨j, hj, hlt⟩ := h1
    exact ⟨j, ⟨e', H', σ', hj, h2⟩, hlt⟩
  | _ => exact ⟨e', H', σ', h1, h2⟩

theorem WpA.region {id : Nat} {ops : Array Oper} (h : aOps P ops 0 ops.toList e H (Q .normal)) : WpA P n (.region id ops false) Q e H := fun E σ w a hn s =>
  wp_region_list (aOps_sound _ h s fun e' H' σ' w' a' hq hs => ⟨e', H', σ', hq, hs⟩)

/-- An own row may be turned no more. -/
theorem WpA.freeze {c : Code} (id : Nat) {el : TypeId} {sz : Nat} {es : List (List PV)} (hid : H[id]? = some (.row false el sz es)) (h : WpA P n c Q e (H.set id (.row true el sz es))) : WpA P n c Q e H := fun E σ w a hn s => by
  let σ' : Ctx := { σ with F := fun b => σ.F b ∨ (σ.row id es.length).ownBlock = some b }
  have hk : Keep w σ w σ' := ⟨Nat.le_refl _, fun _ h => Or.inl h, fun _ _ => rfl, fun i c hc => ⟨c, hc, Nat.le_refl _, fun _ _ => rfl⟩, fun _ _ h => h⟩
  obtain ⟨h0, h1, h2, h3, ⟨xs, h4, h5⟩, h6⟩ := s.heap.ok id _ hid
  have hu := upd_ok (b' := .row true el sz es) s.heap hid rfl ⟨rfl, rfl, rfl⟩ (Nat.le_refl _) (fun _ _ _ => rfl) (σ' := σ') rfl (fun g hg => hg.imp (fun h => h) fun h => .inl h) (fun _ _ => rfl) (fun _ _ => rfl) hk
    ⟨h0, h1, h2, h3, ⟨xs, h4, fun k p hp => by obtain ⟨v, a1, a2, a3⟩ := h5 k p hp; exact ⟨v, a1, a2, hk.repP a3⟩⟩, fun g hg => ⟨fun _ => Or.inr hg, fun hf => absurd hf (by simp)⟩⟩ (fun g hg => .inl hg)
  exact h E σ' w a hn (s.next hu.2 hu.1)

/-- The nil slice as an own row. -/
theorem WpA.view {c : Code} (t : Nat) (el : TypeId) {sz : Nat} (hsz : 0 < sz) (ht : e[t]? = some .nil) (h : WpA P n c Q (e.set t (.row H.length 0)) (H ++ [.row false el sz []])) : WpA P n c Q e H := fun E σ w a hn s => by
  have hd := dead_ok s.heap
  have hres : ResOk w w σ (.slice none 0 0) (.row el sz []) := ⟨fun _ => False, [], fun _ h => h.elim, hsz, World.ownsRow_nil w _ _ _, by simp, fun k p h => by simp at h, fun _ h => by simp [Value.ownBlock] at h⟩
  obtain ⟨σ', h1, h2, h3, _⟩ := place_ok (id := H.length) hd.1 (by simp) (Below.refl _ _) hres
  have e1 : (H ++ [Blk.dead]).set H.length (Res.row el sz []).blk = H ++ [.row false el sz []] := by simp [Res.blk]
  rw [e1] at h1 h2
  have s1 := (s.next hd.2 hd.1).next h2 h1
  have hrep := s.env.2 t _ ht
  generalize hu : a.tmps.getD t undef = u at hrep
  cases hrep with
  | nil =>
    refine h E σ' w a hn ⟨s1.heap, s1.step, ⟨by simp [s1.env.1], fun t' v hv => ?_⟩, s1.defers⟩
    rw [List.getElem?_set] at hv
    by_cases e2 : t = t'
    · subst e2
      simp only [if_true] at hv
      split at hv
      · injection hv with hv
        subst hv
        rw [hu]
        exact h3
      · cases hv
    · rw [if_neg e2] at hv
      exact s1.env.2 t' v hv

/-- No name from 'k' on. -/
inductive Lt (k : Nat) : AV → Prop
  | any : Lt k .any
  | nil : Lt k .nil
  | pv (p : PV) : Lt k (.pv p)
  | bor (es : List (List PV)) : Lt k (.bor es)
  | tight (es : List (List PV)) : Lt k (.tight es)
  | row (id n : Nat) (h : id < k) : Lt k (.row id n)
  | sub (id n sz i j : Nat) (h : id < k) : Lt k (.sub id n sz i j)
  | rat (id n j : Nat) (h : id < k) : Lt k (.rat id n j)
  | at (cs : List PV) : Lt k (.at cs)
  | bat (id j : Nat) (h : id < k) : Lt k (.bat id j)
  | agg (cs : List AV) (h : ∀ c ∈ cs, Lt k c) : Lt k (.agg cs)
  | tup (cs : List AV) (h : ∀ c ∈ cs, Lt k c) : Lt k (.tup cs)
  | fn (f : Fn) (cs : List AV) (h : ∀ c ∈ cs, Lt k c) : Lt k (.fn f cs)

def Ctx.cut (σ : Ctx) (k : Nat) : Ctx := { σ with cur := fun i => if i < k then σ.cur i else none, box := fun i => if i < k then σ.box i else none }

theorem Lt.rep {w : World} {σ : Ctx} {k : Nat} {v : AV} {u : Value} (h : Rep w σ v u) (hl : Lt k v) : Rep w (σ.cut k) v u := by
  induction h with
  | any v => exact .any v
  | nil => exact .nil
  | pv h => exact .pv h
  | bor es A cap sz hc hm h => exact .bor es A cap sz hc hm h
  | tight es A sz hm h => exact .tight es A sz hm h
  | row id n c hc h hv => cases hl with | row _ _ hlt => exact .row (σ := σ.cut k) id n c (by simp [Ctx.cut, hlt, hc]) h hv
  | sub id n sz i j c cap A hc h hv hij hj hcap => cases hl with | sub _ _ _ _ _ hlt => exact .sub (σ := σ.cut k) id n sz i j c cap A (by simp [Ctx.cut, hlt, hc]) h hv hij hj hcap
  | rat id n kk g c hc h hg => cases hl with | rat _ _ _ hlt => exact .rat (σ := σ.cut k) id n kk g c (by simp [Ctx.cut, hlt, hc]) h hg
  | «at» cs ad hok h => exact .at cs ad hok h
  | bat id kk g hb => cases hl with | bat _ _ hlt => exact .bat (σ := σ.cut k) id kk g (by simp [Ctx.cut, hlt, hb])
  | agg cs vs hlen _ ih => cases hl with | agg _ hc => exact .agg cs vs hlen fun i p v h1 h2 => ih i p v h1 h2 (hc p (List.mem_of_getElem? h1))
  | tup cs vs hlen _ ih => cases hl with | tup _ hc => exact .tup cs vs hlen fun i p v h1 h2 => ih i p v h1 h2 (hc p (List.mem_of_getElem? h1))
  | fn f cs vs hlen _ ih => cases hl with | fn _ _ hc => exact .fn f cs vs hlen fun i p v h1 h2 => ih i p v h1 h2 (hc p (List.mem_of_getElem? h1))

def LtB (k : Nat) : Blk → Prop
  | .box _ cs => ∀ c ∈ cs, Lt k c
  | _ => True

theorem cut_ok {w : World} {σ : Ctx} {H : List Blk} (h : HeapOk w σ H) (k : Nat) (hk : ∀ b ∈ H.take k, LtB k b) : HeapOk w (σ.cut k) (H.take k) ∧ (∀ id b, id < k → BlkOk w σ id b → LtB k b → BlkOk w (σ.cut k) id b) := by
  have key : ∀ id b, id < k → BlkOk w σ id b → LtB k b → BlkOk w (σ.cut k) id b := fun id b hlt hb hl => by
    cases b with
    | row fz e sz es =>
      obtain ⟨h0, h1, h2, h3, h4, h5⟩ := hb
      exact ⟨h0, by simp [Ctx.cut, hlt, h1], by simp [Ctx.cut, h2], h3, h4, h5⟩
    | box t cs =>
      obtain ⟨h0, g, vs, h1, h2, h3, h4, h5, h6⟩ := hb
      exact ⟨by simp [Ctx.cut, h0], g, vs, by simp [Ctx.cut, hlt, h1], h2, h3, h4, h5, fun i a v ha hv => ⟨Lt.rep (h6 i a v ha hv).1 (hl a (List.mem_of_getElem? ha)), (h6 i a v ha hv).2⟩⟩
    | dead => exact ⟨by simp [Ctx.cut, hb.1], by simp [Ctx.cut, hb.2]⟩
  have hget : ∀ id b, (H.take k)[id]? = some b → id < k ∧ H[id]? = some b := fun id b hb => by
    rw [List.getElem?_take] at hb
    split at hb
    · exact ⟨by assumption, hb⟩
    · cases hb
  have hblk : ∀ id b, id < k → blkOf (σ.cut k) id b = blkOf σ id b := fun id b hlt => by cases b <;> simp [blkOf, Ctx.cut, hlt]
  refine ⟨⟨fun id b hb => key id b (hget id b hb).1 (h.ok id b (hget id b hb).2) (hk b (List.mem_of_getElem? hb)), fun id hid => ?_, fun i j b c g hi hj h1 h2 => ?_, h.lt, h.base⟩, key⟩
  · by_cases hlt : id < k
    · have : H.length ≤ id := by rw [List.length_take] at hid; omega
      have := h.out id this
      simp [Ctx.cut, this]
    · simp [Ctx.cut, hlt]
  · rw [hblk _ _ (hget i b hi).1] at h1
    rw [hblk _ _ (hget j c hj).1] at h2
    exact h.sep i j b c g (hget i b hi).2 (hget j c hj).2 h1 h2

/-- What nobody names any more is let go. -/
theorem St.drop {E : Entry} {σ : Ctx} {w : World} {a : Act} (s : St E σ w H e a) (k : Nat) (hE : E.H.length ≤ k) (hEo : ∀ id, E.H.length ≤ id → E.σ.cur id = none ∧ E.σ.box id = none) (he : ∀ v ∈ e, Lt k v) (hH : ∀ b ∈ H.take k, LtB k b) : St E (σ.cut k) w (H.take k) e a := by
  refine ⟨(cut_ok s.heap k hH).1, ⟨s.step.os, s.step.tape, s.step.output, s.step.size, s.step.heap, ⟨s.step.keep.base, s.step.keep.F, s.step.keep.cell, fun id c hc => ?_, fun id g hg => ?_⟩, s.step.new, fun b hb => ?_, s.step.base⟩, ⟨s.env.1, fun t v ht => Lt.rep (s.env.2 t v ht) (he v (List.mem_of_getElem? ht))⟩, s.defers⟩
  · have hlt : id < k := by
      rcases Nat.lt_or_ge id k with h | h
      · exact h
      · rw [(hEo id (by omega)).1] at hc; cases hc
    obtain ⟨c', h1, h2, h3⟩ := s.step.keep.cur id c hc
    exact ⟨c', by simp [Ctx.cut, hlt, h1], h2, h3⟩
  · have hlt : id < k := by
      rcases Nat.lt_or_ge id k with h | h
      · exact h
      · rw [(hEo id (by omega)).2] at hg; cases hg
    simp [Ctx.cut, hlt, s.step.keep.box id g hg]
  · obtain ⟨id, c, hc, hz, hg⟩ := hb
    rw [List.getElem?_take] at hc
    split at hc
    · rename_i hlt
      refine s.step.own b ⟨id, c, hc, hz, ?_⟩
      cases c <;> first | (simp [blkOf, Ctx.cut, hlt] at hg; done) | simpa [blkOf, Ctx.cut, hlt] using hg
    · cases hc

def lt0 (k : Nat) : AV → Bool
  | .any | .nil | .pv _ | .bor _ | .tight _ | .at _ => true
  | .row id _ | .sub id _ _ _ _ | .rat id _ _ | .bat id _ => decide (id < k)
  | _ => false
def ltA (k : Nat) : AV → Bool
  | .agg cs | .tup cs | .fn _ cs => cs.all (lt0 k)
  | v => lt0 k v
def ltBlk (k : Nat) : Blk → Bool
  | .box _ cs => cs.all (ltA k)
  | _ => true

theorem lt0_ok {k : Nat} {v : AV} (h : lt0 k v = true) : Lt k v := by
  cases v <;> simp [lt0] at h <;> constructor <;> exact h
theorem ltA_ok {k : Nat} {v : AV} (h : ltA k v = true) : Lt k v := by
  cases v with
  | agg cs => exact .agg cs fun c hc => lt0_ok (List.all_eq_true.1 h c hc)
  | tup cs => exact .tup cs fun c hc => lt0_ok (List.all_eq_true.1 h c hc)
  | fn f cs => exact .fn f cs fun c hc => lt0_ok (List.all_eq_true.1 h c hc)
  | _ => exact lt0_ok h

/-- Blocks that no slot names are let go. -/
theorem WpA.drop {c : Code} (k : Nat) (hk : n ≤ k) (he : e.all (ltA k) = true) (hH : (H.take k).all (ltBlk k) = true) (h : WpA P n c Q e (H.take k)) : WpA P n c Q e H := fun E σ w a hn s =>
  h E _ w a hn (s.drop k (Nat.le_trans hn.1 hk) hn.2 (fun v hv => ltA_ok (List.all_eq_true.1 he v hv)) fun b hb => by
    have := List.all_eq_true.1 hH b hb
    cases b with
    | box t cs => exact fun c hc => ltA_ok (List.all_eq_true.1 this c hc)
    | _ => exact trivial)
end
end Go.Proofs.Ytfpbdphdahfgbaa.Fw
