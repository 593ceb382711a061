/- The machine's operation yields what is said of it: values. -/
import Derived.Test.YtfpbdphdahfgbaaFw4
namespace Go.Proofs.Ytfpbdphdahfgbaa.Fw
open Go Go.RowKit

def Runs (P : Program) (o : Oper) (a : Act) (w : World) (σ : Ctx) (r : Res) : Prop :=
  ∀ (N : Act → World → Prop) (Q : Exit → Act → World → Prop), (∀ u w', Below w.heap.size w w' → ResOk w w' σ u r → N (a.put o.dst u) w') → o.wp P a w N Q

theorem more_rep {w : World} {σ : Ctx} (G : Nat → Prop) {v : AV} {u : Value} (h : Rep w σ v u) : Rep w (σ.more G) v u :=
  Keep.rep (w := w) (w' := w) (σ := σ) (σ' := σ.more G) ⟨Nat.le_refl _, fun _ h => Or.inl h, fun _ _ => rfl, fun _ c h => ⟨c, h, Nat.le_refl _, fun _ _ => rfl⟩, fun _ _ h => h⟩ h

theorem runs_of {P : Program} {o : Oper} {a : Act} {w w' : World} {σ : Ctx} {r : Res} {u : Value} (h : (execOp a.eval o).run P w = .ok (.value u) w') (hb : Below w.heap.size w w') (hr : ResOk w w' σ u r) : Runs P o a w σ r := by
  intro N Q hN
  unfold Oper.wp
  rw [h]
  exact hN u w' hb hr

theorem runs_val {P : Program} {o : Oper} {a : Act} {w : World} {σ : Ctx} {v : AV} {u : Value} (h : (execOp a.eval o).run P w = .ok (.value u) w) (hr : Rep w σ v u) : Runs P o a w σ (.val v) :=
  runs_of h (Below.refl _ _) ⟨fun _ => False, fun _ h => h.elim, more_rep _ hr⟩

theorem rep_val {w : World} {σ : Ctx} {v u : Value} (h : Rep w σ (.pv (.val v)) u) : u = v := by
  cases h with
  | pv h => cases h; rfl

theorem rep_cells {w : World} {σ : Ctx} {v : AV} {u : Value} (h : Rep w σ v u) (ho : okCells v = true) :
    (cellsA v).length = u.cells.toList.length ∧ ∀ (i : Nat) c x, (cellsA v)[i]? = some c → u.cells.toList[i]? = some x → Rep w σ c x ∧ x.oneCell' = true := by
  have one : ∀ {v : AV} {u : Value}, Rep w σ v u → v.one = true → cellsA v = [v] → (cellsA v).length = u.cells.toList.length ∧ ∀ (i : Nat) c x, (cellsA v)[i]? = some c → u.cells.toList[i]? = some x → Rep w σ c x ∧ x.oneCell' = true := by
    intro v u h ho hc
    have h1 := rep_one h ho
    have hu : u.cells = #[u] := by cases u <;> first | rfl | (simp [Value.oneCell'] at h1)
    rw [hc, hu]
    refine ⟨rfl, fun i c x h2 h3 => ?_⟩
    match i with
    | 0 => simp at h2 h3; subst h2; subst h3; exact ⟨h, h1⟩
    | i + 1 => simp at h2
  cases h with
  | agg cs vs hl h =>
    simp only [okCells, List.all_eq_true] at ho
    refine ⟨hl, fun i c x h2 h3 => ?_⟩
    simp only [cellsA, Value.cells] at h2 h3
    have hr := h i c x h2 h3
    exact ⟨hr, rep_one hr (ho c (List.mem_of_getElem? h2))⟩
  | pv h =>
    cases h with
    | val => exact one (.pv (.val _)) ho rfl
    | agg cs vs hl h =>
      simp only [okCells, List.all_eq_true] at ho
      refine ⟨by simp [cellsA, Value.cells, hl], fun i c x h2 h3 => ?_⟩
      simp only [cellsA, Value.cells, List.getElem?_map] at h2 h3
      obtain ⟨p, hp, rfl⟩ := Option.map_eq_some_iff.1 h2
      have hr := h i p x hp h3
      exact ⟨.pv hr, repP_one hr (ho p (List.mem_of_getElem? hp))⟩
    | imm es A cap sz vs hc hm hsz ha h => exact one (.pv (.imm es A cap sz vs hc hm hsz ha h)) ho rfl
  | any v => simp [okCells, AV.one] at ho
  | tup cs vs hl h => simp [okCells, AV.one] at ho
  | nil => exact one .nil ho rfl
  | bor es A cap sz hc hm h => exact one (.bor es A cap sz hc hm h) ho rfl
  | tight es A sz hm h => exact one (.tight es A sz hm h) ho rfl
  | row id n c hc h hv => exact one (.row id n c hc h hv) ho rfl
  | rat id n k g c hc h hg => exact one (.rat id n k g c hc h hg) ho rfl
  | sub id n sz i j c cap A hc h hv hij hj hcap => exact one (.sub id n sz i j c cap A hc h hv hij hj hcap) ho rfl
  | «at» cs ad hok h => exact one (.at cs ad hok h) ho rfl
  | bat id k g hb => exact one (.bat id k g hb) ho rfl
  | fn f cs vs hl h => exact one (.fn f cs vs hl h) ho rfl

theorem toPs_get {vs : List AV} {ps : List PV} (h : toPs vs = some ps) : vs.length = ps.length ∧ ∀ (i : Nat) v p, vs[i]? = some v → ps[i]? = some p → toP v = some p := by
  induction vs generalizing ps with
  | nil => simp [toPs] at h; subst h; exact ⟨rfl, fun i v p h => by simp at h⟩
  | cons v vs ih =>
    simp only [toPs] at h
    split at h
    · rename_i p ps' hp hps
      injection h with h
      subst h
      obtain ⟨h1, h2⟩ := ih hps
      refine ⟨by simp [h1], fun i x q hx hq => ?_⟩
      match i with
      | 0 => simp at hx hq; subst hx; subst hq; exact hp
      | i + 1 => exact h2 i x q (by simpa using hx) (by simpa using hq)
    · cases h

/-- Where the operations' names lead: to a block as it is told, or nowhere. -/
def Refs (w : World) (σ : Ctx) (H : List Blk) : Prop := ∀ id b, H[id]? = some b → BlkOk w σ id b ∨ (σ.cur id = none ∧ σ.box id = none)

theorem HeapOk.refs {w : World} {σ : Ctx} {H : List Blk} (h : HeapOk w σ H) : Refs w σ H := fun id b hb => .inl (h.ok id b hb)

theorem flatten_drop {es : List (List PV)} {sz : Nat} (h : ∀ e ∈ es, e.length = sz) (i : Nat) : (es.drop i).flatten = es.flatten.drop (i * sz) := by
  induction es generalizing i with
  | nil => simp
  | cons e es ih =>
    match i with
    | 0 => simp
    | i + 1 =>
      have he := h e (by simp)
      have e1 : (i + 1) * sz = e.length + i * sz := by rw [he, Nat.succ_mul]; omega
      simp only [List.drop_succ_cons, List.flatten_cons]
      rw [ih (fun x hx => h x (by simp [hx])) i, e1, List.drop_append, List.drop_eq_nil_of_le (as := e) (by omega), Nat.add_sub_cancel_left, List.nil_append]

theorem cells_cut {w : World} {G F : Nat → Prop} {A : Option Addr} {es : List (List PV)} {sz : Nat} (h : Cells w G F A es sz) {i j m : Nat} (hij : i ≤ j) (hj : j ≤ es.length) (hm : j ≤ m) :
    Cells w G F (if m = i then A else A.map (·.add (i * sz))) ((es.take j).drop i) sz := by
  refine ⟨fun e he => h.1 e (List.mem_of_mem_take (List.mem_of_mem_drop he)), fun hp => ?_⟩
  simp only [List.length_drop, List.length_take] at hp
  obtain ⟨ad, rfl, hG, hk⟩ := h.2 (by omega)
  rw [if_neg (by omega)]
  refine ⟨ad.add (i * sz), rfl, by rw [add_block]; exact hG, fun k p hkp => ?_⟩
  rw [flatten_drop (sz := sz) (fun e he => h.1 e (List.mem_of_mem_take he)), List.getElem?_drop] at hkp
  rw [add_add]
  have hpre : ∀ (es : List (List PV)) (j n : Nat), (es.take j).flatten[n]? = some p → es.flatten[n]? = some p := by
    intro es
    induction es with
    | nil => intro j n h; simp at h
    | cons e es ih =>
      intro j n h
      match j with
      | 0 => simp at h
      | j + 1 =>
        simp only [List.take_succ_cons, List.flatten_cons] at h ⊢
        by_cases hl : n < e.length
        · rw [List.getElem?_append_left hl] at h ⊢; exact h
        · rw [List.getElem?_append_right (by omega)] at h ⊢; exact ih _ _ h
  exact hk _ p (hpre _ _ _ hkp)

/-- A slice that can be read. -/
theorem rep_elems {w : World} {σ : Ctx} {H : List Blk} (hr : Refs w σ H) (hlt : σ.base ≤ w.heap.size ∧ ∀ b, σ.F b → b < w.heap.size) {v : AV} {u : Value} (h : Rep w σ v u) {es : List (List PV)} (he : elemsOf H v = some es) :
    ∃ A cap sz, u = .slice A es.length cap ∧ es.length ≤ cap ∧ cap ≤ maxLen ∧ Cells w (fun b => b < w.heap.size) σ.F A es sz := by
  have ok : ∀ b, σ.ok b → b < w.heap.size := fun b hb => by
    rcases hb with hb | hb
    · exact hlt.2 b hb
    · exact Nat.lt_of_lt_of_le hb hlt.1
  cases h with
  | pv h =>
    cases h with
    | imm es' A cap sz vs hc hm hsz ha h =>
      simp [elemsOf] at he
      subst he
      obtain ⟨A', cap', sz', h1, h2, h3, h4⟩ := repP_imm.1 (RepP.imm (w := w) es' A cap sz vs hc hm hsz ha h)
      exact ⟨A', cap', sz', h1, h2, h3, h4.mono (fun _ _ => rfl) (fun _ _ => rfl) (fun b hb => hlt.2 b hb) (fun _ h => h)⟩
    | _ => simp [elemsOf] at he
  | nil =>
    simp [elemsOf] at he
    subst he
    exact ⟨none, 0, 0, rfl, by simp, by simp, by simp, fun h => absurd h (by simp)⟩
  | bor es' A cap sz hc hm h =>
    simp [elemsOf] at he
    subst he
    exact ⟨A, cap, sz, rfl, hc, hm, h.mono (fun _ _ => rfl) (fun _ _ => rfl) ok (fun _ h => h)⟩
  | tight es' A sz hm h =>
    simp [elemsOf] at he
    subst he
    exact ⟨A, _, sz, rfl, Nat.le_refl _, hm, h.mono (fun _ _ => rfl) (fun _ _ => rfl) (fun b hb => hlt.2 b hb) (fun _ h => h)⟩
  | row id n c hc h hv =>
    simp only [elemsOf] at he
    cases hb : H[id]? with
    | none => simp [hb] at he
    | some b =>
      cases b with
      | row fz e sz es' =>
        simp only [hb] at he
        split at he
        · rename_i hn
          injection he with he
          subst he
          subst hn
          rcases hr id _ hb with h1 | h1
          · obtain ⟨h0, h2, _, h3, ⟨xs, ho, hx⟩, _⟩ := h1
            rcases ho.2 with ⟨h4, h5⟩ | ⟨g, cap, cur, h4, h5, h6, h7, h8, h9, h10⟩
            · have h0' : es' = [] := List.eq_nil_of_length_eq_zero h5
              subst h0'
              exact ⟨none, 0, sz, h4, by simp, by simp, by simp, fun h => absurd h (by simp)⟩
            · refine ⟨_, cap, sz, h4, h7, h8, h3, fun hp => ⟨_, rfl, (Array.getElem?_eq_some_iff.1 h6).1, fun k p hk => ?_⟩⟩
              obtain ⟨v, a1, a2, a3⟩ := hx k p hk
              exact ⟨v, ho.cells (g := g) (by rw [h4]; rfl) k v a1, a2, a3⟩
          · rw [h1.1] at hc; cases hc
        · cases he
      | _ => simp [hb] at he
  | sub id n sz i j c cap A hc h hv hij hj hcap =>
    simp only [elemsOf] at he
    cases hb : H[id]? with
    | none => simp [hb] at he
    | some b =>
      cases b with
      | row fz e sz' es' =>
        simp only [hb] at he
        split at he
        · rename_i hn
          injection he with he
          subst he
          obtain ⟨rfl, rfl⟩ := hn
          rcases hr id _ hb with h1 | h1
          · obtain ⟨h0, h2, _, h3, ⟨xs, ho, hx⟩, _⟩ := h1
            have hlen : ((es'.take j).drop i).length = j - i := by rw [List.length_drop, List.length_take]; omega
            have hcell : cap ≤ maxLen ∧ Cells w (fun b => b < w.heap.size) σ.F A es' sz := by
              rcases ho.2 with ⟨h4, h5⟩ | ⟨g, cap', cur, h4, h5, h6, h7, h8, h9, h10⟩
              · rw [hv] at h4
                injection h4 with h4a h4b h4c
                have h0' : es' = [] := List.eq_nil_of_length_eq_zero h5
                subst h0'
                exact ⟨by omega, by simp, fun h => absurd h (by simp)⟩
              · rw [hv] at h4
                injection h4 with h4a h4b h4c
                subst h4a
                subst h4c
                refine ⟨h8, h3, fun hp => ⟨_, rfl, (Array.getElem?_eq_some_iff.1 h6).1, fun k p hk => ?_⟩⟩
                obtain ⟨v, a1, a2, a3⟩ := hx k p hk
                exact ⟨v, ho.cells (g := g) (by rw [hv]; rfl) k v a1, a2, a3⟩
            refine ⟨_, _, sz, by rw [hlen], by rw [hlen]; omega, by omega, cells_cut hcell.2 hij hj (by omega)⟩
          · rw [h1.1] at hc; cases hc
        · cases he
      | _ => simp [hb] at he
  | _ => simp [elemsOf] at he

theorem elem_at {w : World} {G F : Nat → Prop} {A : Option Addr} {es : List (List PV)} {sz : Nat} (h : Cells w G F A es sz) {i : Nat} {l : List PV} (hi : es[i]? = some l) :
    ∃ ad, A = some ad ∧ G ad.block ∧ l.length = sz ∧ ∀ (k : Nat) p, l[k]? = some p → ∃ v, w.cell? (ad.add (i * sz + k)) = some v ∧ v.oneCell' = true ∧ RepP w F p v := by
  have hlt := (List.getElem?_eq_some_iff.1 hi).1
  obtain ⟨ad, hA, hG, hk⟩ := h.2 (by omega)
  have hl := h.1 l (List.mem_of_getElem? hi)
  refine ⟨ad, hA, hG, hl, fun k p hp => hk (i * sz + k) p ?_⟩
  have key : ∀ (es : List (List PV)) (i : Nat), (∀ e ∈ es, e.length = sz) → es[i]? = some l → es.flatten[i * sz + k]? = some p := by
    intro es
    induction es with
    | nil => intro i _ h; simp at h
    | cons e es ih =>
      intro i hs hi
      have he := hs e (by simp)
      match i with
      | 0 =>
        simp at hi
        subst hi
        have := (List.getElem?_eq_some_iff.1 hp).1
        simp only [List.flatten_cons, Nat.zero_mul, Nat.zero_add]
        rw [List.getElem?_append_left (by omega)]
        exact hp
      | i + 1 =>
        simp only [List.flatten_cons]
        have h1 : (i + 1) * sz + k = e.length + (i * sz + k) := by rw [he, Nat.succ_mul]; omega
        rw [h1, List.getElem?_append_right (by omega)]
        simp only [Nat.add_sub_cancel_left]
        exact ih i (fun x hx => hs x (by simp [hx])) (by simpa using hi)
  exact key es i h.1 hi
end Go.Proofs.Ytfpbdphdahfgbaa.Fw
