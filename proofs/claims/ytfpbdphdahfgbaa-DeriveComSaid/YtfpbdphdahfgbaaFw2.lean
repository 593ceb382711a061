/- The state of a call: its slots, its own blocks, and what has not turned since it was entered. -/
import Derived.Test.YtfpbdphdahfgbaaFw1
namespace Go.Proofs.Ytfpbdphdahfgbaa.Fw
open Go Go.RowKit

def BlkOk (w : World) (σ : Ctx) (id : Nat) : Blk → Prop
  | .row fz e sz es => 0 < sz ∧ σ.cur id = some es.length ∧ σ.box id = none ∧ (∀ l ∈ es, l.length = sz) ∧
      (∃ xs, w.ownsRow σ.base e sz (σ.row id es.length) es.length xs ∧ ∀ (k : Nat) p, es.flatten[k]? = some p → ∃ v, xs[k]? = some v ∧ v.oneCell' = true ∧ RepP w σ.F p v) ∧
      (∀ g, (σ.row id es.length).ownBlock = some g → (fz = true → σ.F g) ∧ (fz = false → ¬ σ.F g))
  | .box t cs => σ.cur id = none ∧ ∃ (g : Nat) (vs : List Value), σ.box id = some g ∧ σ.base ≤ g ∧ ¬ σ.F g ∧ w.heap[g]? = some (.cells vs.toArray t (0, 0)) ∧ cs.length = vs.length ∧
      ∀ (i : Nat) a v, cs[i]? = some a → vs[i]? = some v → Rep w σ a v ∧ v.oneCell' = true
  | .dead => σ.cur id = none ∧ σ.box id = none

def blkOf (σ : Ctx) (id : Nat) : Blk → Option Nat
  | .row _ _ _ es => (σ.row id es.length).ownBlock
  | .box _ _ => σ.box id
  | .dead => none

def Blk.fz : Blk → Bool
  | .row fz _ _ _ => fz
  | _ => false

def Own (σ : Ctx) (H : List Blk) (g : Nat) : Prop := ∃ id b, H[id]? = some b ∧ b.fz = false ∧ blkOf σ id b = some g

structure HeapOk (w : World) (σ : Ctx) (H : List Blk) : Prop where
  ok : ∀ id b, H[id]? = some b → BlkOk w σ id b
  out : ∀ id, H.length ≤ id → σ.cur id = none ∧ σ.box id = none
  sep : ∀ i j b c g, H[i]? = some b → H[j]? = some c → blkOf σ i b = some g → blkOf σ j c = some g → i = j
  lt : ∀ b, σ.F b → b < w.heap.size
  base : σ.base ≤ w.heap.size

theorem ownsRow_lt {w : World} {base : Nat} {e : TypeId} {sz : Nat} {v : Value} {n : Nat} {xs : List Value} (h : w.ownsRow base e sz v n xs) {g : Nat} (hg : v.ownBlock = some g) : base ≤ g ∧ g < w.heap.size := h.lt g hg

theorem ownsRow_one {w : World} {base : Nat} {e : TypeId} {sz : Nat} {v : Value} {n : Nat} {xs : List Value} (h : w.ownsRow base e sz v n xs) : v.oneCell' = true := by
  rcases h.2 with ⟨rfl, _⟩ | ⟨g, cap, cur, rfl, _⟩ <;> rfl

theorem ownsRow_same {w w' : World} {base : Nat} {e : TypeId} {sz : Nat} {v : Value} {n : Nat} {xs : List Value} (h : w.ownsRow base e sz v n xs) (hg : ∀ g, v.ownBlock = some g → w'.heap[g]? = w.heap[g]?) : w'.ownsRow base e sz v n xs := by
  refine ⟨h.1, ?_⟩
  rcases h.2 with h0 | ⟨g, cap, cur, rfl, hb, hh, rest⟩
  · exact .inl h0
  · exact .inr ⟨g, cap, cur, rfl, hb, by rw [hg g rfl]; exact hh, rest⟩

theorem BlkOk.lt {w : World} {σ : Ctx} {id : Nat} {b : Blk} (h : BlkOk w σ id b) {g : Nat} (hg : blkOf σ id b = some g) : σ.base ≤ g ∧ g < w.heap.size := by
  cases b with
  | row fz e sz es =>
    obtain ⟨_, _, _, _, ⟨xs, ho, _⟩, _⟩ := h
    exact ownsRow_lt ho hg
  | box t cs =>
    obtain ⟨_, g', vs, h1, h2, _, h3, _⟩ := h
    have e : g' = g := by simpa [blkOf, h1] using hg
    subst e
    exact ⟨h2, (Array.getElem?_eq_some_iff.1 h3).1⟩
  | dead => simp [blkOf] at hg

theorem BlkOk.F {w : World} {σ : Ctx} {id : Nat} {b : Blk} (h : BlkOk w σ id b) {g : Nat} (hg : blkOf σ id b = some g) (hz : b.fz = false) : ¬ σ.F g := by
  cases b with
  | row fz e sz es =>
    obtain ⟨_, _, _, _, _, h⟩ := h
    exact (h g hg).2 hz
  | box t cs =>
    obtain ⟨_, g', vs, h1, _, h2, _⟩ := h
    have e : g' = g := by simpa [blkOf, h1] using hg
    subst e
    exact h2
  | dead => simp [blkOf] at hg

/-- A block that the step leaves alone. -/
theorem BlkOk.keep {w w' : World} {σ σ' : Ctx} {id : Nat} {b : Blk} (k : Keep w σ w' σ') (hbase : σ'.base = σ.base) (hcur : σ'.cur id = σ.cur id) (hbox : σ'.box id = σ.box id)
    (hheap : ∀ g, blkOf σ id b = some g → w'.heap[g]? = w.heap[g]?) (hF : ∀ g, blkOf σ id b = some g → σ'.F g → σ.F g) (h : BlkOk w σ id b) : BlkOk w' σ' id b ∧ blkOf σ' id b = blkOf σ id b := by
  cases b with
  | row fz e sz es =>
    obtain ⟨h0, h1, h1b, h2, ⟨xs, ho, hx⟩, hf⟩ := h
    obtain ⟨c', hc', _, hr⟩ := k.cur id _ h1
    have hrow := hr es.length (Nat.le_refl _)
    refine ⟨⟨h0, by rw [hcur]; exact h1, by rw [hbox]; exact h1b, h2, ⟨xs, ?_, fun i p hp => ?_⟩, fun g hg => ?_⟩, by simp only [blkOf, hrow]⟩
    · rw [hrow, hbase]
      exact ownsRow_same ho hheap
    · obtain ⟨v, a1, a2, a3⟩ := hx i p hp
      exact ⟨v, a1, a2, k.repP a3⟩
    · rw [hrow] at hg
      exact ⟨fun hz => k.F _ ((hf g hg).1 hz), fun hz hn => (hf g hg).2 hz (hF g hg hn)⟩
  | box t cs =>
    obtain ⟨h0, g, vs, h1, h2, h3, h4, h5, h6⟩ := h
    refine ⟨⟨by rw [hcur]; exact h0, g, vs, by rw [hbox]; exact h1, by rw [hbase]; exact h2, fun hn => h3 (hF g h1 hn), by rw [hheap g h1]; exact h4, h5, fun i a v ha hv => ⟨k.rep (h6 i a v ha hv).1, (h6 i a v ha hv).2⟩⟩, hbox⟩
  | dead => exact ⟨⟨by rw [hcur]; exact h.1, by rw [hbox]; exact h.2⟩, rfl⟩

/-- From state to state: own blocks alone turn, what is new lies behind. -/
structure Step (w : World) (σ : Ctx) (H : List Blk) (w' : World) (σ' : Ctx) (H' : List Blk) : Prop where
  os : w'.os = w.os
  tape : w'.tape = w.tape
  output : w'.output = w.output
  size : w.heap.size ≤ w'.heap.size
  heap : ∀ b, b < w.heap.size → ¬ Own σ H b → w'.heap[b]? = w.heap[b]?
  keep : Keep w σ w' σ'
  new : ∀ b, σ'.F b → σ.F b ∨ Own σ H b ∨ w.heap.size ≤ b
  own : ∀ b, Own σ' H' b → Own σ H b ∨ w.heap.size ≤ b
  base : σ'.base = σ.base

theorem Step.refl (w : World) (σ : Ctx) (H : List Blk) : Step w σ H w σ H := ⟨rfl, rfl, rfl, Nat.le_refl _, fun _ _ _ => rfl, Keep.refl w σ, fun _ h => .inl h, fun _ h => .inl h, rfl⟩

theorem Step.trans {w1 w2 w3 : World} {σ1 σ2 σ3 : Ctx} {H1 H2 H3 : List Blk} (h : Step w1 σ1 H1 w2 σ2 H2) (k : Step w2 σ2 H2 w3 σ3 H3) : Step w1 σ1 H1 w3 σ3 H3 where
  os := k.os.trans h.os
  tape := k.tape.trans h.tape
  output := k.output.trans h.output
  size := Nat.le_trans h.size k.size
  heap b hb hn := (k.heap b (Nat.lt_of_lt_of_le hb h.size) fun ho => by
    rcases h.own b ho with h1 | h1
    · exact hn h1
    · omega).trans (h.heap b hb hn)
  keep := h.keep.trans k.keep
  new b hb := by
    rcases k.new b hb with h1 | h1 | h1
    · exact h.new b h1
    · exact .inr (h.own b h1)
    · exact .inr (.inr (Nat.le_trans h.size h1))
  own b hb := by
    rcases k.own b hb with h1 | h1
    · exact h.own b h1
    · exact .inr (Nat.le_trans h.size h1)
  base := k.base.trans h.base

structure Entry where
  w : World
  σ : Ctx
  H : List Blk

structure St (E : Entry) (σ : Ctx) (w : World) (H : List Blk) (e : List AV) (a : Act) : Prop where
  heap : HeapOk w σ H
  step : Step E.w E.σ E.H w σ H
  env : e.length = a.tmps.size ∧ ∀ t v, e[t]? = some v → Rep w σ v (a.tmps.getD t undef)
  defers : a.defers = []

def eput (e : List AV) (dst : Option Tmp) (v : AV) : List AV :=
  match dst with
  | some d => e.set d v
  | none => e

theorem St.next {E : Entry} {σ σ' : Ctx} {w w' : World} {H H' : List Blk} {e : List AV} {a : Act} (s : St E σ w H e a) (hs : Step w σ H w' σ' H') (hh : HeapOk w' σ' H') : St E σ' w' H' e a :=
  ⟨hh, s.step.trans hs, ⟨s.env.1, fun t v ht => hs.keep.rep (s.env.2 t v ht)⟩, s.defers⟩

theorem St.put {E : Entry} {σ : Ctx} {w : World} {H : List Blk} {e : List AV} {a : Act} (s : St E σ w H e a) (dst : Option Tmp) {v : AV} {u : Value} (hv : Rep w σ v u) : St E σ w H (eput e dst v) (a.put dst u) := by
  refine ⟨s.heap, s.step, ?_, ?_⟩
  · cases dst with
    | none => exact s.env
    | some d =>
      refine ⟨by simp [eput, Act.put, s.env.1], fun t x ht => ?_⟩
      simp only [eput] at ht
      rw [List.getElem?_set] at ht
      simp only [Act.put]
      by_cases hd : d = t
      · subst hd
        simp only [if_true] at ht
        split at ht
        · rename_i hlt
          injection ht with ht
          subst ht
          have : d < a.tmps.size := by rw [← s.env.1]; exact hlt
          simpa [Array.getD, this] using hv
        · cases ht
      · rw [if_neg hd] at ht
        have := s.env.2 t x ht
        have e1 : (a.tmps.setIfInBounds d u).getD t undef = a.tmps.getD t undef := by
          simp [Array.getElem?_setIfInBounds_ne hd]
        rw [e1]
        exact this
  · cases dst <;> exact s.defers

/-- A step that leaves every block alone and gives no block a name. -/
theorem HeapOk.same {w w' : World} {σ σ' : Ctx} {H : List Blk} (h : HeapOk w σ H) (k : Keep w σ w' σ') (hbase : σ'.base = σ.base) (hcur : ∀ id, σ'.cur id = σ.cur id) (hbox : ∀ id, σ'.box id = σ.box id)
    (hsize : w.heap.size ≤ w'.heap.size) (hheap : ∀ g, g < w.heap.size → w'.heap[g]? = w.heap[g]?) (hF : ∀ g, σ'.F g → σ.F g ∨ w.heap.size ≤ g) (hlt : ∀ g, σ'.F g → g < w'.heap.size) : HeapOk w' σ' H := by
  have hk : ∀ id b, H[id]? = some b → BlkOk w' σ' id b ∧ blkOf σ' id b = blkOf σ id b := fun id b hb =>
    BlkOk.keep k hbase (hcur id) (hbox id) (fun g hg => hheap g ((h.ok id b hb).lt hg).2) (fun g hg hf => (hF g hf).resolve_right (by have := ((h.ok id b hb).lt hg).2; omega)) (h.ok id b hb)
  refine ⟨fun id b hb => (hk id b hb).1, fun id hid => ?_, fun i j b c g hi hj h1 h2 => ?_, hlt, by rw [hbase]; exact Nat.le_trans h.base hsize⟩
  · rw [hcur, hbox]
    exact h.out id hid
  · rw [(hk i b hi).2] at h1
    rw [(hk j c hj).2] at h2
    exact h.sep i j b c g hi hj h1 h2

theorem own_same {w w' : World} {σ σ' : Ctx} {H : List Blk} (h : HeapOk w σ H) (k : Keep w σ w' σ') (hbox : ∀ id, σ'.box id = σ.box id) {g : Nat} (ho : Own σ' H g) : Own σ H g := by
  obtain ⟨id, b, hb, hz, hg⟩ := ho
  refine ⟨id, b, hb, hz, ?_⟩
  cases b with
  | row fz e sz es =>
    obtain ⟨_, h1, _⟩ := h.ok id _ hb
    obtain ⟨_, _, _, hr⟩ := k.cur id _ h1
    simpa [blkOf, hr es.length (Nat.le_refl _)] using hg
  | box t cs => simpa [blkOf, hbox] using hg
  | dead => simp [blkOf] at hg

/-- The world grows, and freezes some of what is new. -/
def Ctx.more (σ : Ctx) (G : Nat → Prop) : Ctx := { σ with F := fun b => σ.F b ∨ G b }

theorem keep_below {w w' : World} {σ : Ctx} {H : List Blk} (h : HeapOk w σ H) (hb : Below w.heap.size w w') (G : Nat → Prop) : Keep w σ w' (σ.more G) where
  base := Nat.le_refl _
  F _ h := .inl h
  cell a ha := hb.cell (by
    rcases ha with ha | ha
    · exact h.lt _ ha
    · exact Nat.lt_of_lt_of_le ha h.base)
  cur _ c hc := ⟨c, hc, Nat.le_refl _, fun _ _ => rfl⟩
  box _ _ hg := hg

theorem grow_ok {w w' : World} {σ : Ctx} {H : List Blk} (h : HeapOk w σ H) (hb : Below w.heap.size w w') (G : Nat → Prop) (hG : ∀ b, G b → w.heap.size ≤ b ∧ b < w'.heap.size) :
    HeapOk w' (σ.more G) H ∧ Step w σ H w' (σ.more G) H := by
  have k := keep_below h hb G
  refine ⟨h.same k rfl (fun _ => rfl) (fun _ => rfl) hb.size hb.block (fun g hg => hg.imp id fun h1 => (hG g h1).1) (fun g hg => ?_), ⟨hb.os, hb.tape, hb.output, hb.size, fun b h1 _ => hb.block b h1, k, fun b h1 => ?_, fun b h1 => .inl (own_same h k (fun _ => rfl) h1), rfl⟩⟩
  · rcases hg with h1 | h1
    · exact Nat.lt_of_lt_of_le (h.lt g h1) hb.size
    · exact (hG g h1).2
  · rcases h1 with h1 | h1
    · exact .inl h1
    · exact .inr (.inr (hG b h1).1)

theorem St.grow {E : Entry} {σ : Ctx} {w w' : World} {H : List Blk} {e : List AV} {a : Act} (s : St E σ w H e a) (hb : Below w.heap.size w w') (G : Nat → Prop) (hG : ∀ b, G b → w.heap.size ≤ b ∧ b < w'.heap.size) :
    St E (σ.more G) w' H e a := s.next (grow_ok s.heap hb G hG).2 (grow_ok s.heap hb G hG).1

/-- A new row of the call's own takes the next name. -/
def Ctx.newRow (σ : Ctx) (id : Nat) (v : Value) (n : Nat) : Ctx :=
  { σ with row := fun i m => if i = id ∧ m = n then v else σ.row i m, cur := fun i => if i = id then some n else σ.cur i }

theorem setAt_append {H : List Blk} {b : Blk} {i : Nat} {c : Blk} (h : (H ++ [b])[i]? = some c) : (H[i]? = some c ∧ i < H.length) ∨ (i = H.length ∧ c = b) := by
  rw [List.getElem?_append] at h
  split at h
  · rename_i hlt
    exact .inl ⟨h, hlt⟩
  · rename_i hge
    have : i - H.length = 0 := by
      by_cases h0 : i - H.length = 0
      · exact h0
      · rw [List.getElem?_eq_none (by simp; omega)] at h; cases h
    rw [this] at h
    simp at h
    exact .inr ⟨by omega, h.symm⟩

theorem keep_newRow {w w' : World} {σ : Ctx} {H : List Blk} (h : HeapOk w σ H) (hb : Below w.heap.size w w') (v : Value) (n : Nat) (id : Nat) (hid : σ.cur id = none) : Keep w σ w' (σ.newRow id v n) where
  base := Nat.le_refl _
  F _ h := h
  cell := (keep_below h hb (fun _ => False)).cell
  cur i c hc := by
    have hne : i ≠ id := by rintro rfl; rw [hid] at hc; cases hc
    exact ⟨c, by simp [Ctx.newRow, hne, hc], Nat.le_refl _, fun m _ => by simp [Ctx.newRow, hne]⟩
  box _ _ hg := hg

theorem newRow_ok {w w' : World} {σ : Ctx} {H : List Blk} (h : HeapOk w σ H) (hb : Below w.heap.size w w') {e : TypeId} {sz : Nat} (hsz : 0 < sz) {v : Value} {es : List (List PV)} {xs : List Value}
    (ho : w'.ownsRow w.heap.size e sz v es.length xs) (hl : ∀ l ∈ es, l.length = sz) (hx : ∀ (k : Nat) p, es.flatten[k]? = some p → ∃ u, xs[k]? = some u ∧ u.oneCell' = true ∧ RepP w' σ.F p u) :
    HeapOk w' (σ.newRow H.length v es.length) (H ++ [.row false e sz es]) ∧ Step w σ H w' (σ.newRow H.length v es.length) (H ++ [.row false e sz es]) := by
  have hid := (h.out H.length (Nat.le_refl _))
  have k := keep_newRow h hb v es.length H.length hid.1
  have hv : (σ.newRow H.length v es.length).row H.length es.length = v := by simp [Ctx.newRow]
  have hob : ∀ g, v.ownBlock = some g → w.heap.size ≤ g ∧ g < w'.heap.size := fun g hg => ownsRow_lt ho hg
  have hk : ∀ i b, H[i]? = some b → BlkOk w' (σ.newRow H.length v es.length) i b ∧ blkOf (σ.newRow H.length v es.length) i b = blkOf σ i b := fun i b hi => by
    have hlt : i < H.length := (List.getElem?_eq_some_iff.1 hi).1
    have hne : i ≠ H.length := by omega
    exact BlkOk.keep k rfl (by simp [Ctx.newRow, hne]) rfl (fun g hg => hb.block g ((h.ok i b hi).lt hg).2) (fun g _ hf => hf) (h.ok i b hi)
  have hnew : BlkOk w' (σ.newRow H.length v es.length) H.length (.row false e sz es) := by
    refine ⟨hsz, by simp [Ctx.newRow], hid.2, hl, ⟨xs, ?_, hx⟩, fun g hg => ⟨fun h0 => absurd h0 (by simp), fun _ hf => ?_⟩⟩
    · rw [hv]
      rcases ho with ⟨h1, h2 | ⟨g, cap, cur, h2, h3, rest⟩⟩
      · exact ⟨h1, .inl h2⟩
      · exact ⟨h1, .inr ⟨g, cap, cur, h2, Nat.le_trans h.base h3, rest⟩⟩
    · rw [hv] at hg
      have := (hob g hg).1
      have := h.lt g hf
      omega
  have hbo : blkOf (σ.newRow H.length v es.length) H.length (.row false e sz es) = v.ownBlock := by simp only [blkOf, hv]
  refine ⟨⟨fun i b hi => ?_, fun i hi => ?_, fun i j b c g hi hj h1 h2 => ?_, fun b hf => Nat.lt_of_lt_of_le (h.lt b hf) hb.size, Nat.le_trans h.base hb.size⟩, ⟨hb.os, hb.tape, hb.output, hb.size, fun b h1 _ => hb.block b h1, k, fun b h1 => .inl h1, fun b h1 => ?_, rfl⟩⟩
  · rcases setAt_append hi with ⟨h1, _⟩ | ⟨rfl, rfl⟩
    · exact (hk i b h1).1
    · exact hnew
  · have := h.out i (by simp at hi; omega)
    have hne : i ≠ H.length := by simp at hi; omega
    exact ⟨by simp [Ctx.newRow, hne, this.1], this.2⟩
  · rcases setAt_append hi with ⟨hi', hil⟩ | ⟨rfl, rfl⟩ <;> rcases setAt_append hj with ⟨hj', hjl⟩ | ⟨rfl, rfl⟩
    · rw [(hk i b hi').2] at h1
      rw [(hk j c hj').2] at h2
      exact h.sep i j b c g hi' hj' h1 h2
    · rw [(hk i b hi').2] at h1
      rw [hbo] at h2
      have := ((h.ok i b hi').lt h1).2
      have := (hob g h2).1
      omega
    · rw [(hk j c hj').2] at h2
      rw [hbo] at h1
      have := ((h.ok j c hj').lt h2).2
      have := (hob g h1).1
      omega
    · rfl
  · obtain ⟨i, b', hi, hz, hg⟩ := h1
    rcases setAt_append hi with ⟨h1, _⟩ | ⟨rfl, rfl⟩
    · exact .inl ⟨i, b', h1, hz, by rw [(hk i b' h1).2] at hg; exact hg⟩
    · rw [hbo] at hg
      exact .inr (hob b hg).1

theorem St.newRow {E : Entry} {σ : Ctx} {w w' : World} {H : List Blk} {en : List AV} {a : Act} (s : St E σ w H en a) (hb : Below w.heap.size w w') {e : TypeId} {sz : Nat} (hsz : 0 < sz) {v : Value} {es : List (List PV)} {xs : List Value}
    (ho : w'.ownsRow w.heap.size e sz v es.length xs) (hl : ∀ l ∈ es, l.length = sz) (hx : ∀ (k : Nat) p, es.flatten[k]? = some p → ∃ u, xs[k]? = some u ∧ u.oneCell' = true ∧ RepP w' σ.F p u) (dst : Option Tmp) :
    St E (σ.newRow H.length v es.length) w' (H ++ [.row false e sz es]) (eput en dst (.row H.length es.length)) (a.put dst v) := by
  have h := newRow_ok s.heap hb hsz ho hl hx
  refine (s.next h.2 h.1).put dst ?_
  have := Rep.row (w := w') (σ := σ.newRow H.length v es.length) H.length es.length es.length (by simp [Ctx.newRow]) (Nat.le_refl _) (by simpa [Ctx.newRow] using ownsRow_one ho)
  simpa [Ctx.newRow] using this
end Go.Proofs.Ytfpbdphdahfgbaa.Fw
