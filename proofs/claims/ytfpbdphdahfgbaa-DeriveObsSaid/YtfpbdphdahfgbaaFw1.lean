/- Abstract values and abstract memory: what a call's slots, rows and boxes hold, said without addresses; how that is kept from world to world. No program in sight. -/
import Derived.WalkKit
import Derived.Maps.AppendAt
import Derived.Laws.OwnMore
import Derived.Laws.MakeOwn
namespace Go.Proofs.Ytfpbdphdahfgbaa.Fw
open Go Go.RowKit

/-- Plain data. -/
inductive PV where
  | val (v : Value)
  | agg (cs : List PV)
  | imm (es : List (List PV))
  deriving Inhabited

/-- What a slot holds. -/
inductive AV where
  | any
  | nil
  | pv (p : PV)
  | bor (es : List (List PV))
  | tight (es : List (List PV))
  | row (id n : Nat)
  | sub (id n sz i j : Nat)
  | rat (id n k : Nat)
  | at (cs : List PV)
  | bat (id k : Nat)
  | agg (cs : List AV)
  | tup (vs : List AV)
  | fn (f : Fn) (cap : List AV)
  deriving Inhabited

/-- A block of the call's own: a row, or a variable in memory. -/
inductive Blk where
  | row (fz : Bool) (e : TypeId) (sz : Nat) (es : List (List PV))
  | box (t : TypeId) (cs : List AV)
  | dead
  deriving Inhabited

inductive RepP (w : World) (F : Nat → Prop) : PV → Value → Prop
  | val (v : Value) : RepP w F (.val v) v
  | agg (cs : List PV) (vs : List Value) (hl : cs.length = vs.length) (h : ∀ (i : Nat) p v, cs[i]? = some p → vs[i]? = some v → RepP w F p v) : RepP w F (.agg cs) (.agg vs.toArray)
  | imm (es : List (List PV)) (A : Option Addr) (cap sz : Nat) (vs : Nat → Value) (hc : es.length ≤ cap) (hm : cap ≤ maxLen) (hsz : ∀ e ∈ es, e.length = sz)
      (ha : 0 < es.length → ∃ ad, A = some ad ∧ F ad.block ∧ ∀ k, k < es.flatten.length → w.cell? (ad.add k) = some (vs k) ∧ (vs k).oneCell' = true)
      (h : ∀ k p, es.flatten[k]? = some p → RepP w F p (vs k)) : RepP w F (.imm es) (.slice A es.length cap)

/-- The elements 'es' lie at 'A', in a block of 'G'; what they lead to lies in 'F'. -/
def Cells (w : World) (G F : Nat → Prop) (A : Option Addr) (es : List (List PV)) (sz : Nat) : Prop :=
  (∀ e ∈ es, e.length = sz) ∧ (0 < es.length → ∃ ad, A = some ad ∧ G ad.block ∧ ∀ k p, es.flatten[k]? = some p → ∃ v, w.cell? (ad.add k) = some v ∧ v.oneCell' = true ∧ RepP w F p v)

theorem repP_imm {w : World} {F : Nat → Prop} {es : List (List PV)} {v : Value} :
    RepP w F (.imm es) v ↔ ∃ A cap sz, v = .slice A es.length cap ∧ es.length ≤ cap ∧ cap ≤ maxLen ∧ Cells w F F A es sz := by
  constructor
  · intro h
    cases h with
    | imm _ A cap sz vs hc hm hsz ha h =>
      refine ⟨A, cap, sz, rfl, hc, hm, hsz, fun hp => ?_⟩
      obtain ⟨ad, hA, hF, hk⟩ := ha hp
      refine ⟨ad, hA, hF, fun k p hkp => ?_⟩
      have hlt := (List.getElem?_eq_some_iff.1 hkp).1
      exact ⟨vs k, (hk k hlt).1, (hk k hlt).2, h k p hkp⟩
  · rintro ⟨A, cap, sz, rfl, hc, hm, hsz, ha⟩
    by_cases hp : 0 < es.length
    · obtain ⟨ad, hA, hF, hk⟩ := ha hp
      refine .imm es A cap sz (fun k => (w.cell? (ad.add k)).getD undef) hc hm hsz (fun _ => ⟨ad, hA, hF, fun k hlt => ?_⟩) (fun k p hkp => ?_)
      · obtain ⟨v, h1, h2, _⟩ := hk k _ (List.getElem?_eq_getElem hlt)
        simp only [h1, Option.getD_some, h2, and_self]
      · obtain ⟨v, h1, _, h3⟩ := hk k p hkp
        simpa only [h1, Option.getD_some] using h3
    · have h0 : es = [] := List.eq_nil_of_length_eq_zero (by omega)
      subst h0
      exact .imm [] A cap sz (fun _ => undef) hc hm hsz (fun h => absurd h (by simp)) (fun k p hkp => by simp at hkp)

theorem add_block (a : Addr) (n : Nat) : (a.add n).block = a.block := by unfold Addr.add; split <;> rfl
theorem add_add (a : Addr) (i j : Nat) : (a.add i).add j = a.add (i + j) := by
  unfold Addr.add
  by_cases hi : i = 0 <;> by_cases hj : j = 0 <;> simp [hi, hj, Nat.add_assoc]
theorem add_at (g i k : Nat) : (⟨g, i, none⟩ : Addr).add k = ⟨g, i + k, none⟩ := by
  unfold Addr.add
  by_cases hk : k = 0 <;> simp [hk]

theorem RepP.mono {w w' : World} {F F' : Nat → Prop} (hw : ∀ a : Addr, F a.block → w'.cell? a = w.cell? a) (hF : ∀ b, F b → F' b) {p : PV} {v : Value} (h : RepP w F p v) : RepP w' F' p v := by
  induction h with
  | val v => exact .val v
  | agg cs vs hl _ ih => exact .agg cs vs hl ih
  | imm es A cap sz vs hc hm hsz ha _ ih =>
    refine .imm es A cap sz vs hc hm hsz (fun hp => ?_) ih
    obtain ⟨ad, hA, hFb, hk⟩ := ha hp
    exact ⟨ad, hA, hF _ hFb, fun k hlt => ⟨(hw _ (by rw [add_block]; exact hFb)).trans (hk k hlt).1, (hk k hlt).2⟩⟩

theorem Cells.mono {w w' : World} {G G' F F' : Nat → Prop} {A : Option Addr} {es : List (List PV)} {sz : Nat} (hG : ∀ a : Addr, G a.block → w'.cell? a = w.cell? a) (hw : ∀ a : Addr, F a.block → w'.cell? a = w.cell? a)
    (hGG : ∀ b, G b → G' b) (hF : ∀ b, F b → F' b) (h : Cells w G F A es sz) : Cells w' G' F' A es sz := by
  refine ⟨h.1, fun hp => ?_⟩
  obtain ⟨ad, hA, hGb, hk⟩ := h.2 hp
  refine ⟨ad, hA, hGG _ hGb, fun k p hkp => ?_⟩
  obtain ⟨v, h1, h2, h3⟩ := hk k p hkp
  exact ⟨v, (hG _ (by rw [add_block]; exact hGb)).trans h1, h2, h3.mono hw hF⟩

structure Ctx where
  base : Nat
  F : Nat → Prop
  row : Nat → Nat → Value
  cur : Nat → Option Nat
  box : Nat → Option Nat

def Ctx.ok (σ : Ctx) (b : Nat) : Prop := σ.F b ∨ b < σ.base

inductive Rep (w : World) (σ : Ctx) : AV → Value → Prop
  | any (v : Value) : Rep w σ .any v
  | nil : Rep w σ .nil (.slice none 0 0)
  | pv {p : PV} {v : Value} (h : RepP w σ.F p v) : Rep w σ (.pv p) v
  | bor (es : List (List PV)) (A : Option Addr) (cap sz : Nat) (hc : es.length ≤ cap) (hm : cap ≤ maxLen) (h : Cells w σ.ok σ.F A es sz) : Rep w σ (.bor es) (.slice A es.length cap)
  | tight (es : List (List PV)) (A : Option Addr) (sz : Nat) (hm : es.length ≤ maxLen) (h : Cells w σ.F σ.F A es sz) : Rep w σ (.tight es) (.slice A es.length es.length)
  | row (id n c : Nat) (hc : σ.cur id = some c) (h : n ≤ c) (hv : (σ.row id n).oneCell' = true) : Rep w σ (.row id n) (σ.row id n)
  | sub (id n sz i j c cap : Nat) (A : Option Addr) (hc : σ.cur id = some c) (h : n ≤ c) (hv : σ.row id n = .slice A n cap) (hij : i ≤ j) (hj : j ≤ n) (hcap : n ≤ cap) :
      Rep w σ (.sub id n sz i j) (.slice (if cap = i then A else A.map (·.add (i * sz))) (j - i) (cap - i))
  | rat (id n k g c : Nat) (hc : σ.cur id = some c) (h : n ≤ c) (hg : (σ.row id n).ownBlock = some g) : Rep w σ (.rat id n k) (.pointer (some ⟨g, k, none⟩))
  | at (cs : List PV) (ad : Addr) (hok : σ.ok ad.block) (h : ∀ k p, cs[k]? = some p → ∃ v, w.cell? (ad.add k) = some v ∧ v.oneCell' = true ∧ RepP w σ.F p v) : Rep w σ (.at cs) (.pointer (some ad))
  | bat (id k g : Nat) (hb : σ.box id = some g) : Rep w σ (.bat id k) (.pointer (some ⟨g, k, none⟩))
  | agg (cs : List AV) (vs : List Value) (hl : cs.length = vs.length) (h : ∀ (i : Nat) p v, cs[i]? = some p → vs[i]? = some v → Rep w σ p v) : Rep w σ (.agg cs) (.agg vs.toArray)
  | tup (cs : List AV) (vs : List Value) (hl : cs.length = vs.length) (h : ∀ (i : Nat) p v, cs[i]? = some p → vs[i]? = some v → Rep w σ p v) : Rep w σ (.tup cs) (.tuple vs.toArray)
  | fn (f : Fn) (cs : List AV) (vs : List Value) (hl : cs.length = vs.length) (h : ∀ (i : Nat) p v, cs[i]? = some p → vs[i]? = some v → Rep w σ p v) : Rep w σ (.fn f cs) (.func f #[] vs.toArray)

/-- What is kept of the slots' meaning from state to state. -/
structure Keep (w : World) (σ : Ctx) (w' : World) (σ' : Ctx) : Prop where
  base : σ.base ≤ σ'.base
  F : ∀ b, σ.F b → σ'.F b
  cell : ∀ a : Addr, σ.ok a.block → w'.cell? a = w.cell? a
  cur : ∀ id c, σ.cur id = some c → ∃ c', σ'.cur id = some c' ∧ c ≤ c' ∧ ∀ n, n ≤ c → σ'.row id n = σ.row id n
  box : ∀ id g, σ.box id = some g → σ'.box id = some g

theorem Keep.ok {w w' : World} {σ σ' : Ctx} (h : Keep w σ w' σ') (b : Nat) (hb : σ.ok b) : σ'.ok b := by
  rcases hb with hb | hb
  · exact .inl (h.F b hb)
  · exact .inr (Nat.lt_of_lt_of_le hb h.base)

theorem Keep.repP {w w' : World} {σ σ' : Ctx} (h : Keep w σ w' σ') {p : PV} {v : Value} (hr : RepP w σ.F p v) : RepP w' σ'.F p v :=
  hr.mono (fun a ha => h.cell a (.inl ha)) h.F

theorem Keep.rep {w w' : World} {σ σ' : Ctx} (k : Keep w σ w' σ') {a : AV} {v : Value} (h : Rep w σ a v) : Rep w' σ' a v := by
  induction h with
  | any v => exact .any v
  | nil => exact .nil
  | pv h => exact .pv (k.repP h)
  | bor es A cap sz hc hm h => exact .bor es A cap sz hc hm (h.mono k.cell (fun a ha => k.cell a (.inl ha)) k.ok k.F)
  | tight es A sz hm h => exact .tight es A sz hm (h.mono (fun a ha => k.cell a (.inl ha)) (fun a ha => k.cell a (.inl ha)) k.F k.F)
  | row id n c hc h hv =>
    obtain ⟨c', h1, h2, h3⟩ := k.cur id c hc
    rw [← h3 n h]
    exact .row id n c' h1 (by omega) (by rw [h3 n h]; exact hv)
  | sub id n sz i j c cap A hc h hv hij hj hcap =>
    obtain ⟨c', h1, h2, h3⟩ := k.cur id c hc
    exact .sub id n sz i j c' cap A h1 (by omega) (by rw [h3 n h]; exact hv) hij hj hcap
  | rat id n kk g c hc h hg =>
    obtain ⟨c', h1, h2, h3⟩ := k.cur id c hc
    exact .rat id n kk g c' h1 (by omega) (by rw [h3 n h]; exact hg)
  | «at» cs ad hok h =>
    refine .at cs ad (k.ok _ hok) fun i p hp => ?_
    obtain ⟨v, h1, h2, h3⟩ := h i p hp
    exact ⟨v, (k.cell _ (by rw [add_block]; exact hok)).trans h1, h2, k.repP h3⟩
  | bat id kk g hb => exact .bat id kk g (k.box id g hb)
  | agg cs vs hl _ ih => exact .agg cs vs hl ih
  | tup cs vs hl _ ih => exact .tup cs vs hl ih
  | fn f cs vs hl _ ih => exact .fn f cs vs hl ih

theorem Keep.refl (w : World) (σ : Ctx) : Keep w σ w σ := ⟨Nat.le_refl _, fun _ h => h, fun _ _ => rfl, fun _ c h => ⟨c, h, Nat.le_refl _, fun _ _ => rfl⟩, fun _ _ h => h⟩
theorem Keep.trans {w1 w2 w3 : World} {σ1 σ2 σ3 : Ctx} (h : Keep w1 σ1 w2 σ2) (k : Keep w2 σ2 w3 σ3) : Keep w1 σ1 w3 σ3 :=
  ⟨Nat.le_trans h.base k.base, fun b hb => k.F b (h.F b hb), fun a ha => (k.cell a (h.ok _ ha)).trans (h.cell a ha), fun id c hc => by
    obtain ⟨c1, a1, a2, a3⟩ := h.cur id c hc
    obtain ⟨c2, b1, b2, b3⟩ := k.cur id c1 a1
    exact ⟨c2, b1, by omega, fun n hn => (b3 n (by omega)).trans (a3 n hn)⟩, fun id g hg => k.box id g (h.box id g hg)⟩
end Go.Proofs.Ytfpbdphdahfgbaa.Fw
