/- A statement whose order is open: the rule. -/
import Derived.Test.YtfpbdphdahfgbaaFw19
namespace Go.Proofs.Ytfpbdphdahfgbaa.Fw
open Go Go.RowKit

/-- What an operation waits for. -/
def edgesOf (o : Oper) : List Nat := (o.after.toList.filter (Region.binds .any ·)).map (·.on)

def maskOf (o : Oper) (acc : List Nat) : Nat := (edgesOf o).foldl (fun s i => s ||| (1 <<< i) ||| acc.getD i 0) 0

def masks : List Oper → List Nat → List Nat
  | [], acc => acc
  | o :: l, acc => masks l (acc ++ [maskOf o acc])

def tmpsOf (o : Oper) : List Nat := o.op.operands.toList.filterMap fun | .tmp t => some t | _ => none

/-- The slots that an operation looks at. -/
def looksOf (ops : Array Oper) (o : Oper) : List Nat := tmpsOf o ++ (match o.guard with | some (g, _) => ((ops[g]?).bind (·.dst)).toList | none => [])

/-- The first 'm' operations hang together by what they yield alone; each other waits for all ahead of it. -/
def drawOk (ops : Array Oper) (m : Nat) : Bool :=
  let l := ops.toList
  let ms := masks l []
  decide (m ≤ l.length) &&
  l.zipIdx.all (fun (o, i) => (edgesOf o).all (· < i) && (decide (i < m) || ms.getD i 0 == 2 ^ i - 1)) &&
  (l.take m).zipIdx.all (fun (o, j) => (l.take m).zipIdx.all fun (p, i) => match p.dst with
    | some d => (!(looksOf ops o).contains d || (edgesOf o).contains i) && (i == j || o.dst != some d)
    | none => true)

/-- One operation of the text's order. -/
def StepAt (P : Program) (ops : Array Oper) (o : Oper) (e : List AV) (H : List Blk) (r : Option Res) (e' : List AV) (H' : List Blk) : Prop :=
  match r with
  | some r => (o.guard = none ∨ ∃ g want d, o.guard = some (g, want) ∧ (ops[g]?).bind (·.dst) = some d ∧ e[d]? = some (.pv (.val (.bool want)))) ∧ QR P o (ev e) H r ∧ e' = eput e o.dst (r.av H.length) ∧ H' = r.add H
  | none => (∃ g want d, o.guard = some (g, want) ∧ (ops[g]?).bind (·.dst) = some d ∧ (e[d]? = some (.pv (.val (.bool !want))) ∨ e[d]? = some und)) ∧ e' = eput e o.dst und ∧ H' = H

inductive Trace (P : Program) (ops : Array Oper) : List Oper → List AV → List Blk → List (Option Res) → List AV → List Blk → Prop
  | nil (e : List AV) (H : List Blk) : Trace P ops [] e H [] e H
  | cons {o : Oper} {l : List Oper} {e e' e'' : List AV} {H H' H'' : List Blk} {r : Option Res} {rs : List (Option Res)} (h : StepAt P ops o e H r e' H') (t : Trace P ops l e' H' rs e'' H'') : Trace P ops (o :: l) e H (r :: rs) e'' H''

theorem aOps_trace {P : Program} {all : Array Oper} {post : List Oper} {K : List AV → List Blk → Prop} : ∀ (pre : List Oper) {e : List AV} {H : List Blk} , aOps P all pre.length (pre ++ post) e H K →
    ∃ rs e' H', Trace P all pre e H rs e' H' ∧ aOps P all 0 post e' H' K := by
  intro pre
  induction pre with
  | nil => intro e H h; exact ⟨[], e, H, .nil e H, h⟩
  | cons o pre ih =>
    intro e H h
    have hm : (o :: pre).length - 1 = pre.length := by simp
    have hp : 0 < (o :: pre).length := by simp
    simp only [List.cons_append] at h
    unfold aOps at h
    rw [hm] at h
    simp only [hp, if_true] at h
    cases hg : o.guard with
    | none =>
      simp only [hg] at h
      obtain ⟨r, hr, hk⟩ := h
      obtain ⟨rs, e', H', ht, hpost⟩ := ih hk
      exact ⟨_, _, _, .cons (r := some r) ⟨.inl hg, hr, rfl, rfl⟩ ht, hpost⟩
    | some gw =>
      obtain ⟨g, want⟩ := gw
      simp only [hg] at h
      cases hd : (all[g]?).bind (·.dst) with
      | none => simp only [hd] at h
      | some d =>
        simp only [hd] at h
        rcases h with ⟨b, he, h1, h2⟩ | ⟨he, h2⟩
        rotate_left
        · obtain ⟨rs, e', H', ht, hpost⟩ := ih h2
          exact ⟨_, _, _, .cons (r := none) ⟨⟨g, want, d, hg, hd, .inr he⟩, rfl, rfl⟩ ht, hpost⟩
        by_cases hb : b = want
        · subst hb
          have h3 := h1 rfl
          rw [env_set_same he] at h3
          obtain ⟨r, hr, hk⟩ := h3
          obtain ⟨rs, e', H', ht, hpost⟩ := ih hk
          exact ⟨_, _, _, .cons (r := some r) ⟨.inr ⟨g, b, d, hg, hd, he⟩, hr, rfl, rfl⟩ ht, hpost⟩
        · have hb' : b = !want := by cases b <;> cases want <;> simp_all
          subst hb'
          have h3 := h2 rfl
          rw [env_set_same he] at h3
          obtain ⟨rs, e', H', ht, hpost⟩ := ih h3
          exact ⟨_, _, _, .cons (r := none) ⟨⟨g, want, d, hg, hd, .inl he⟩, rfl, rfl⟩ ht, hpost⟩

/-- The states between. -/
theorem trace_at {P : Program} {ops : Array Oper} {pre : List Oper} {e e' : List AV} {H H' : List Blk} {rs : List (Option Res)} (h : Trace P ops pre e H rs e' H') :
    ∃ (en : Nat → List AV) (hp : Nat → List Blk) (rr : Nat → Option Res), en 0 = e ∧ hp 0 = H ∧ en pre.length = e' ∧ hp pre.length = H' ∧ ∀ i o, pre[i]? = some o → StepAt P ops o (en i) (hp i) (rr i) (en (i + 1)) (hp (i + 1)) := by
  induction h with
  | nil e H => exact ⟨fun _ => e, fun _ => H, fun _ => none, rfl, rfl, rfl, rfl, fun i o h => by simp at h⟩
  | @cons o l e e1 e2 H H1 H2 r rs hs _ ih =>
    obtain ⟨en, hp, rr, h1, h2, h3, h4, h5⟩ := ih
    refine ⟨fun i => match i with | 0 => e | i + 1 => en i, fun i => match i with | 0 => H | i + 1 => hp i, fun i => match i with | 0 => r | i + 1 => rr i, rfl, rfl, by simpa using h3, by simpa using h4, fun i o' hi => ?_⟩
    match i with
    | 0 => simp at hi; subst hi; simp only [h1, h2]; exact hs
    | i + 1 => exact h5 i o' (by simpa using hi)

def Res.new : Option Res → Bool
  | some (.val _) | none => false
  | _ => true

def stepV (n : Nat) : Option Res → AV
  | some r => r.av n
  | none => und

section
variable {P : Program} {ops : Array Oper} {pre : List Oper} {en : Nat → List AV} {hp : Nat → List Blk} {rr : Nat → Option Res}

theorem step_env {o : Oper} {e e' : List AV} {H H' : List Blk} {r : Option Res} (h : StepAt P ops o e H r e' H') : ∃ v, e' = eput e o.dst v ∧ v = stepV H.length r := by
  cases r with
  | some r => exact ⟨_, h.2.2.1, rfl⟩
  | none => exact ⟨_, h.2.1, rfl⟩

theorem step_heap {o : Oper} {e e' : List AV} {H H' : List Blk} {r : Option Res} (h : StepAt P ops o e H r e' H') : (Res.new r = false ∧ H' = H) ∨ (∃ r', r = some r' ∧ Res.new r = true ∧ H' = H ++ [r'.blk] ∧ r'.add H = H ++ [r'.blk]) := by
  cases r with
  | some r =>
    cases r with
    | val v => exact .inl ⟨rfl, h.2.2.2⟩
    | row e sz es => exact .inr ⟨_, rfl, rfl, h.2.2.2, rfl⟩
    | box t cs => exact .inr ⟨_, rfl, rfl, h.2.2.2, rfl⟩
  | none => exact .inl ⟨rfl, h.2.2⟩

theorem eput_get {e : List AV} {dst : Option Tmp} {v : AV} {t : Nat} (h : dst ≠ some t) : (eput e dst v)[t]? = e[t]? := by
  cases dst with
  | none => rfl
  | some d => simp only [eput]; rw [List.getElem?_set, if_neg (fun hd => h (by rw [hd]))]

theorem eput_len {e : List AV} {dst : Option Tmp} {v : AV} : (eput e dst v).length = e.length := by cases dst <;> simp [eput]

variable (hs : ∀ i o, pre[i]? = some o → StepAt P ops o (en i) (hp i) (rr i) (en (i + 1)) (hp (i + 1)))
include hs

theorem en_len : ∀ i, i ≤ pre.length → (en i).length = (en 0).length := by
  intro i
  induction i with
  | zero => intro _; rfl
  | succ i ih =>
    intro hi
    obtain ⟨v, hv, _⟩ := step_env (hs i _ (List.getElem?_eq_getElem (by omega)))
    rw [hv, eput_len]
    exact ih (by omega)

/-- A slot that nobody writes from 'i' to 'j' stays. -/
theorem en_keep {t : Nat} : ∀ (k i : Nat), i + k ≤ pre.length → (∀ j o, i ≤ j → j < i + k → pre[j]? = some o → o.dst ≠ some t) → (en (i + k))[t]? = (en i)[t]? := by
  intro k
  induction k with
  | zero => intro i _ _; rfl
  | succ k ih =>
    intro i hi h
    obtain ⟨v, hv, _⟩ := step_env (hs (i + k) _ (List.getElem?_eq_getElem (by omega)))
    rw [show i + (k + 1) = i + k + 1 from by omega, hv, eput_get (h (i + k) _ (by omega) (by omega) (List.getElem?_eq_getElem (by omega)))]
    exact ih i (by omega) fun j o h1 h2 h3 => h j o h1 (by omega) h3

theorem hp_pre : ∀ (k i : Nat), i + k ≤ pre.length → ∃ X, hp (i + k) = hp i ++ X := by
  intro k
  induction k with
  | zero => intro i _; exact ⟨[], by simp⟩
  | succ k ih =>
    intro i hi
    obtain ⟨X, hX⟩ := ih i (by omega)
    rcases step_heap (hs (i + k) _ (List.getElem?_eq_getElem (by omega))) with ⟨_, h⟩ | ⟨r', _, _, h, _⟩
    · exact ⟨X, by rw [show i + (k + 1) = i + k + 1 from by omega, h, hX]⟩
    · exact ⟨X ++ [r'.blk], by rw [show i + (k + 1) = i + k + 1 from by omega, h, hX, List.append_assoc]⟩
end
end Go.Proofs.Ytfpbdphdahfgbaa.Fw
