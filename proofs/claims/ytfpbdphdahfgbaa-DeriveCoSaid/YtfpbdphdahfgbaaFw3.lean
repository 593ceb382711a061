/- What an operation that turns nothing yields, said of abstract values; that the machine's operation yields it. -/
import Derived.Test.YtfpbdphdahfgbaaFw2
namespace Go.Proofs.Ytfpbdphdahfgbaa.Fw
open Go Go.RowKit

/-- What an operation yields: a value, a new row, a new variable. -/
inductive Res where
  | val (v : AV)
  | row (e : TypeId) (sz : Nat) (es : List (List PV))
  | box (t : TypeId) (cs : List AV)

def tinfo (P : Program) (t : TypeId) : Option (Option Value × Nat × Nat) := (P.info? t).map fun i => (i.zero, i.size, i.bytes)

def isAggT (P : Program) (t : TypeId) : Option Bool :=
  match P.underlying t with
  | some (.struct _) | some (.array _ _) => some true
  | some _ => some false
  | none => none

/-- A constant. -/
def cv : Value → AV
  | .slice none 0 0 => .nil
  | v => .pv (.val v)

def ev (e : List AV) : Operand → AV
  | .tmp t => e.getD t .any
  | .const v => cv v
  | .func f => .pv (.val (.func (.func f) #[] #[]))
  | .global _ => .any

/-- As plain data, if it is. -/
def toP : AV → Option PV
  | .pv p => some p
  | .tight es => some (.imm es)
  | .nil => some (.imm [])
  | _ => none

def toPs : List AV → Option (List PV)
  | [] => some []
  | v :: l => match toP v, toPs l with
    | some p, some ps => some (p :: ps)
    | _, _ => none

/-- A value's cells. -/
def cellsA : AV → List AV
  | .agg cs => cs
  | .pv (.agg ps) => ps.map .pv
  | v => [v]

def PV.one : PV → Bool
  | .val v => v.oneCell'
  | .agg _ => false
  | .imm _ => true

def AV.one : AV → Bool
  | .pv p => p.one
  | .nil | .row _ _ | .sub _ _ _ _ _ | .bor _ | .tight _ | .rat _ _ _ | .at _ | .bat _ _ | .fn _ _ => true
  | _ => false

/-- The elements of a slice that can be read. -/
def elemsOf (H : List Blk) : AV → Option (List (List PV))
  | .pv (.imm es) | .bor es | .tight es => some es
  | .nil => some []
  | .row id n => match H[id]? with
    | some (.row _ _ _ es) => if es.length = n then some es else none
    | _ => none
  | .sub id n sz i j => match H[id]? with
    | some (.row _ _ sz' es) => if es.length = n ∧ sz = sz' then some ((es.take j).drop i) else none
    | _ => none
  | _ => none

theorem repP_one {w : World} {F : Nat → Prop} {p : PV} {v : Value} (h : RepP w F p v) (ho : p.one = true) : v.oneCell' = true := by
  cases h with
  | val v => exact ho
  | agg cs vs hl h => simp [PV.one] at ho
  | imm es A cap sz vs hc hm hsz ha h => rfl

theorem rep_one {w : World} {σ : Ctx} {a : AV} {v : Value} (h : Rep w σ a v) (ho : a.one = true) : v.oneCell' = true := by
  cases h <;> first
    | rfl
    | (simp [AV.one] at ho; done)
    | assumption
    | (rename_i h; exact repP_one h ho)

theorem rep_toP {w : World} {σ : Ctx} {a : AV} {v : Value} (h : Rep w σ a v) {p : PV} (hp : toP a = some p) : RepP w σ.F p v := by
  cases h with
  | pv h => simp [toP] at hp; subst hp; exact h
  | tight es A sz hm h => simp [toP] at hp; subst hp; exact repP_imm.2 ⟨A, es.length, sz, rfl, Nat.le_refl _, hm, h⟩
  | nil => simp [toP] at hp; subst hp; exact repP_imm.2 ⟨none, 0, 0, rfl, by simp, by simp, by simp, fun h => absurd h (by simp)⟩
  | _ => simp [toP] at hp

theorem rep_cv (w : World) (σ : Ctx) (v : Value) : Rep w σ (cv v) v := by
  unfold cv
  split
  · exact .nil
  · exact .pv (.val _)

theorem rep_ev {w : World} {σ : Ctx} {e : List AV} {a : Act} (h : ∀ t v, e[t]? = some v → Rep w σ v (a.tmps.getD t undef)) (x : Operand) : Rep w σ (ev e x) (a.eval x) := by
  cases x with
  | tmp t =>
    simp only [ev, Act.eval]
    cases ht : e[t]? with
    | none => simp only [List.getD_eq_getElem?_getD, ht, Option.getD_none]; exact .any _
    | some v => simp only [List.getD_eq_getElem?_getD, ht, Option.getD_some]; exact h t v ht
  | const v => exact rep_cv w σ v
  | func f => exact .pv (.val _)
  | global g => exact .any _

/-- What the result says of the world behind the operation. -/
def ResOk (w w' : World) (σ : Ctx) (u : Value) : Res → Prop
  | .val v => ∃ G : Nat → Prop, (∀ b, G b → w.heap.size ≤ b ∧ b < w'.heap.size) ∧ Rep w' (σ.more G) v u
  | .row e sz es => ∃ (G : Nat → Prop) (xs : List Value), (∀ b, G b → w.heap.size ≤ b ∧ b < w'.heap.size) ∧ 0 < sz ∧ w'.ownsRow w.heap.size e sz u es.length xs ∧ (∀ l ∈ es, l.length = sz) ∧
      (∀ (k : Nat) p, es.flatten[k]? = some p → ∃ v, xs[k]? = some v ∧ v.oneCell' = true ∧ RepP w' (σ.more G).F p v) ∧ ∀ g, u.ownBlock = some g → ¬ G g
  | .box t cs => ∃ (g : Nat) (vs : List Value), w.heap.size ≤ g ∧ u = .pointer (some ⟨g, 0, none⟩) ∧ w'.heap[g]? = some (.cells vs.toArray t (0, 0)) ∧ cs.length = vs.length ∧
      ∀ (i : Nat) a v, cs[i]? = some a → vs[i]? = some v → Rep w' σ a v ∧ v.oneCell' = true

def IntBin (op : BinOp) (k : IntKind) (a : Int) (k' : IntKind) (b : Int) (v : Value) : Prop :=
  match op with
  | .add => k = k' ∧ v = .int k (k.wrap (a + b))
  | .sub => k = k' ∧ v = .int k (k.wrap (a - b))
  | .mul => k = k' ∧ v = .int k (k.wrap (a * b))
  | .quo => k = k' ∧ b ≠ 0 ∧ v = .int k (k.wrap (a.tdiv b))
  | .rem => k = k' ∧ b ≠ 0 ∧ v = .int k (a.tmod b)
  | .and => k = k' ∧ v = .int k (k.wrap (BitVec.ofInt k.bits a &&& BitVec.ofInt k.bits b).toNat)
  | .or => k = k' ∧ v = .int k (k.wrap (BitVec.ofInt k.bits a ||| BitVec.ofInt k.bits b).toNat)
  | .xor => k = k' ∧ v = .int k (k.wrap (BitVec.ofInt k.bits a ^^^ BitVec.ofInt k.bits b).toNat)
  | .andNot => k = k' ∧ v = .int k (k.wrap (BitVec.ofInt k.bits a &&& ~~~BitVec.ofInt k.bits b).toNat)
  | .shl => 0 ≤ b ∧ v = .int k (k.wrap (a * 2 ^ min b.toNat k.bits))
  | .shr => 0 ≤ b ∧ v = .int k (a.fdiv (2 ^ min b.toNat k.bits))
  | .eql => k = k' ∧ v = .bool (a == b)
  | .neq => k = k' ∧ v = .bool (a != b)
  | .lss => k = k' ∧ v = .bool (decide (a < b))
  | .leq => k = k' ∧ v = .bool (decide (a ≤ b))
  | .gtr => k = k' ∧ v = .bool (decide (b < a))
  | .geq => k = k' ∧ v = .bool (decide (b ≤ a))

theorem run_intBin (P : Program) (w : World) (op : BinOp) (t : TypeId) (x y : Operand) (k : IntKind) (a : Int) (k' : IntKind) (b : Int) (v : Value) (h : IntBin op k a k' b v) :
    (do eqGuard op t x y (.int k a) (.int k' b); binOp op t (.int k a) (.int k' b) : Sem Value).run P w = .ok v w := by
  cases op <;> simp only [IntBin] at h
  case shl =>
    obtain ⟨h0, rfl⟩ := h
    have h1 : ¬ b < 0 := by omega
    simp [eqGuard, binOp, Op.shift, h1]
  case shr =>
    obtain ⟨h0, rfl⟩ := h
    have h1 : ¬ b < 0 := by omega
    simp [eqGuard, binOp, Op.shift, h1]
  all_goals first
    | (obtain ⟨rfl, h0, rfl⟩ := h; simp [eqGuard, binOp, Op.intDiv, h0]; done)
    | (obtain ⟨rfl, rfl⟩ := h; simp [eqGuard, binOp, Op.intArith, Op.intBits, Op.intCmp]; done)
end Go.Proofs.Ytfpbdphdahfgbaa.Fw
