/- The operations that turn nothing that was there: what each yields, and that the machine's does. -/
import Derived.Test.YtfpbdphdahfgbaaFw3
namespace Go.Proofs.Ytfpbdphdahfgbaa.Fw
open Go Go.RowKit

/-- Can a value be taken apart into cells? -/
def okCells : AV → Bool
  | .agg cs => cs.all AV.one
  | .pv (.agg ps) => ps.all PV.one
  | v => v.one

/-- The cells of a struct or an array. -/
def aggA : AV → Option (List AV)
  | .agg cs => some cs
  | .pv (.agg ps) => some (ps.map .pv)
  | _ => none

def setAll : List AV → Nat → List AV → List AV
  | cs, _, [] => cs
  | cs, off, c :: vs => setAll (cs.set off c) (off + 1) vs

def fillA (place : Nat → Option (Nat × Nat)) : List AV → List (Nat × AV) → Option (List AV)
  | cs, [] => some cs
  | cs, (i, v) :: rest => match place i with
    | none => none
    | some (off, size) => if okCells v = true ∧ (cellsA v).length = size ∧ off + size ≤ cs.length then fillA place (setAll cs off (cellsA v)) rest else none

/-- A struct's places. -/
def placesOf (P : Program) : List Field → Option (List (Nat × Nat))
  | [] => some []
  | f :: fs => match tinfo P f.type, placesOf P fs with
    | some (_, s, _), some l => some ((f.offset, s) :: l)
    | _, _ => none

/-- A literal slice's elements, in the order of the text. -/
def litOf (sz : Nat) : Nat → List (Nat × AV) → Option (List (List PV))
  | _, [] => some []
  | n, (i, v) :: rest => if i = n ∧ okCells v = true ∧ (cellsA v).length = sz then
      match toPs (cellsA v), litOf sz (n + 1) rest with
      | some ps, some l => some (ps :: l)
      | _, _ => none
    else none

def CallF (ρ : Operand → AV) (f : Operand) (args : Array Operand) : Option (FuncId × List AV) :=
  match ρ f with
  | .pv (.val (.func (.func g) fs cs)) => if fs.size = 0 ∧ cs.size = 0 then some (g, args.toList.map ρ) else none
  | .fn (.func g) caps => some (g, args.toList.map ρ ++ caps)
  | _ => none

/-- How a call's arguments may be seen by the callee. -/
inductive Conv (H : List Blk) : AV → AV → Prop
  | any (a : AV) : Conv H a .any
  | pv (p : PV) : Conv H (.pv p) (.pv p)
  | bor (es : List (List PV)) : Conv H (.bor es) (.bor es)
  | tight (es : List (List PV)) : Conv H (.tight es) (.tight es)
  | at (cs : List PV) : Conv H (.at cs) (.at cs)
  | imm_bor (es : List (List PV)) : Conv H (.pv (.imm es)) (.bor es)
  | tight_bor (es : List (List PV)) : Conv H (.tight es) (.bor es)
  | nil : Conv H .nil .nil
  | nil_bor : Conv H .nil (.bor [])
  | nil_imm : Conv H .nil (.pv (.imm []))
  | tight_imm (es : List (List PV)) : Conv H (.tight es) (.pv (.imm es))
  | row (id : Nat) (fz : Bool) (e : TypeId) (sz n : Nat) (es : List (List PV)) (h : H[id]? = some (.row fz e sz es)) (hn : n = es.length) : Conv H (.row id n) (.bor es)
  | sub (id n sz i j : Nat) (es : List (List PV)) (h : elemsOf H (.sub id n sz i j) = some es) : Conv H (.sub id n sz i j) (.bor es)
  | frozen (id : Nat) (e : TypeId) (sz n : Nat) (es : List (List PV)) (h : H[id]? = some (.row true e sz es)) (hn : n = es.length) : Conv H (.row id n) (.pv (.imm es))
  | bat (id k : Nat) (t : TypeId) (cs : List AV) (ps : List PV) (h : H[id]? = some (.box t cs)) (hp : toPs (cs.drop k) = some ps) : Conv H (.bat id k) (.at ps)
  | agg (cs ds : List AV) (hl : cs.length = ds.length) (h : ∀ (i : Nat) c d, cs[i]? = some c → ds[i]? = some d → Conv H c d) : Conv H (.agg cs) (.agg ds)
  | aggp (cs : List AV) (ps : List PV) (hp : toPs cs = some ps) : Conv H (.agg cs) (.pv (.agg ps))
  | fn (f : Fn) (cs ds : List AV) (hl : cs.length = ds.length) (h : ∀ (i : Nat) c d, cs[i]? = some c → ds[i]? = some d → Conv H c d) : Conv H (.fn f cs) (.fn f ds)

inductive ConvL (H : List Blk) : List AV → List AV → Prop
  | nil : ConvL H [] []
  | cons {a b : AV} {l m : List AV} (h : Conv H a b) (t : ConvL H l m) : ConvL H (a :: l) (b :: m)

def Ctx.callee (F : Nat → Prop) (base : Nat) : Ctx := { base, F, row := fun _ _ => undef, cur := fun _ => none, box := fun _ => none }

/-- What a call comes to that turns nothing that was there: its arguments' meaning alone decides. -/
structure PCalls (P : Program) (f : FuncId) (args : List AV) (r : Res) : Prop where
  plain : ∀ vs w, (callFunc f vs).run P w = .ok (.enter f vs) w
  run : ∀ (w : World) (F : Nat → Prop) (vs : List Value), (∀ b, F b → b < w.heap.size) → args.length = vs.length →
    (∀ (i : Nat) a v, args[i]? = some a → vs[i]? = some v → Rep w (Ctx.callee F w.heap.size) a v) →
    Calls P f vs.toArray w fun en w' => Below w.heap.size w w' ∧ ∃ u, en = .returned u ∧ ResOk w w' (Ctx.callee F 0) u r

def BuiltQ (P : Program) (b : Builtin) (ρ : Operand → AV) (H : List Blk) (r : Res) (args : List Operand) (ts : List TypeId) : Prop :=
  match b, args, ts with
  | .len, [x], [t] => ∃ el, P.underlying t = some (.slice el) ∧ ∃ es, elemsOf H (ρ x) = some es ∧ r = .val (.pv (.val (.int .i64 es.length)))
  | .min, [x, y], _ =>
    match ρ x, ρ y with
    | .pv (.val (.int k a)), .pv (.val (.int _ b)) => r = .val (.pv (.val (.int k (if b < a then b else a))))
    | _, _ => False
  | .max, [x, y], _ =>
    match ρ x, ρ y with
    | .pv (.val (.int k a)), .pv (.val (.int _ b)) => r = .val (.pv (.val (.int k (if a < b then b else a))))
    | _, _ => False
  | .append, [s, x], [t, t'] => ∃ el z sz b es xs, t = t' ∧ (ρ s = .tight es ∨ (ρ s = .nil ∧ es = [])) ∧ elemsOf H (ρ x) = some xs ∧ (∀ l ∈ es ++ xs, l.length = sz) ∧ P.underlying t = some (.slice el) ∧
      tinfo P el = some (some z, sz, b) ∧ z.cells.size = sz ∧ 0 < sz ∧ (es.length + xs.length) * b ≤ 140737488355328 ∧ es.length + xs.length ≤ maxLen ∧
      ((r = .row el sz (es ++ xs) ∧ 0 < xs.length) ∨ r = .val (.pv (.imm (es ++ xs))))
  | _, _, _ => False

def CallQ (P : Program) (c : Call) (ρ : Operand → AV) (H : List Blk) (r : Res) : Prop :=
  match c.callee with
  | .builtin b => BuiltQ P b ρ H r c.args.toList c.argTypes.toList
  | .value f => ∃ g as bs, CallF ρ f c.args = some (g, as) ∧ PCalls P g bs r ∧ ConvL H as bs
  | _ => False

def BinQ (P : Program) (op : BinOp) (t : TypeId) (x y : AV) (r : Res) : Prop :=
  match x, y with
  | .pv (.val (.int k a)), .pv (.val (.int k' b)) => ∃ v, IntBin op k a k' b v ∧ r = .val (.pv (.val v))
  | .pv (.val (.bool a)), .pv (.val (.bool b)) => P.underlying t = some .bool ∧ ((op = .eql ∧ r = .val (.pv (.val (.bool (a == b))))) ∨ (op = .neq ∧ r = .val (.pv (.val (.bool (a != b))))))
  | _, _ => False

def QR (P : Program) (o : Oper) (ρ : Operand → AV) (H : List Blk) (r : Res) : Prop :=
  match o.op with
  | .move x | .assign x => r = .val (ρ x)
  | .pick c x y => ∃ b : Bool, ρ c = .pv (.val (.bool b)) ∧ r = .val (if b then ρ x else ρ y)
  | .binOp op t x y _ => BinQ P op t (ρ x) (ρ y) r ∨
      (ρ y = .nil ∧ ∃ el es, P.underlying t = some (.slice el) ∧ elemsOf H (ρ x) = some es ∧ 0 < es.length ∧ ((op = .eql ∧ r = .val (.pv (.val (.bool false)))) ∨ (op = .neq ∧ r = .val (.pv (.val (.bool true))))))
  | .unOp op _ x =>
    match op, ρ x with
    | .not, .pv (.val (.bool b)) => r = .val (.pv (.val (.bool (!b))))
    | .neg, .pv (.val (.int k n)) => r = .val (.pv (.val (.int k (k.wrap (0 - n)))))
    | .xor, .pv (.val (.int k n)) => r = .val (.pv (.val (.int k (k.wrap (BitVec.ofInt k.bits (if k.signed then -1 else k.max) ^^^ BitVec.ofInt k.bits n).toNat))))
    | _, _ => False
  | .convert s d x =>
    match ρ x with
    | .pv (.val (.int _ n)) => ∃ k, P.underlying d = some (.int k) ∧ (P.underlying s).isSome = true ∧ r = .val (.pv (.val (.int k (k.wrap n))))
    | _ => False
  | .makeFunc fn first caps => first = #[] ∧ r = .val (.fn fn (caps.toList.map ρ))
  | .extract t i =>
    match ρ t with
    | .tup vs => ∃ v, vs[i]? = some v ∧ r = .val v
    | _ => False
  | .nilCheck x =>
    match ρ x with
    | .rat id n k => r = .val (.rat id n k)
    | .at cs => r = .val (.at cs)
    | .bat id k => r = .val (.bat id k)
    | _ => False
  | .box t x => okCells (ρ x) = true ∧ r = .box t (cellsA (ρ x))
  | .alloc t => ∃ z s b, tinfo P t = some (some z, s, b) ∧ z.cells.all (·.oneCell') = true ∧ r = .box t (z.cells.toList.map cv)
  | .build t parts => ∃ z s b pl cs, ((∃ fs l, P.underlying t = some (.struct fs) ∧ placesOf P fs.toList = some l ∧ pl = (l[·]?)) ∨ (∃ n el z' sz b', P.underlying t = some (.array n el) ∧ tinfo P el = some (z', sz, b') ∧ pl = fun i => some (i * sz, sz))) ∧ tinfo P t = some (some z, s, b) ∧
      fillA pl (z.cells.toList.map cv) (parts.toList.map fun p => (p.1, ρ p.2)) = some cs ∧ r = .val (.agg cs)
  | .buildSlice t n parts => ∃ el z s b es, P.underlying t = some (.slice el) ∧ tinfo P el = some (some z, s, b) ∧ 0 < s ∧ z.cells.size = s ∧ n * s ≤ 16777216 ∧
      litOf s 0 (parts.toList.map fun p => (p.1, ρ p.2)) = some es ∧ es.length = n ∧ (r = .val (.tight es) ∨ r = .row el s es)
  | .load t x =>
    match ρ x with
    | .at cs => (isAggT P t = some false ∧ ∃ p, cs[0]? = some p ∧ r = .val (.pv p)) ∨
        (isAggT P t = some true ∧ ∃ z s b, tinfo P t = some (z, s, b) ∧ s ≤ cs.length ∧ r = .val (.pv (.agg (cs.take s))))
    | .rat id n k => ∃ fz e sz es i off el, H[id]? = some (.row fz e sz es) ∧ es.length = n ∧ k = i * sz + off ∧ es[i]? = some el ∧
        ((isAggT P t = some false ∧ ∃ p, el[off]? = some p ∧ r = .val (.pv p)) ∨
         (isAggT P t = some true ∧ ∃ z s b, tinfo P t = some (z, s, b) ∧ off + s ≤ el.length ∧ r = .val (.pv (.agg ((el.drop off).take s)))))
    | .bat id k => ∃ bt cs, H[id]? = some (.box bt cs) ∧
        ((isAggT P t = some false ∧ ∃ v, cs[k]? = some v ∧ r = .val v) ∨
         (isAggT P t = some true ∧ ∃ z s b, tinfo P t = some (z, s, b) ∧ k + s ≤ cs.length ∧ r = .val (.agg ((cs.drop k).take s))))
    | _ => False
  | .makeSlice t l c =>
    match ρ l, ρ c with
    | .pv (.val (.int .i64 n)), .pv (.val (.int .i64 m)) => ∃ el z b, n = m ∧ 0 ≤ n ∧ P.underlying t = some (.slice el) ∧ tinfo P el = some (some z, 1, b) ∧ z.oneCell' = true ∧ n * b ≤ 140737488355328 ∧ n ≤ 9223372036854775807 ∧
        ∃ p, toP (cv z) = some p ∧ r = .row el 1 (List.replicate n.toNat [p])
    | _, _ => False
  | .slice t x lo hi mx =>
      ∃ el z s b, P.underlying t = some (.slice el) ∧ tinfo P el = some (z, s, b) ∧ 0 < s ∧
      ∃ es, elemsOf H (ρ x) = some es ∧ (∀ l ∈ es, l.length = s) ∧
      ∃ i j : Nat, i ≤ j ∧ j ≤ es.length ∧ (match lo with | some l => ρ l = .pv (.val (.int .i64 i)) | none => i = 0) ∧ (match hi with | some h => ρ h = .pv (.val (.int .i64 j)) | none => j = es.length ∧ mx = none) ∧
        (match mx with | some m => ρ m = .pv (.val (.int .i64 j)) | none => True) ∧
        (match ρ x with
          | .pv _ | .tight _ => (mx = none ∧ r = .val (.pv (.imm ((es.take j).drop i)))) ∨ (mx.isSome = true ∧ r = .val (.tight ((es.take j).drop i)))
          | .bor _ => mx = none ∧ r = .val (.bor ((es.take j).drop i))
          | .row id n => mx = none ∧ r = .val (.sub id n s i j)
          | _ => False)
  | .fieldAddr s x f => ∃ fs fd z sz b, P.underlying s = some (.struct fs) ∧ fs[f]? = some fd ∧ tinfo P fd.type = some (z, sz, b) ∧ 0 < sz ∧
      match ρ x with
      | .at cs => r = .val (.at (cs.drop fd.offset))
      | .rat id n k => r = .val (.rat id n (k + fd.offset))
      | .bat id k => r = .val (.bat id (k + fd.offset))
      | _ => False
  | .field t x f => ∃ fs fd, P.underlying t = some (.struct fs) ∧ fs[f]? = some fd ∧ ∃ cs, aggA (ρ x) = some cs ∧
      ((isAggT P fd.type = some false ∧ ∃ v, cs[fd.offset]? = some v ∧ r = .val v) ∨
       (isAggT P fd.type = some true ∧ ∃ z s b, tinfo P fd.type = some (z, s, b) ∧ fd.offset + s ≤ cs.length ∧ r = .val (.agg ((cs.drop fd.offset).take s))))
  | .indexAddr t x ix => (∃ el z s b, P.underlying t = some (.slice el) ∧ tinfo P el = some (z, s, b) ∧
      ∃ (k : IntKind) (i : Nat), ρ ix = .pv (.val (.int k i)) ∧
        match ρ x with
        | .row id n => ∃ fz e es, H[id]? = some (.row fz e s es) ∧ es.length = n ∧ i < n ∧ r = .val (.rat id n (i * s))
        | .pv (.imm es) | .bor es | .tight es => ∃ l, es[i]? = some l ∧ l.length = s ∧ r = .val (.at l)
        | _ => False) ∨
      (∃ n el z s b, P.underlying t = some (.array n el) ∧ tinfo P el = some (z, s, b) ∧
      ∃ (k : IntKind) (i : Nat), ρ ix = .pv (.val (.int k i)) ∧ i < n ∧
        match ρ x with
        | .bat id j => r = .val (.bat id (j + i * s))
        | .at cs => r = .val (.at (cs.drop (i * s)))
        | .rat id m j => r = .val (.rat id m (j + i * s))
        | _ => False)
  | .index t x ix => (∃ n el z s b, P.underlying t = some (.array n el) ∧ tinfo P el = some (z, s, b) ∧ s = 1 ∧ isAggT P el = some false ∧
      ∃ (k : IntKind) (i : Nat), ρ ix = .pv (.val (.int k i)) ∧ i < n ∧ ∃ cs v, aggA (ρ x) = some cs ∧ cs[i]? = some v ∧ r = .val v) ∨
      (∃ (k : IntKind) (i : Nat) (bs : ByteArray) (b : UInt8), P.underlying t = some .string ∧ ρ ix = .pv (.val (.int k i)) ∧ ρ x = .pv (.val (.string bs)) ∧ bs[i]? = some b ∧ r = .val (.pv (.val (.int .u8 b.toNat))))
  | .call c => CallQ P c ρ H r
  | _ => False
end Go.Proofs.Ytfpbdphdahfgbaa.Fw
