/- Steps for the symbolic walk: one rule for each kind of operation. -/
import Derived.Test.YtfpbdphdahfgbaaFw24
namespace Go.Proofs.Ytfpbdphdahfgbaa.Fw
open Go Go.RowKit

/-- Neither turns a block nor calls. -/
def quietOp : Op → Bool
  | .store .. => false
  | .call ⟨.builtin .append, _, _⟩ | .call ⟨.builtin .copy, _, _⟩ => false
  | .call ⟨.builtin _, _, _⟩ | .call ⟨.value _, _, _⟩ => true
  | .call _ => false
  | _ => true

/-- What a plain simplification may step over. -/
def autoOp : Op → Bool
  | .move .. | .assign .. | .pick .. | .binOp .. | .unOp .. | .convert .. | .makeFunc .. | .extract .. | .nilCheck .. | .load .. | .box .. | .field .. | .fieldAddr .. | .makeSlice .. | .index .. => true
  | .call ⟨.builtin .len, _, _⟩ | .call ⟨.builtin .min, _, _⟩ | .call ⟨.builtin .max, _, _⟩ => true
  | _ => false

section
variable {P : Program} {n : Nat} {Q : Exit → List AV → List Blk → Prop} {e : List AV} {H : List Blk} {K : List AV → List Blk → Prop} {all : Array Oper} {o : Oper} {rest : List Oper} {m : Nat}

theorem aOp.ofQ {Kv : AV → List Blk → Prop} (hq : quietOp o.op = true) (h : QK P o e H Kv) : aOp P o e H Kv := by
  unfold aOp
  split
  · rename_i ho; simp [ho, quietOp] at hq
  · rename_i c ho
    split
    · rename_i b hc
      obtain ⟨cal, as, ts⟩ := c
      simp only at hc
      subst hc
      unfold BuiltK
      split
      · simp [ho, quietOp] at hq
      · simp [ho, quietOp] at hq
      · exact h
    · exact .inl h
    · obtain ⟨cal, as, ts⟩ := c
      cases cal <;> simp_all [quietOp]
  · exact h

theorem aOps_s (hg : o.guard = none) (hm : (decide (0 < m) || quietOp o.op) = true) (h : QK P o e H (fun v H' => aOps P all (m - 1) rest (eput e o.dst v) H' K)) : aOps P all m (o :: rest) e H K := by
  unfold aOps
  simp only [hg]
  split
  · exact h
  · rename_i h0
    refine aOp.ofQ ?_ h
    simpa [h0] using hm
theorem aOps_a (hg : o.guard = none) (ha : autoOp o.op = true) (hm : (decide (0 < m) || quietOp o.op) = true) (h : QK P o e H (fun v H' => aOps P all (m - 1) rest (eput e o.dst v) H' K)) : aOps P all m (o :: rest) e H K := aOps_s hg hm h
/-- One that is wanted. -/
theorem aOps_y {g d : Nat} {want : Bool} (hg : o.guard = some (g, want)) (hm : (decide (0 < m) || quietOp o.op) = true) (hd : (all[g]?).bind (·.dst) = some d) (he : e[d]? = some (.pv (.val (.bool want)))) (h : QK P o e H (fun v H' => aOps P all (m - 1) rest (eput e o.dst v) H' K)) : aOps P all m (o :: rest) e H K := by
  have e1 : e.set d (.pv (.val (.bool want))) = e := env_set_same he
  unfold aOps
  simp only [hg, hd]
  refine .inl ⟨want, he, fun _ => ?_, fun h => by cases want <;> simp at h⟩
  rw [e1]
  split
  · exact h
  · rename_i h0
    refine aOp.ofQ ?_ h
    simpa [h0] using hm
theorem aOps_ya {g d : Nat} {want : Bool} (hg : o.guard = some (g, want)) (ha : autoOp o.op = true) (hm : (decide (0 < m) || quietOp o.op) = true) (hd : (all[g]?).bind (·.dst) = some d) (he : e[d]? = some (.pv (.val (.bool want)))) (h : QK P o e H (fun v H' => aOps P all (m - 1) rest (eput e o.dst v) H' K)) : aOps P all m (o :: rest) e H K := aOps_y hg hm hd he h
/-- One that is not wanted. -/
theorem aOps_z {g d : Nat} {want : Bool} (hg : o.guard = some (g, want)) (hd : (all[g]?).bind (·.dst) = some d) (he : e[d]? = some (.pv (.val (.bool !want)))) (h : aOps P all (m - 1) rest (eput e o.dst und) H K) : aOps P all m (o :: rest) e H K := by
  have e1 : e.set d (.pv (.val (.bool !want))) = e := env_set_same he
  unfold aOps
  simp only [hg, hd]
  refine .inl ⟨!want, he, fun h => by cases want <;> simp at h, fun _ => ?_⟩
  rw [e1]
  exact h
/-- One whose guard was left out itself. -/
theorem aOps_u {g d : Nat} {want : Bool} (hg : o.guard = some (g, want)) (hd : (all[g]?).bind (·.dst) = some d) (he : e[d]? = some und) (h : aOps P all (m - 1) rest (eput e o.dst und) H K) : aOps P all m (o :: rest) e H K := by
  unfold aOps
  simp only [hg, hd]
  exact .inr ⟨he, h⟩

variable {Kv : AV → List Blk → Prop}

theorem QK.lit {t el : TypeId} {k s b : Nat} {parts : Array (Nat × Operand)} {z : Value} {es : List (List PV)} (ho : o.op = .buildSlice t k parts) (hu : P.underlying t = some (.slice el)) (ht : tinfo P el = some (some z, s, b)) (hes : litOf s 0 (parts.toList.map fun p => (p.1, ev e p.2)) = some es)
    (h0 : (decide (0 < s) && z.cells.size == s && decide (k * s ≤ 16777216) && es.length == k) = true) (h : Kv (.tight es) H) : QK P o e H Kv := by
  simp only [Bool.and_eq_true, decide_eq_true_eq, beq_iff_eq] at h0
  exact ⟨.val (.tight es), by simp only [QR, ho]; exact ⟨el, z, s, b, es, hu, ht, h0.1.1.1, h0.1.1.2, h0.1.2, hes, h0.2, .inl rfl⟩, h⟩
theorem QK.litRow {t el : TypeId} {k s b : Nat} {parts : Array (Nat × Operand)} {z : Value} {es : List (List PV)} (ho : o.op = .buildSlice t k parts) (hu : P.underlying t = some (.slice el)) (ht : tinfo P el = some (some z, s, b)) (hes : litOf s 0 (parts.toList.map fun p => (p.1, ev e p.2)) = some es)
    (h0 : (decide (0 < s) && z.cells.size == s && decide (k * s ≤ 16777216) && es.length == k) = true) (h : Kv (.row H.length es.length) (H ++ [.row false el s es])) : QK P o e H Kv := by
  simp only [Bool.and_eq_true, decide_eq_true_eq, beq_iff_eq] at h0
  exact ⟨.row el s es, by simp only [QR, ho]; exact ⟨el, z, s, b, es, hu, ht, h0.1.1.1, h0.1.1.2, h0.1.2, hes, h0.2, .inr rfl⟩, h⟩

theorem QK.build {t : TypeId} {parts : Array (Nat × Operand)} {fs : Array Field} {l : List (Nat × Nat)} {z : Value} {s b : Nat} {cs : List AV} (ho : o.op = .build t parts) (hu : P.underlying t = some (.struct fs)) (hl : placesOf P fs.toList = some l) (ht : tinfo P t = some (some z, s, b))
    (hf : fillA (l[·]?) (z.cells.toList.map cv) (parts.toList.map fun p => (p.1, ev e p.2)) = some cs) (h : Kv (.agg cs) H) : QK P o e H Kv :=
  ⟨.val (.agg cs), by simp only [QR, ho]; exact ⟨z, s, b, _, cs, .inl ⟨fs, l, hu, hl, rfl⟩, ht, hf, rfl⟩, h⟩
theorem QK.buildArr {t el : TypeId} {parts : Array (Nat × Operand)} {n sz b' : Nat} {z' : Option Value} {z : Value} {s b : Nat} {cs : List AV} (ho : o.op = .build t parts) (hu : P.underlying t = some (.array n el)) (hl : tinfo P el = some (z', sz, b')) (ht : tinfo P t = some (some z, s, b))
    (hf : fillA (fun i => some (i * sz, sz)) (z.cells.toList.map cv) (parts.toList.map fun p => (p.1, ev e p.2)) = some cs) (h : Kv (.agg cs) H) : QK P o e H Kv :=
  ⟨.val (.agg cs), by simp only [QR, ho]; exact ⟨z, s, b, _, cs, .inr ⟨n, el, z', sz, b', hu, hl, rfl⟩, ht, hf, rfl⟩, h⟩

theorem QK.alloc {t : TypeId} {s b : Nat} {z : Value} {cs : List AV} (ho : o.op = .alloc t) (ht : tinfo P t = some (some z, s, b)) (hz : z.cells.all (·.oneCell') = true) (hcs : z.cells.toList.map cv = cs) (h : Kv (.bat H.length 0) (H ++ [.box t cs])) : QK P o e H Kv :=
  ⟨.box t cs, by simp only [QR, ho]; exact ⟨z, s, b, ht, hz, by rw [hcs]⟩, h⟩

/-- A string's byte. -/
theorem QK.str {t : TypeId} {x ix : Operand} {k : IntKind} {i : Nat} {bs : ByteArray} (ho : o.op = .index t x ix) (hu : P.underlying t = some .string) (hx : ev e x = .pv (.val (.string bs))) (hi : ev e ix = .pv (.val (.int k i))) (hl : i < bs.size) (h : ∀ n : Nat, n < 256 → Kv (.pv (.val (.int .u8 n))) H) : QK P o e H Kv :=
  ⟨.val (.pv (.val (.int .u8 bs[i].toNat))), by simp only [QR, ho]; exact .inr ⟨k, i, bs, bs[i], hu, hi, hx, by rw [getElem?_pos bs i hl], rfl⟩, h _ bs[i].toNat_lt⟩

/-- An element's place, of a slice that is not an own row. -/
theorem QK.at {t el : TypeId} {x ix : Operand} {z : Option Value} {s b i : Nat} {k : IntKind} {es : List (List PV)} {l : List PV} {v : AV} (ho : o.op = .indexAddr t x ix) (hu : P.underlying t = some (.slice el)) (ht : tinfo P el = some (z, s, b)) (hx : ev e x = v) (hv : v = .bor es ∨ v = .pv (.imm es) ∨ v = .tight es)
    (hi : ev e ix = .pv (.val (.int k i))) (hl : es[i]? = some l) (hs : l.length = s) (h : Kv (.at l) H) : QK P o e H Kv := by
  subst hx
  refine ⟨.val (.at l), ?_, h⟩
  simp only [QR, ho]
  refine .inl ⟨el, z, s, b, hu, ht, k, i, hi, ?_⟩
  rcases hv with hv | hv | hv <;> (rw [hv]; exact ⟨l, hl, hs, rfl⟩)

theorem QK.rat {t el el' : TypeId} {x ix : Operand} {z : Option Value} {s b i id c : Nat} {k : IntKind} {fz : Bool} {es : List (List PV)} (ho : o.op = .indexAddr t x ix) (hu : P.underlying t = some (.slice el)) (ht : tinfo P el = some (z, s, b)) (hx : ev e x = .row id c) (hH : H[id]? = some (.row fz el' s es)) (hc : es.length = c)
    (hi : ev e ix = .pv (.val (.int k i))) (hl : i < c) (h : Kv (.rat id c (i * s)) H) : QK P o e H Kv := by
  refine ⟨.val (.rat id c (i * s)), ?_, h⟩
  simp only [QR, ho]
  exact .inl ⟨el, z, s, b, hu, ht, k, i, hi, by rw [hx]; exact ⟨fz, el', es, hH, hc, hl, rfl⟩⟩

/-- A place of an array that lies in memory. -/
theorem QK.ibat {t el : TypeId} {x ix : Operand} {z : Option Value} {s b i n id j : Nat} {k : IntKind} (ho : o.op = .indexAddr t x ix) (hu : P.underlying t = some (.array n el)) (ht : tinfo P el = some (z, s, b)) (hx : ev e x = .bat id j)
    (hi : ev e ix = .pv (.val (.int k i))) (hl : i < n) (h : Kv (.bat id (j + i * s)) H) : QK P o e H Kv := by
  refine ⟨.val (.bat id (j + i * s)), ?_, h⟩
  simp only [QR, ho]
  exact .inr ⟨n, el, z, s, b, hu, ht, k, i, hi, hl, by rw [hx]⟩
theorem QK.iat {t el : TypeId} {x ix : Operand} {z : Option Value} {s b i n : Nat} {k : IntKind} {cs : List PV} (ho : o.op = .indexAddr t x ix) (hu : P.underlying t = some (.array n el)) (ht : tinfo P el = some (z, s, b)) (hx : ev e x = .at cs)
    (hi : ev e ix = .pv (.val (.int k i))) (hl : i < n) (h : Kv (.at (cs.drop (i * s))) H) : QK P o e H Kv := by
  refine ⟨.val (.at (cs.drop (i * s))), ?_, h⟩
  simp only [QR, ho]
  exact .inr ⟨n, el, z, s, b, hu, ht, k, i, hi, hl, by rw [hx]⟩

/-- What stands at an element's place, of an own row. -/
theorem QK.loadRat {t : TypeId} {x : Operand} {id c k i off sz : Nat} {fz : Bool} {el : TypeId} {es : List (List PV)} {l : List PV} {p : PV} (ho : o.op = .load t x) (hx : ev e x = .rat id c k) (hH : H[id]? = some (.row fz el sz es)) (hc : es.length = c) (hk : k = i * sz + off) (hl : es[i]? = some l) (ha : isAggT P t = some false) (hp : l[off]? = some p)
    (h : Kv (.pv p) H) : QK P o e H Kv := by
  refine ⟨.val (.pv p), ?_, h⟩
  simp only [QR, ho, hx]
  exact ⟨fz, el, sz, es, i, off, l, hH, hc, hk, hl, .inl ⟨ha, p, hp, rfl⟩⟩
theorem QK.loadRatAgg {t : TypeId} {x : Operand} {id c k i off sz s b : Nat} {z : Option Value} {fz : Bool} {el : TypeId} {es : List (List PV)} {l : List PV} (ho : o.op = .load t x) (hx : ev e x = .rat id c k) (hH : H[id]? = some (.row fz el sz es)) (hc : es.length = c) (hk : k = i * sz + off) (hl : es[i]? = some l) (ha : isAggT P t = some true)
    (ht : tinfo P t = some (z, s, b)) (hs : off + s ≤ l.length) (h : Kv (.pv (.agg ((l.drop off).take s))) H) : QK P o e H Kv := by
  refine ⟨.val (.pv (.agg ((l.drop off).take s))), ?_, h⟩
  simp only [QR, ho, hx]
  exact ⟨fz, el, sz, es, i, off, l, hH, hc, hk, hl, .inr ⟨ha, z, s, b, ht, hs, rfl⟩⟩

/-- A store to an element of an own row. -/
theorem aOp.put {t el : TypeId} {x y : Operand} {id c k i sz b : Nat} {z : Option Value} {es : List (List PV)} {ps : List PV} (ho : o.op = .store t x y) (hx : ev e x = .rat id c k) (hH : H[id]? = some (.row false el sz es)) (hc : es.length = c) (hk : k = i * sz) (hi : i < c) (hy : okCells (ev e y) = true) (hps : toPs (cellsA (ev e y)) = some ps) (hs : ps.length = sz)
    (ht : tinfo P t = some (z, sz, b)) (h : Kv .any (H.set id (.row false el sz (es.set i ps)))) : aOp P o e H Kv := by
  unfold aOp
  simp only [ho, StoreQ, hx]
  exact ⟨i, el, sz, b, z, es, ps, hk, hH, hc, hi, hy, hps, hs, ht, h⟩
/-- A store to a variable in memory. -/
theorem aOp.set {t bt : TypeId} {x y : Operand} {id k s b : Nat} {z : Option Value} {cs : List AV} (ho : o.op = .store t x y) (hx : ev e x = .bat id k) (hH : H[id]? = some (.box bt cs)) (hy : okCells (ev e y) = true) (hks : (cellsA (ev e y)).length = s ∧ k + s ≤ cs.length) (ht : tinfo P t = some (z, s, b))
    (h : Kv .any (H.set id (.box bt (setAll cs k (cellsA (ev e y)))))) : aOp P o e H Kv := by
  unfold aOp
  simp only [ho, StoreQ, hx]
  exact ⟨s, b, z, bt, cs, hH, hy, by rw [hks.1]; exact hks.2, hks.1, ht, h⟩

/-- An append to an own row. -/
theorem aOp.app {t el : TypeId} {s x : Operand} {id c sz b : Nat} {z : Value} {es xs : List (List PV)} (ho : o.op = .call ⟨.builtin .append, #[s, x], #[t, t]⟩) (hs : ev e s = .row id c) (hH : H[id]? = some (.row false el sz es)) (hc : es.length = c) (hxs : elemsOf H (ev e x) = some xs) (hl : ∀ l ∈ xs, l.length = sz)
    (hu : P.underlying t = some (.slice el)) (ht : tinfo P el = some (some z, sz, b)) (hz : z.cells.size = sz) (hb : (c + xs.length) * b ≤ 140737488355328) (h : Kv (.row id (c + xs.length)) (H.set id (.row false el sz (es ++ xs)))) (hb0 : 0 < b) : aOp P o e H Kv := by
  unfold aOp
  simp only [ho, BuiltK, hs]
  refine ⟨el, sz, b, z, es, xs, trivial, hH, hc, hxs, hl, hu, ht, hz, hb, ?_, h⟩
  have : c + xs.length ≤ (c + xs.length) * b := Nat.le_mul_of_pos_right _ hb0
  unfold maxLen
  omega
/-- An append to what nobody else has: as plain data. -/
theorem QK.app {t el : TypeId} {s x : Operand} {sz b : Nat} {z : Value} {es xs : List (List PV)} (ho : o.op = .call ⟨.builtin .append, #[s, x], #[t, t]⟩) (hs : ev e s = .tight es ∨ (ev e s = .nil ∧ es = [])) (hxs : elemsOf H (ev e x) = some xs) (hl : ∀ l ∈ es ++ xs, l.length = sz)
    (hu : P.underlying t = some (.slice el)) (ht : tinfo P el = some (some z, sz, b)) (hz : z.cells.size = sz) (hsz : 0 < sz) (hb : (es.length + xs.length) * b ≤ 140737488355328) (hb0 : 0 < b) (h : Kv (.pv (.imm (es ++ xs))) H) : QK P o e H Kv := by
  refine ⟨.val (.pv (.imm (es ++ xs))), ?_, h⟩
  simp only [QR, ho, CallQ, BuiltQ]
  have : es.length + xs.length ≤ (es.length + xs.length) * b := Nat.le_mul_of_pos_right _ hb0
  exact ⟨el, z, sz, b, es, xs, trivial, hs, hxs, hl, hu, ht, hz, hsz, hb, by unfold maxLen; omega, .inr rfl⟩
theorem QK.appRow {t el : TypeId} {s x : Operand} {sz b : Nat} {z : Value} {es xs : List (List PV)} (ho : o.op = .call ⟨.builtin .append, #[s, x], #[t, t]⟩) (hs : ev e s = .tight es ∨ (ev e s = .nil ∧ es = [])) (hxs : elemsOf H (ev e x) = some xs) (hl : ∀ l ∈ es ++ xs, l.length = sz)
    (hu : P.underlying t = some (.slice el)) (ht : tinfo P el = some (some z, sz, b)) (hz : z.cells.size = sz) (hsz : 0 < sz) (hb : (es.length + xs.length) * b ≤ 140737488355328) (hb0 : 0 < b) (hx0 : 0 < xs.length) (h : Kv (.row H.length (es ++ xs).length) (H ++ [.row false el sz (es ++ xs)])) : QK P o e H Kv := by
  refine ⟨.row el sz (es ++ xs), ?_, h⟩
  simp only [QR, ho, CallQ, BuiltQ]
  have : es.length + xs.length ≤ (es.length + xs.length) * b := Nat.le_mul_of_pos_right _ hb0
  exact ⟨el, z, sz, b, es, xs, trivial, hs, hxs, hl, hu, ht, hz, hsz, hb, by unfold maxLen; omega, .inl ⟨rfl, hx0⟩⟩
theorem aOp.ofQapp {t : TypeId} {s x : Operand} (ho : o.op = .call ⟨.builtin .append, #[s, x], #[t, t]⟩) (hs : (∃ es, ev e s = .tight es) ∨ ev e s = .nil) (h : QK P o e H Kv) : aOp P o e H Kv := by
  unfold aOp
  simp only [ho, BuiltK]
  rcases hs with ⟨es, hs⟩ | hs <;> (rw [hs]; exact h)
end

/-- A result that is told as plain data. -/
theorem elems_ok {w w' : World} {F : Nat → Prop} {base : Nat} {e : TypeId} {sz : Nat} {es : List (List PV)} {u : Value} (h : ResOk w w' (Ctx.callee F base) u (.row e sz es)) : ResOk w w' (Ctx.callee F base) u (.val (.pv (.imm es))) := by
  obtain ⟨G, xs, h1, h2, h3, h4, h5, h6⟩ := h
  rcases h3.2 with ⟨k1, k2⟩ | ⟨g, cap, cur, k1, k2, k3, k4, k5, k6⟩
  · have h0 : es = [] := List.eq_nil_of_length_eq_zero k2
    subst h0
    subst k1
    exact ⟨G, h1, .pv (repP_imm.2 ⟨none, 0, 0, rfl, by simp, by simp, by simp, fun h => absurd h (by simp)⟩)⟩
  · have hb : u.ownBlock = some g := by rw [k1]; rfl
    have hlt : g < w'.heap.size := (Array.getElem?_eq_some_iff.1 k3).1
    refine ⟨fun b => G b ∨ b = g, fun b hb' => ?_, ?_⟩
    · rcases hb' with hb' | hb'
      · exact h1 b hb'
      · subst hb'; exact ⟨k2, hlt⟩
    · subst k1
      refine .pv (repP_imm.2 ⟨_, cap, sz, rfl, k4, k5, h4, fun _ => ⟨_, rfl, .inr (.inr rfl), fun k p hk => ?_⟩⟩)
      obtain ⟨v, a1, a2, a3⟩ := h5 k p hk
      exact ⟨v, h3.cells (g := g) rfl k v a1, a2, a3.mono (fun _ _ => rfl) fun b hb => hb.imp (fun h => h) .inl⟩

theorem PCalls.imm {P : Program} {f : FuncId} {args : List AV} {e : TypeId} {sz : Nat} {es : List (List PV)} (h : PCalls P f args (.row e sz es)) : PCalls P f args (.val (.pv (.imm es))) :=
  ⟨h.plain, fun w F vs hF hl hr => (h.run w F vs hF hl hr).mono fun en w' ⟨h1, u, h2, h3⟩ => ⟨h1, u, h2, elems_ok h3⟩⟩
end Go.Proofs.Ytfpbdphdahfgbaa.Fw
