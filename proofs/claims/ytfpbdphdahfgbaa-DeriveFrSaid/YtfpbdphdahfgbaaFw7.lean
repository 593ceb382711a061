/- The machine's operation yields what is said of it: plain operations, places, slices. -/
import Derived.Test.YtfpbdphdahfgbaaFw6
namespace Go.Proofs.Ytfpbdphdahfgbaa.Fw
open Go Go.RowKit

section
variable {P : Program} {a : Act} {w : World} {σ : Ctx} {H : List Blk} {o : Oper} {ρ : Operand → AV} {r : Res}

theorem qr_move {x : Operand} (ho : o.op = .move x ∨ o.op = .assign x) (hρ : ∀ x, Rep w σ (ρ x) (a.eval x)) (h : QR P o ρ H r) : Runs P o a w σ r := by
  rcases ho with ho | ho <;> (simp only [QR, ho] at h; subst h; exact runs_val (u := a.eval x) (by simp [execOp, ho]) (hρ x))

theorem qr_pick {c x y : Operand} (ho : o.op = .pick c x y) (hρ : ∀ x, Rep w σ (ρ x) (a.eval x)) (h : QR P o ρ H r) : Runs P o a w σ r := by
  simp only [QR, ho] at h
  obtain ⟨b, hc, rfl⟩ := h
  have h1 := hρ c
  rw [hc] at h1
  have h2 := rep_val h1
  cases b
  · exact runs_val (u := a.eval y) (by simp [execOp, ho, h2, asBool]) (hρ y)
  · exact runs_val (u := a.eval x) (by simp [execOp, ho, h2, asBool]) (hρ x)

theorem run_equalIn_bool (d : Nat) {t : TypeId} (m n : Bool) (ht : P.underlying t = some .bool) : (Op.equalIn (d + 1) t (.bool m) (.bool n)).run P w = .ok (m == n) w := by
  simp [Op.equalIn, run_underlying ht]

theorem run_eql_bool {t : TypeId} (m n : Bool) (ht : P.underlying t = some .bool) : (binOp .eql t (.bool m) (.bool n)).run P w = .ok (.bool (m == n)) w := by
  simp only [binOp]
  simp [Op.equal, Op.maxDepth, run_equalIn_bool 9999 m n ht]

theorem run_neq_bool {t : TypeId} (m n : Bool) (ht : P.underlying t = some .bool) : (binOp .neq t (.bool m) (.bool n)).run P w = .ok (.bool (m != n)) w := by
  simp only [binOp]
  simp [Op.equal, Op.maxDepth, run_equalIn_bool 9999 m n ht, bne]

theorem run_equalIn_nil (d : Nat) {t el : TypeId} (ad : Addr) (n c : Nat) (ht : P.underlying t = some (.slice el)) : (Op.equalIn (d + 1) t (.slice (some ad) n c) (.slice none 0 0)).run P w = .ok false w := by
  simp [Op.equalIn, run_underlying ht]
theorem run_eql_nil {t el : TypeId} (ad : Addr) (n c : Nat) (ht : P.underlying t = some (.slice el)) : (binOp .eql t (.slice (some ad) n c) (.slice none 0 0)).run P w = .ok (.bool false) w := by
  simp only [binOp]
  simp [Op.equal, Op.maxDepth, run_equalIn_nil 9999 ad n c ht]
theorem run_neq_nil {t el : TypeId} (ad : Addr) (n c : Nat) (ht : P.underlying t = some (.slice el)) : (binOp .neq t (.slice (some ad) n c) (.slice none 0 0)).run P w = .ok (.bool true) w := by
  simp only [binOp]
  simp [Op.equal, Op.maxDepth, run_equalIn_nil 9999 ad n c ht]
theorem run_eqGuard_nil (op : BinOp) (t : TypeId) (x y : Operand) (ad : Addr) (n c : Nat) : (eqGuard op t x y (.slice (some ad) n c) (.slice none 0 0)).run P w = .ok () w := by
  cases op <;> simp [eqGuard]

theorem run_eqGuard_bool (op : BinOp) (t : TypeId) (x y : Operand) (m n : Bool) : (eqGuard op t x y (.bool m) (.bool n)).run P w = .ok () w := by
  cases op <;> simp [eqGuard]

theorem qr_binOp {op : BinOp} {t : TypeId} {x y : Operand} {t' : TypeId} (ho : o.op = .binOp op t x y t') (hρ : ∀ x, Rep w σ (ρ x) (a.eval x)) (h : BinQ P op t (ρ x) (ρ y) r) : Runs P o a w σ r := by
  have hx := hρ x
  have hy := hρ y
  unfold BinQ at h
  split at h
  · rename_i k m k' n e1 e2
    rw [e1] at hx
    rw [e2] at hy
    obtain ⟨v, hv, rfl⟩ := h
    have hr := run_intBin P w op t x y k m k' n v hv
    refine runs_val (u := v) ?_ (.pv (.val v))
    simp only [execOp, ho, rep_val hx, rep_val hy, Sem.run_bind]
    simp only [Sem.run_bind] at hr
    rw [hr]
    rfl
  · rename_i m n e1 e2
    rw [e1] at hx
    rw [e2] at hy
    obtain ⟨ht, hc⟩ := h
    rcases hc with ⟨rfl, rfl⟩ | ⟨rfl, rfl⟩
    · exact runs_val (by simp only [execOp, ho, rep_val hx, rep_val hy, Sem.run_bind, run_eqGuard_bool, Result.andThen_ok, run_eql_bool m n ht, Sem.run_pure]) (.pv (.val _))
    · exact runs_val (by simp only [execOp, ho, rep_val hx, rep_val hy, Sem.run_bind, run_eqGuard_bool, Result.andThen_ok, run_neq_bool m n ht, Sem.run_pure]) (.pv (.val _))
  · exact h.elim

theorem qr_unOp {op : UnOp} {t : TypeId} {x : Operand} (ho : o.op = .unOp op t x) (hρ : ∀ x, Rep w σ (ρ x) (a.eval x)) (h : QR P o ρ H r) : Runs P o a w σ r := by
  simp only [QR, ho] at h
  have hx := hρ x
  split at h
  · rename_i b e1
    rw [e1] at hx
    subst h
    exact runs_val (by simp [execOp, ho, rep_val hx, Op.unary]) (.pv (.val _))
  · rename_i k n e1
    rw [e1] at hx
    subst h
    exact runs_val (by simp [execOp, ho, rep_val hx, Op.unary, Op.intArith]) (.pv (.val _))
  · rename_i k n e1
    rw [e1] at hx
    subst h
    exact runs_val (by simp [execOp, ho, rep_val hx, Op.unary, Op.intBits]) (.pv (.val _))
  · exact h.elim

theorem qr_convert {s d : TypeId} {x : Operand} (ho : o.op = .convert s d x) (hρ : ∀ x, Rep w σ (ρ x) (a.eval x)) (h : QR P o ρ H r) : Runs P o a w σ r := by
  simp only [QR, ho] at h
  have hx := hρ x
  split at h
  · rename_i k0 n e1
    rw [e1] at hx
    obtain ⟨k, hd, hs, rfl⟩ := h
    exact runs_val (u := .int k (k.wrap n)) (by
      obtain ⟨d', hd'⟩ := Option.isSome_iff_exists.mp hs
      simp [execOp, ho, rep_val hx, convert, run_underlying hd', run_underlying hd, Conv.intToInt]) (.pv (.val _))
  · exact h.elim

theorem reps_map (hρ : ∀ x, Rep w σ (ρ x) (a.eval x)) (l : List Operand) : (l.map ρ).length = (l.map a.eval).length ∧ ∀ (i : Nat) c v, (l.map ρ)[i]? = some c → (l.map a.eval)[i]? = some v → Rep w σ c v := by
  refine ⟨by simp, fun i c v h1 h2 => ?_⟩
  rw [List.getElem?_map] at h1 h2
  cases hi : l[i]? with
  | none => simp [hi] at h1
  | some x =>
    simp [hi] at h1 h2
    subst h1
    subst h2
    exact hρ x

theorem qr_makeFunc {f : Fn} {fs cs : Array Operand} (ho : o.op = .makeFunc f fs cs) (hρ : ∀ x, Rep w σ (ρ x) (a.eval x)) (h : QR P o ρ H r) : Runs P o a w σ r := by
  simp only [QR, ho] at h
  obtain ⟨rfl, rfl⟩ := h
  obtain ⟨h1, h2⟩ := reps_map hρ cs.toList
  refine runs_val (u := .func f #[] (cs.toList.map a.eval).toArray) ?_ (.fn f _ _ h1 h2)
  simp [execOp, ho, Instr.makeFunc, ← Array.toList_map]

theorem qr_extract {t : Operand} {i : Nat} (ho : o.op = .extract t i) (hρ : ∀ x, Rep w σ (ρ x) (a.eval x)) (h : QR P o ρ H r) : Runs P o a w σ r := by
  simp only [QR, ho] at h
  have ht := hρ t
  generalize hv : ρ t = v at h ht
  generalize hu : a.eval t = u at ht
  cases ht with
  | tup cs vs hl hc =>
    obtain ⟨c, hi, rfl⟩ := h
    have hlt := (List.getElem?_eq_some_iff.1 hi).1
    have hvi : vs[i]? = some (vs[i]'(by omega)) := List.getElem?_eq_getElem (by omega)
    exact runs_val (u := vs[i]'(by omega)) (by simp [execOp, ho, hu, Instr.extract, hvi]) (hc i c _ hi hvi)
  | _ => exact h.elim

theorem qr_nilCheck {x : Operand} (ho : o.op = .nilCheck x) (hρ : ∀ x, Rep w σ (ρ x) (a.eval x)) (h : QR P o ρ H r) : Runs P o a w σ r := by
  simp only [QR, ho] at h
  have ht := hρ x
  generalize hv : ρ x = v at h ht
  generalize hu : a.eval x = u at ht
  cases ht with
  | «at» cs ad hok hc => subst h; exact runs_val (u := .pointer (some ad)) (by simp [execOp, ho, hu]) (.at cs ad hok hc)
  | rat id n k g c hc hn hg => subst h; exact runs_val (u := .pointer (some ⟨g, k, none⟩)) (by simp [execOp, ho, hu]) (.rat id n k g c hc hn hg)
  | bat id k g hb => subst h; exact runs_val (u := .pointer (some ⟨g, k, none⟩)) (by simp [execOp, ho, hu]) (.bat id k g hb)
  | _ => exact h.elim

theorem qr_fieldAddr {s : TypeId} {x : Operand} {f : Nat} (ho : o.op = .fieldAddr s x f) (hρ : ∀ x, Rep w σ (ρ x) (a.eval x)) (h : QR P o ρ H r) : Runs P o a w σ r := by
  simp only [QR, ho] at h
  obtain ⟨fs, fd, z, sz, b, hs, hf, hi, h0, h⟩ := h
  have ht := hρ x
  generalize hv : ρ x = v at h ht
  generalize hu : a.eval x = u at ht
  have h0' : ¬ sz = 0 := by omega
  have run : ∀ ad : Addr, u = .pointer (some ad) → (execOp a.eval o).run P w = .ok (.value (.pointer (some (ad.add fd.offset)))) w := fun ad hu' => by
    subst hu'
    simp [execOp, ho, hu, Instr.fieldAt, run_underlying hs, hf, Instr.sureAddr, fieldPlace, run_sizeOf hi, h0']
  cases ht with
  | «at» cs ad hok hc =>
    subst h
    refine runs_val (run ad rfl) (.at _ _ (by rw [add_block]; exact hok) fun k p hk => ?_)
    rw [List.getElem?_drop] at hk
    rw [add_add]
    exact hc _ p hk
  | rat id n k g c hc hn hg => subst h; exact runs_val (by rw [run _ rfl, add_at]) (.rat id n _ g c hc hn hg)
  | bat id k g hb => subst h; exact runs_val (by rw [run _ rfl, add_at]) (.bat id _ g hb)
  | _ => exact h.elim

theorem run_part_one {t : TypeId} {cs : Array Value} {off : Nat} {v : Value} (ht : isAggT P t = some false) (h : cs[off]? = some v) : (part t cs off).run P w = .ok v w := by
  simp [part, run_isAgg ht, h]

theorem run_part_agg {t : TypeId} {cs : Array Value} {off s b : Nat} {z : Option Value} (ht : isAggT P t = some true) (hi : tinfo P t = some (z, s, b)) : (part t cs off).run P w = .ok (.agg (cs.extract off (off + s))) w := by
  simp [part, run_isAgg ht, run_sizeOf hi]

theorem rep_aggA {v : AV} {u : Value} (h : Rep w σ v u) {cs : List AV} (hc : aggA v = some cs) : ∃ vs : List Value, u = .agg vs.toArray ∧ cs.length = vs.length ∧ ∀ (i : Nat) c x, cs[i]? = some c → vs[i]? = some x → Rep w σ c x := by
  cases h with
  | agg cs' vs hl h => simp [aggA] at hc; subst hc; exact ⟨vs, rfl, hl, h⟩
  | pv h =>
    cases h with
    | agg ps vs hl h =>
      simp [aggA] at hc
      subst hc
      refine ⟨vs, rfl, by simp [hl], fun i c x h2 h3 => ?_⟩
      rw [List.getElem?_map] at h2
      obtain ⟨p, hp, rfl⟩ := Option.map_eq_some_iff.1 h2
      exact .pv (h i p x hp h3)
    | _ => simp [aggA] at hc
  | _ => simp [aggA] at hc

theorem qr_field {t : TypeId} {x : Operand} {f : Nat} (ho : o.op = .field t x f) (hρ : ∀ x, Rep w σ (ρ x) (a.eval x)) (h : QR P o ρ H r) : Runs P o a w σ r := by
  simp only [QR, ho] at h
  obtain ⟨fs, fd, hs, hf, cs, hcs, h⟩ := h
  obtain ⟨vs, hu, h1, h2⟩ := rep_aggA (hρ x) hcs
  rcases h with ⟨ht, v, hv, rfl⟩ | ⟨ht, z, s, b, hi, hle, rfl⟩
  · have hlt := (List.getElem?_eq_some_iff.1 hv).1
    have hvs : vs[fd.offset]? = some (vs[fd.offset]'(by omega)) := List.getElem?_eq_getElem (by omega)
    have hr := h2 _ v _ hv hvs
    have hu' : vs.toArray[fd.offset]? = some (vs[fd.offset]'(by omega)) := by rw [List.getElem?_toArray]; exact hvs
    exact runs_val (by simp only [execOp, ho, hu, Instr.field, Sem.run_bind, run_underlying hs, Result.andThen_ok, hf, asAgg, Sem.run_pure, run_part_one ht hu']) hr
  · refine runs_val (u := .agg ((vs.drop fd.offset).take s).toArray) ?_ (.agg _ _ (by simp only [List.length_take, List.length_drop]; omega) fun i p v hp hv => ?_)
    · have e : vs.toArray.extract fd.offset (fd.offset + s) = ((vs.drop fd.offset).take s).toArray := by
        apply Array.ext'
        simp [Array.toList_extract, List.extract]
      simp only [execOp, ho, hu, Instr.field, Sem.run_bind, run_underlying hs, Result.andThen_ok, hf, asAgg, Sem.run_pure, run_part_agg ht hi, e]
    · rw [List.getElem?_take] at hp hv
      split at hp
      · rename_i hlt
        rw [if_pos hlt] at hv
        rw [List.getElem?_drop] at hp hv
        exact h2 _ p v hp hv
      · cases hp

theorem qr_index {t : TypeId} {x ix : Operand} (ho : o.op = .index t x ix) (hρ : ∀ x, Rep w σ (ρ x) (a.eval x)) (h : QR P o ρ H r) : Runs P o a w σ r := by
  simp only [QR, ho] at h
  rcases h with ⟨n, el, z, s, b, ht, hi, rfl, hel, k, i, hix, hin, cs, v, hcs, hv, rfl⟩ | ⟨k, i, bs, b, ht, hix, hx, hb, rfl⟩
  rotate_left
  · have hiv := hρ ix
    rw [hix] at hiv
    have hxv := hρ x
    rw [hx] at hxv
    exact runs_val (u := .int .u8 b.toNat) (by simp [execOp, ho, rep_val hxv, Instr.index, rep_val hiv, asIntOf, run_underlying ht, hb]) (.pv (.val _))
  obtain ⟨vs, hu, h1, h2⟩ := rep_aggA (hρ x) hcs
  have hiv := hρ ix
  rw [hix] at hiv
  have hlt := (List.getElem?_eq_some_iff.1 hv).1
  have hvs : vs[i]? = some (vs[i]'(by omega)) := List.getElem?_eq_getElem (by omega)
  have hr := h2 _ v _ hv hvs
  have hu' : vs.toArray[i]? = some (vs[i]'(by omega)) := by rw [List.getElem?_toArray]; exact hvs
  have hp := run_part_one (P := P) (w := w) hel hu'
  exact runs_val (by simp [execOp, ho, hu, Instr.index, rep_val hiv, asIntOf, run_underlying ht, run_sizeOf hi, hin, hp]) hr

theorem qr_indexAddr {t : TypeId} {x ix : Operand} (ho : o.op = .indexAddr t x ix) (hρ : ∀ x, Rep w σ (ρ x) (a.eval x)) (hr : Refs w σ H) (h : QR P o ρ H r) : Runs P o a w σ r := by
  simp only [QR, ho] at h
  rcases h with h | ⟨n, el, z, s, b, ht, hi, k, i, hix, hin, h⟩
  rotate_left
  · have hiv := hρ ix
    rw [hix] at hiv
    have hx := hρ x
    generalize hv : ρ x = v at h hx
    generalize hu : a.eval x = u at hx
    have run : ∀ ad : Addr, u = .pointer (some ad) → (execOp a.eval o).run P w = .ok (.value (.pointer (some (ad.add (i * s))))) w := fun ad hu' => by
      subst hu'
      simp [execOp, ho, hu, Instr.indexAt, rep_val hiv, asIntOf, run_underlying ht, hin, run_sizeOf hi, Instr.sureAddr]
    cases hx with
    | rat id m j g c hc hm hg => subst h; exact runs_val (by rw [run _ rfl, add_at]) (.rat id m _ g c hc hm hg)
    | «at» cs ad hok hcs => subst h; exact runs_val (run _ rfl) (.at _ _ (by rw [add_block]; exact hok) fun k p hk => by
        rw [List.getElem?_drop] at hk
        rw [add_add]
        exact hcs _ p hk)
    | bat id j g hb => subst h; exact runs_val (by rw [run _ rfl, add_at]) (.bat id _ g hb)
    | _ => exact h.elim
  obtain ⟨el, z, s, b, ht, hi, k, i, hix, h⟩ := h
  have hiv := hρ ix
  rw [hix] at hiv
  have hx := hρ x
  generalize hv : ρ x = v at h hx
  generalize hu : a.eval x = u at hx
  have run : ∀ (ad : Addr) (n c : Nat), u = .slice (some ad) n c → i < n → (execOp a.eval o).run P w = .ok (.value (.pointer (some (ad.add (i * s))))) w := fun ad n c hu' hlt => by
    subst hu'
    have hb : 0 ≤ (i : Int) ∧ (i : Int) < (n : Int) := by omega
    simp [execOp, ho, hu, Instr.indexAt, rep_val hiv, asIntOf, run_underlying ht, hlt, run_sizeOf hi]
  have read : ∀ (G : Nat → Prop) (A : Option Addr) (es : List (List PV)) (cap sz : Nat), u = .slice A es.length cap → (∀ b, G b → σ.ok b) → Cells w G σ.F A es sz →
      (∃ l, es[i]? = some l ∧ l.length = s ∧ r = .val (.at l)) → Runs P o a w σ r := fun G A es cap sz hu' hG hc ⟨l, hl, hls, hre⟩ => by
    subst hre
    obtain ⟨ad, hA, hGb, hll, hcell⟩ := elem_at hc hl
    subst hA
    have hss : sz = s := by omega
    subst hss
    exact runs_val (run ad _ cap hu' (List.getElem?_eq_some_iff.1 hl).1) (.at l _ (by rw [add_block]; exact hG _ hGb) fun k p hp => by rw [add_add]; exact hcell k p hp)
  cases hx with
  | row id n c hc hn hv1 =>
    obtain ⟨fz, e, es, hb, hl, hlt, rfl⟩ := h
    rcases hr id _ hb with hb' | hb'
    · obtain ⟨h0, h2, _, h3, ⟨xs, ho', hx'⟩, _⟩ := hb'
      rw [hl] at ho'
      rcases ho'.2 with ⟨_, h4⟩ | ⟨g, cap, cur, h4, _⟩
      · omega
      · exact runs_val (by rw [run _ n cap h4 hlt, add_at, Nat.zero_add]) (.rat id n _ g c hc hn (by rw [h4]; rfl))
    · rw [hb'.1] at hc; cases hc
  | pv hp =>
    cases hp with
    | imm es A cap sz vs hc hm hsz ha hh =>
      obtain ⟨A', cap', sz', h1, _, _, h4⟩ := repP_imm.1 (RepP.imm (w := w) es A cap sz vs hc hm hsz ha hh)
      exact read σ.F A' es cap' sz' h1 (fun b hb => .inl hb) h4 h
    | _ => exact h.elim
  | bor es A cap sz hc hm hcell => exact read σ.ok A es cap sz rfl (fun b hb => hb) hcell h
  | tight es A sz hm hcell => exact read σ.F A es _ sz rfl (fun b hb => .inl hb) hcell h
  | _ => exact h.elim
end
end Go.Proofs.Ytfpbdphdahfgbaa.Fw
