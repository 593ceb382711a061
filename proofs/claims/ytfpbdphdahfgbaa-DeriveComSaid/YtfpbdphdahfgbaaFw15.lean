/- The operations that turn a variable of the call's own, copy, and calls that turn the caller's own blocks. -/
import Derived.Test.YtfpbdphdahfgbaaFw14
namespace Go.Proofs.Ytfpbdphdahfgbaa.Fw
open Go Go.RowKit

section
variable {P : Program} {E : Entry} {a : Act} {w : World} {σ : Ctx} {H : List Blk} {o : Oper} {e : List AV}

theorem setAll_eq (as cs : List AV) (k : Nat) (h : k + as.length ≤ cs.length) : setAll cs k as = cs.take k ++ as ++ cs.drop (k + as.length) := by
  have := setAll_mid as (cs.take k) (cs.drop k) (by rw [List.length_drop]; omega)
  rw [List.take_append_drop, List.length_take, Nat.min_eq_left (by omega), List.drop_drop] at this
  exact this

/-- A store into a variable of the call's own. -/
theorem runs_store_box {t : TypeId} {x y : Operand} (hst : St E σ w H e a) (ho : o.op = .store t x y) {id k s b : Nat} {bt : TypeId} {z : Option Value} {cs : List AV}
    (hx : ev e x = .bat id k) (hid : H[id]? = some (.box bt cs)) (hok : okCells (ev e y) = true) (hfit : k + (cellsA (ev e y)).length ≤ cs.length) (hs : (cellsA (ev e y)).length = s) (hti : tinfo P t = some (z, s, b))
    (N : Act → World → Prop) (Q : Exit → Act → World → Prop) (hN : ∀ w', St E σ w' (H.set id (.box bt (setAll cs k (cellsA (ev e y))))) (eput e o.dst .any) (a.put o.dst undef) → N (a.put o.dst undef) w') : o.wp P a w N Q := by
  have hr1 := rep_ev hst.env.2 x
  have hr2 := rep_ev hst.env.2 y
  rw [hx] at hr1
  obtain ⟨hcur, g, vs, hbx, hbase, hF, hheap, hl, hcells⟩ := hst.heap.ok id _ hid
  obtain ⟨c1, c2⟩ := rep_cells hr2 hok
  generalize hu : a.eval x = u at hr1
  generalize hv : a.eval y = v at hr2 c1 c2
  cases hr1 with
  | bat _ _ g' hb' =>
    rw [hbx] at hb'
    injection hb' with hb'
    subst hb'
    subst hs
    have hrun := run_store_at (P := P) (k := k) (u := v) hheap (by rw [← c1]; exact hti) (by simp only [List.size_toArray]; omega) (fun x hx => by
      obtain ⟨j, hj⟩ := List.mem_iff_getElem?.1 hx
      have hjl := (List.getElem?_eq_some_iff.1 hj).1
      exact (c2 j _ x (List.getElem?_eq_getElem (by omega)) hj).2)
    simp only [List.toList_toArray] at hrun
    have hne : ∀ j, j ≠ g → (w.setRow g (vs.take k ++ v.cells.toList ++ vs.drop (k + v.cells.toList.length)).toArray).heap[j]? = w.heap[j]? := fun j hj => setRow_other w g j _ hj
    have hcell := keep_cells (w' := w.setRow g (vs.take k ++ v.cells.toList ++ vs.drop (k + v.cells.toList.length)).toArray) hst.heap hid rfl (fun j _ hj => hne j (fun he => hj (by simp [blkOf, hbx, he])))
    have hk : Keep w σ (w.setRow g (vs.take k ++ v.cells.toList ++ vs.drop (k + v.cells.toList.length)).toArray) σ := ⟨Nat.le_refl _, fun _ h => h, hcell, fun i c hc => ⟨c, hc, Nat.le_refl _, fun _ _ => rfl⟩, fun _ _ h => h⟩
    have hu' := upd_ok (b' := .box bt (setAll cs k (cellsA (ev e y)))) hst.heap hid rfl (setRow_step w g _) (by simp) (fun j _ hj => hne j (fun he => hj (by simp [blkOf, hbx, he]))) rfl (fun _ h => .inl h) (fun _ _ => rfl) (fun _ _ => rfl) hk
      ⟨hcur, g, _, hbx, hbase, hF, setRow_heap w g vs.toArray _ bt (0, 0) hheap, by
        rw [setAll_eq _ _ _ hfit]
        simp only [List.length_append, List.length_take, List.length_drop]
        omega, fun i c v' h1 h2 => by
        rw [setAll_eq _ _ _ hfit] at h1
        simp only [List.getElem?_append, List.length_append, List.length_take, List.getElem?_take, List.getElem?_drop, c1] at h1 h2
        have key : Rep w σ c v' ∧ v'.oneCell' = true := by
          rw [hl] at h1
          repeat' split at h1
          all_goals first
            | (cases h1; done)
            | skip
          · rw [if_pos (by omega), if_pos (by omega), if_pos (by omega)] at h2
            exact hcells i c v' h1 h2
          · rw [if_pos (by omega), if_neg (by omega)] at h2
            exact c2 _ c v' h1 h2
          · rw [if_neg (by omega)] at h2
            exact hcells _ c v' h1 h2
        exact ⟨hk.rep key.1, key.2⟩⟩ (fun j hj => .inl (by simpa [blkOf] using hj))
    unfold Oper.wp
    have hex : (execOp a.eval o).run P w = .ok .skip (w.setRow g (vs.take k ++ v.cells.toList ++ vs.drop (k + v.cells.toList.length)).toArray) := by
      simp [execOp, ho, Instr.storeAt, hu, hv, Instr.sureAddr, hrun]
    rw [hex]
    exact hN _ ((hst.next hu'.2 hu'.1).put o.dst (.any _))

/-- A call that turns the caller's own blocks: what it comes to, of those that 'H' tells. -/
structure ACalls (P : Program) (f : FuncId) (args : List AV) (H : List Blk) (R : AV → List Blk → Prop) : Prop where
  plain : ∀ vs w, (callFunc f vs).run P w = .ok (.enter f vs) w
  run : ∀ (w : World) (σ : Ctx) (vs : List Value), HeapOk w σ H → args.length = vs.length → (∀ (i : Nat) a v, args[i]? = some a → vs[i]? = some v → Rep w σ a v) →
    Calls P f vs.toArray w fun en w' => ∃ u a H' σ', en = .returned u ∧ R a H' ∧ HeapOk w' σ' H' ∧ Step w σ H w' σ' H' ∧ Rep w' σ' a u

theorem runs_acall {c : Call} {f : Operand} (hst : St E σ w H e a) (ho : o.op = .call c) (hcf : c.callee = .value f) {g : FuncId} {as : List AV} (h1 : CallF (ev e) f c.args = some (g, as)) {R : AV → List Blk → Prop} (h2 : ACalls P g as H R)
    (N : Act → World → Prop) (Q : Exit → Act → World → Prop) (hN : ∀ u w' σ' v H', R v H' → St E σ' w' H' (eput e o.dst v) (a.put o.dst u) → N (a.put o.dst u) w') : o.wp P a w N Q := by
  obtain ⟨vs, v1, v2, v3⟩ := callF_run (P := P) h1 (fun x => rep_ev hst.env.2 x)
  have hc := h2.run w σ vs hst.heap v1 v2
  have hrun : (execOp a.eval o).run P w = .ok (.enter g vs.toArray) w := by
    obtain ⟨cal, args, ts⟩ := c
    simp only at hcf
    subst hcf
    have := v3 o.type ts
    rw [h2.plain] at this
    simpa only [execOp, ho] using this
  unfold Oper.wp
  rw [hrun]
  simp only [Oper.upon]
  refine hc.mono fun en w' ⟨u, v, H', σ', he, hR, hh, hs, hrep⟩ => ?_
  subst he
  exact hN u w' σ' v H' hR ((hst.next hs hh).put o.dst hrep)

/-- copy onto an own row of cells. -/
theorem runs_copy {c : Call} {d x : Operand} {t t' : TypeId} (hst : St E σ w H e a) (ho : o.op = .call c) (hc : c.callee = .builtin .copy) (hargs : c.args.toList = [d, x]) (hts : c.argTypes.toList = [t, t'])
    {id n : Nat} {el : TypeId} {b : Nat} {z : Option Value} {es xs : List (List PV)} (hd : ev e d = .row id n) (hid : H[id]? = some (.row false el 1 es)) (hn : es.length = n) (hx : elemsOf H (ev e x) = some xs) (hl : ∀ l ∈ xs, l.length = 1)
    (ht : P.underlying t = some (.slice el)) (hi : tinfo P el = some (z, 1, b))
    (N : Act → World → Prop) (Q : Exit → Act → World → Prop) (hN : ∀ u w' σ', St E σ' w' (H.set id (.row false el 1 (xs.take n ++ es.drop xs.length))) (eput e o.dst (.pv (.val (.int .i64 (min xs.length n : Nat))))) (a.put o.dst u) → N (a.put o.dst u) w') : o.wp P a w N Q := by
  subst hn
  have hr1 := rep_ev hst.env.2 d
  have hr2 := rep_ev hst.env.2 x
  rw [hd] at hr1
  have hbb : σ.base ≤ w.heap.size ∧ ∀ b, σ.F b → b < w.heap.size := ⟨hst.heap.base, hst.heap.lt⟩
  obtain ⟨B, dc, sz2, hu2, hdc, hdm, hcells2⟩ := rep_elems hst.heap.refs hbb hr2 hx
  obtain ⟨hsz, hcur, _, hles, _, _⟩ := hst.heap.ok id _ hid
  obtain ⟨ys, hown, hyl, hyrep⟩ := row_open (hst.heap.ok id _ hid)
  rw [Nat.mul_one] at hyl
  have hu1 : a.eval d = σ.row id es.length := by
    generalize a.eval d = u1 at hr1
    cases hr1; rfl
  have exec : ∀ {v w'}, (Builtin.copy_ #[t, t'] o.type #[a.eval d, a.eval x]).run P w = .ok v w' → (execOp a.eval o).run P w = .ok (.value v) w' := fun {v w'} hrun => by
    simp [execOp, ho, resolve, hc, list2 hargs, list2 hts, invoke, builtin, hrun]
  obtain ⟨i, hii, _, his, _⟩ := tinfo_parts hi
  by_cases h0 : xs.length = 0 ∨ es.length = 0
  · have hrun : (Builtin.copy_ #[t, t'] o.type #[a.eval d, a.eval x]).run P w = .ok (goInt 0) w := by
      rw [hu1, hu2]
      have hrow : ∃ A cap, σ.row id es.length = .slice A es.length cap := by
        rcases hown.2 with ⟨h5, h6⟩ | ⟨g, cap, cur, h5, _⟩
        · exact ⟨none, 0, by rw [h5, h6]⟩
        · exact ⟨_, cap, h5⟩
      obtain ⟨A, cap, hA⟩ := hrow
      rw [hA]
      have hm : Nat.min xs.length es.length = 0 := by rcases h0 with h | h <;> simp [h, Nat.min_def]
      cases A <;> cases B <;> simp [Builtin.copy_, run_underlying ht, sizeOf, typeInfo, hii, Builtin.lenOf, hm, Builtin.firstCells, loadCells, loadCellsFrom, storeCells]
    have hes : xs.take es.length ++ es.drop xs.length = es := by
      rcases h0 with h | h
      · have : xs = [] := List.eq_nil_of_length_eq_zero h
        subst this; simp
      · have : es = [] := List.eq_nil_of_length_eq_zero h
        subst this; simp
    have hm : min xs.length es.length = 0 := by omega
    unfold Oper.wp
    rw [exec hrun]
    refine hN _ w σ ?_
    rw [hes, hm]
    have hset : H.set id (.row false el 1 es) = H := by
      apply List.ext_getElem?
      intro j
      rw [List.getElem?_set]
      by_cases hj : id = j
      · subst hj; simp only [if_true]; rw [if_pos (List.getElem?_eq_some_iff.1 hid).1]; exact hid.symm
      · rw [if_neg hj]
    rw [hset]
    exact hst.put o.dst (.pv (.val _))
  · have hsz2 : sz2 = 1 := by
      match xs, h0 with
      | x0 :: _, _ => rw [← hcells2.1 x0 (by simp), hl x0 (by simp)]
      | [], h => simp at h
    subst hsz2
    obtain ⟨ad2, rfl, _, us, hul, hucell, huone, hurep⟩ := cells_vals hcells2 (by omega)
    rw [Nat.mul_one] at hul
    rcases hown.2 with ⟨_, h6⟩ | ⟨g, cap, cur, h5, h6, h7, h8, h9, h10, h11⟩
    · omega
    · rw [Nat.mul_one] at h10 h11
      have hml : (us.take es.length).length = Nat.min xs.length es.length := by rw [List.length_take, hul]; simp [Nat.min_def]; split <;> split <;> omega
      have hmin : (us.take es.length).length = min xs.length es.length := hml
      have hrun := run_copy_row (P := P) w t t' o.type el g 0 es.length cap ad2 xs.length dc cur el (us.take es.length) ht (by rw [hii]; simp [his]) h7 hml (fun j v hj => hucell j v (by rw [List.getElem?_take] at hj; split at hj <;> simp_all)) (by rw [hmin]; omega) (fun v hv => huone v (List.mem_of_mem_take hv))
      rw [hmin] at hrun
      generalize hcur' : (cur.toList.take 0 ++ us.take es.length ++ cur.toList.drop (0 + min xs.length es.length)).toArray = cur' at hrun
      have hne : ∀ k, k ≠ g → (w.setRow g cur').heap[k]? = w.heap[k]? := fun k hk => setRow_other w g k cur' hk
      have hlen : (xs.take es.length ++ es.drop xs.length).length = es.length := by simp only [List.length_append, List.length_take, List.length_drop]; omega
      have hl' : ∀ l ∈ xs.take es.length ++ es.drop xs.length, l.length = 1 := fun l hl'' => (List.mem_append.1 hl'').elim (fun h => hl l (List.mem_of_mem_take h)) (fun h => hles l (List.mem_of_mem_drop h))
      have one : ∀ (l : List (List PV)), (∀ x ∈ l, x.length = 1) → ∀ (k : Nat) p, l.flatten[k]? = some p ↔ l[k]? = some [p] := by
        intro l
        induction l with
        | nil => intro _ k p; simp
        | cons x l ih =>
          intro h k p
          have hx1 := h x (by simp)
          match x, hx1 with
          | [q], _ =>
            match k with
            | 0 => simp
            | k + 1 => simpa using ih (fun y hy => h y (by simp [hy])) k p
      obtain ⟨σ', s1, _, _⟩ := row_next (es' := xs.take es.length ++ es.drop xs.length) (v' := σ.row id es.length) (xs' := us.take es.length ++ ys.drop (min xs.length es.length)) (w' := w.setRow g cur') hst hid (setRow_step w g cur') (by simp)
        (fun k hk hne' => hne k (fun he => hne' (by rw [h5, he]; rfl))) (by omega) (fun _ => rfl) (by
          rw [hlen]
          refine ⟨by simp only [List.length_append, List.length_take, List.length_drop, hyl, hul]; omega, .inr ⟨g, cap, cur', h5, h6, setRow_heap w g cur cur' el (0, 0) h7, h8, h9, ?_, ?_⟩⟩
          · rw [← hcur']
            simp only [List.size_toArray, List.length_append, List.length_take, List.length_drop, Array.length_toList, h10, hul]
            omega
          · rw [← hcur', ← h11]
            apply List.ext_getElem?
            intro j
            simp only [List.getElem?_take, List.getElem?_append, List.length_append, List.length_take, List.getElem?_drop, hul, Array.length_toList, h10, Nat.mul_one]
            repeat' split
            all_goals first
              | rfl
              | omega
              | (congr 1; omega)) (.inl rfl) hl' (fun k p hk => by
          rw [one _ hl'] at hk
          simp only [List.getElem?_append, List.length_take, List.getElem?_take, List.getElem?_drop] at hk ⊢
          rw [hul]
          repeat' split at hk
          all_goals first
            | (cases hk; done)
            | skip
          · rw [if_pos (by omega), if_pos (by omega)]
            obtain ⟨v, a1, a2⟩ := hurep k p ((one _ hl k p).2 hk)
            exact ⟨v, a1, huone v (List.mem_of_getElem? a1), a2⟩
          · rw [if_neg (by omega)]
            have hk2 := (List.getElem?_eq_some_iff.1 hk).1
            obtain ⟨v, a1, a2, a3⟩ := hyrep k p ((one _ hles k p).2 (by rw [← hk]; congr 1; omega))
            exact ⟨v, by rw [← a1]; congr 1; omega, a2, a3⟩)
      unfold Oper.wp
      rw [exec (by rw [hu1, hu2, h5]; exact hrun)]
      exact hN _ _ σ' (s1.put o.dst (.pv (.val _)))
end
end Go.Proofs.Ytfpbdphdahfgbaa.Fw
