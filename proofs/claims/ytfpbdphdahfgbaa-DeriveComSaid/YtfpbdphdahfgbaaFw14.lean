/- The operations that turn a block of the call's own. -/
import Derived.Test.YtfpbdphdahfgbaaFw13
namespace Go.Proofs.Ytfpbdphdahfgbaa.Fw
open Go Go.RowKit

section
variable {P : Program} {E : Entry} {a : Act} {w : World} {σ : Ctx} {H : List Blk} {o : Oper} {e : List AV}

theorem flat_len {es : List (List PV)} {sz : Nat} (h : ∀ l ∈ es, l.length = sz) : es.flatten.length = es.length * sz := by
  induction es with
  | nil => simp
  | cons e es ih => simp [ih (fun l hl => h l (by simp [hl])), h e (by simp), Nat.succ_mul, Nat.add_comm]

/-- What an own row is, laid open. -/
theorem row_open {id : Nat} {fz : Bool} {el : TypeId} {sz : Nat} {es : List (List PV)} (h : BlkOk w σ id (.row fz el sz es)) :
    ∃ xs, w.ownsRow σ.base el sz (σ.row id es.length) es.length xs ∧ xs.length = es.length * sz ∧ (∀ (k : Nat) p, es.flatten[k]? = some p → ∃ v, xs[k]? = some v ∧ v.oneCell' = true ∧ RepP w σ.F p v) := by
  obtain ⟨_, _, _, _, ⟨xs, ho, hx⟩, _⟩ := h
  exact ⟨xs, ho, ho.1, hx⟩

theorem keep_cells {w' : World} (h : HeapOk w σ H) {id : Nat} {b : Blk} (hid : H[id]? = some b) (hz : b.fz = false) (hheap : ∀ g, g < w.heap.size → blkOf σ id b ≠ some g → w'.heap[g]? = w.heap[g]?) :
    ∀ ad : Addr, σ.ok ad.block → w'.cell? ad = w.cell? ad := fun ad ha => by
  refine World.cell?_of_block (w := w) (hheap ad.block ?_ fun he => ?_)
  · rcases ha with ha | ha
    · exact h.lt _ ha
    · exact Nat.lt_of_lt_of_le ha h.base
  · rcases ha with ha | ha
    · exact (h.ok id b hid).F he hz ha
    · have := ((h.ok id b hid).lt he).1
      omega

/-- An own row whose value is a new one. -/
theorem row_next {w' : World} {id : Nat} {el : TypeId} {sz : Nat} {es es' : List (List PV)} {v' : Value} {xs' : List Value} (s : St E σ w H e a) (hid : H[id]? = some (.row false el sz es))
    (ho : w'.os = w.os ∧ w'.tape = w.tape ∧ w'.output = w.output) (hsize : w.heap.size ≤ w'.heap.size) (hheap : ∀ g, g < w.heap.size → (σ.row id es.length).ownBlock ≠ some g → w'.heap[g]? = w.heap[g]?)
    (hle : es.length ≤ es'.length) (hv : es'.length = es.length → v' = σ.row id es.length) (hown : w'.ownsRow σ.base el sz v' es'.length xs') (hob : v'.ownBlock = (σ.row id es.length).ownBlock ∨ v'.ownBlock = some w.heap.size)
    (hl : ∀ l ∈ es', l.length = sz) (hx : ∀ (k : Nat) p, es'.flatten[k]? = some p → ∃ v, xs'[k]? = some v ∧ v.oneCell' = true ∧ RepP w σ.F p v) :
    ∃ σ', St E σ' w' (H.set id (.row false el sz es')) e a ∧ Rep w' σ' (.row id es'.length) v' ∧ σ'.cur id = some es'.length := by
  have hok := s.heap.ok id _ hid
  obtain ⟨hsz, hcur, hbx, _, _, hf⟩ := hok
  let σ' : Ctx := { base := σ.base, F := σ.F, row := fun i m => if i = id ∧ m = es'.length then v' else σ.row i m, cur := fun i => if i = id then some es'.length else σ.cur i, box := σ.box }
  have hcell := keep_cells s.heap hid rfl hheap
  have hk : Keep w σ w' σ' := by
    refine ⟨Nat.le_refl _, fun _ h => h, hcell, fun i c hc => ?_, fun _ _ h => h⟩
    by_cases hi : i = id
    · subst hi
      rw [hcur] at hc
      injection hc with hc
      subst hc
      refine ⟨es'.length, by simp [σ'], hle, fun n hn => ?_⟩
      by_cases hn' : n = es'.length
      · have : es'.length = es.length := by omega
        have hv' := hv this
        subst hn'
        rw [show σ'.row i es'.length = v' from by simp [σ'], hv', this]
      · simp [σ', hn']
    · exact ⟨c, by simp [σ', hi, hc], Nat.le_refl _, fun n _ => by simp [σ', hi]⟩
  have hrow : σ'.row id es'.length = v' := by simp [σ']
  have hnew : BlkOk w' σ' id (.row false el sz es') := by
    refine ⟨hsz, by simp [σ'], hbx, hl, ⟨xs', by rw [hrow]; exact hown, fun k p hp => ?_⟩, fun g hg => ⟨fun h0 => absurd h0 (by simp), fun _ hfg => ?_⟩⟩
    · obtain ⟨v, a1, a2, a3⟩ := hx k p hp
      exact ⟨v, a1, a2, hk.repP a3⟩
    · rw [hrow] at hg
      rcases hob with h1 | h1
      · rw [h1] at hg
        exact (hf g hg).2 rfl hfg
      · rw [h1] at hg
        injection hg with hg
        have := s.heap.lt g hfg
        omega
  have hu := upd_ok (b' := .row false el sz es') s.heap hid rfl ho hsize hheap (σ' := σ') rfl (fun _ hf => .inl hf) (fun i hne => by simp [σ', hne]) (fun _ _ => rfl) hk hnew (fun g hg => by
    have hg' : v'.ownBlock = some g := by rw [← hrow]; exact hg
    rcases hob with h1 | h1
    · rw [h1] at hg'; exact .inl hg'
    · rw [h1] at hg'; injection hg' with hg'; exact .inr (by omega))
  refine ⟨σ', s.next hu.2 hu.1, ?_, by simp [σ']⟩
  have := Rep.row (w := w') (σ := σ') id es'.length es'.length (by simp [σ']) (Nat.le_refl _) (by rw [hrow]; exact ownsRow_one hown)
  rw [hrow] at this
  exact this

/-- append onto an own row. -/
theorem runs_append {c : Call} {s x : Operand} {t : TypeId} (hst : St E σ w H e a) (ho : o.op = .call c) (hc : c.callee = .builtin .append) (hargs : c.args.toList = [s, x]) (hts : c.argTypes.toList = [t, t])
    {id n : Nat} {el : TypeId} {sz b : Nat} {z : Value} {es xs : List (List PV)} (hs : ev e s = .row id n) (hid : H[id]? = some (.row false el sz es)) (hn : es.length = n) (hx : elemsOf H (ev e x) = some xs) (hl : ∀ l ∈ xs, l.length = sz)
    (ht : P.underlying t = some (.slice el)) (hi : tinfo P el = some (some z, sz, b)) (hz : z.cells.size = sz) (hbig : (n + xs.length) * b ≤ 140737488355328) (hmax : n + xs.length ≤ maxLen)
    (N : Act → World → Prop) (Q : Exit → Act → World → Prop) (hN : ∀ u w' σ', St E σ' w' (H.set id (.row false el sz (es ++ xs))) (eput e o.dst (.row id (n + xs.length))) (a.put o.dst u) → N (a.put o.dst u) w') : o.wp P a w N Q := by
  subst hn
  have hr1 := rep_ev hst.env.2 s
  have hr2 := rep_ev hst.env.2 x
  rw [hs] at hr1
  have hbb : σ.base ≤ w.heap.size ∧ ∀ b, σ.F b → b < w.heap.size := ⟨hst.heap.base, hst.heap.lt⟩
  obtain ⟨B, d, sz2, hu2, hd, hdm, hcells2⟩ := rep_elems hst.heap.refs hbb hr2 hx
  have hok := hst.heap.ok id _ hid
  have hok' := hok
  obtain ⟨hsz, hcur, _, hles, _, _⟩ := hok'
  obtain ⟨ys, hown, hyl, hyrep⟩ := row_open hok
  have hu1 : a.eval s = σ.row id es.length := by
    generalize a.eval s = u1 at hr1
    cases hr1; rfl
  have exec : ∀ {v w'}, (Builtin.append_ #[t, t] o.type #[a.eval s, a.eval x]).run P w = .ok v w' → (execOp a.eval o).run P w = .ok (.value v) w' := fun {v w'} hrun => by
    simp [execOp, ho, resolve, hc, list2 hargs, list2 hts, invoke, builtin, hrun]
  obtain ⟨i, hii, hiz, his, hib⟩ := tinfo_parts hi
  have hsame : H.set id (.row false el sz (es ++ xs)) = H → True := fun _ => trivial
  have fin : ∀ {v' w' xs'}, (Builtin.append_ #[t, t] o.type #[a.eval s, a.eval x]).run P w = .ok v' w' → w.grownBy w' (σ.row id es.length).ownBlock → (xs.length = 0 → v' = σ.row id es.length) →
      w'.ownsRow σ.base el sz v' (es.length + xs.length) xs' → (v'.ownBlock = (σ.row id es.length).ownBlock ∨ v'.ownBlock = some w.heap.size) →
      (∀ (k : Nat) p, (es ++ xs).flatten[k]? = some p → ∃ v, xs'[k]? = some v ∧ v.oneCell' = true ∧ RepP w σ.F p v) → o.wp P a w N Q := fun {v' w' xs'} hrun hg hsv hown' hob hrep => by
    have hlen : (es ++ xs).length = es.length + xs.length := by simp
    obtain ⟨σ', h1, h2, _⟩ := row_next (es' := es ++ xs) (v' := v') (xs' := xs') hst hid ⟨hg.os, hg.tape, hg.output⟩ hg.size (fun g hlt hne => hg.block g hlt (fun he => hne he.symm)) (by omega) (fun h => hsv (by omega)) (by rw [hlen]; exact hown') hob
      (fun l hl' => (List.mem_append.1 hl').elim (hles l) (hl l)) hrep
    unfold Oper.wp
    rw [exec hrun]
    rw [hlen] at h2
    exact hN v' w' σ' (h1.put o.dst h2)
  by_cases h0 : xs.length = 0
  · have hxs : xs = [] := List.eq_nil_of_length_eq_zero h0
    subst hxs
    have hform : ∃ A cap, σ.row id es.length = .slice A es.length cap ∧ es.length ≤ cap := by
      rcases hown.2 with ⟨h5, h6⟩ | ⟨g, cap, cur, h5, _, _, h7, _⟩
      · exact ⟨none, 0, by rw [h5, h6], by omega⟩
      · exact ⟨_, cap, h5, h7⟩
    obtain ⟨A, cap, hA, hcap⟩ := hform
    have hrun := run_append_nothing (P := P) (w := w) (ty := o.type) (A := A) (B := B) (d := d) ht hi hcap
    refine fin (v' := σ.row id es.length) (w' := w) (xs' := ys) ?_ (World.grownBy.refl w _) (fun _ => rfl) (by simpa using hown) (.inl rfl) (by simpa using hyrep)
    rw [hu1, hu2, hA]
    exact hrun
  · have hsz2 : sz2 = sz := by
      match xs, h0 with
      | x0 :: _, _ => rw [← hcells2.1 x0 (by simp), hl x0 (by simp)]
    subst hsz2
    obtain ⟨ad2, rfl, _, us, hul, hucell, huone, hurep⟩ := cells_vals hcells2 (by omega)
    obtain ⟨v', w', hrun, h2, h3, _, h5⟩ := run_append_own_at (P := P) w σ.base t o.type el i z sz2 b ht hii hiz his hib hz hsz (σ.row id es.length) es.length ys hown ad2 xs.length d us hul hucell huone hmax hbig hst.heap.base
    refine fin (v' := v') (w' := w') (xs' := ys ++ us) (by rw [hu1, hu2]; exact hrun) h3 (fun h => absurd h h0) h2 h5 ?_
    exact flatten_app (R := fun p v => v.oneCell' = true ∧ RepP w σ.F p v) hyl hles hyrep (fun k p hk => by
      obtain ⟨v, a1, a2⟩ := hurep k p hk
      exact ⟨v, a1, huone v (List.mem_of_getElem? a1), a2⟩)

theorem flatten_set {es : List (List PV)} {sz : Nat} (h : ∀ l ∈ es, l.length = sz) {i : Nat} {ps : List PV} (hp : ps.length = sz) (hi : i < es.length) :
    (es.set i ps).flatten = es.flatten.take (i * sz) ++ ps ++ es.flatten.drop (i * sz + sz) := by
  induction es generalizing i with
  | nil => simp at hi
  | cons e es ih =>
    have he := h e (by simp)
    match i with
    | 0 => 
      simp only [List.set_cons_zero, List.flatten_cons, Nat.zero_mul, List.take_zero, List.nil_append, Nat.zero_add]
      rw [← he, List.drop_left]
    | i + 1 =>
      have e1 : (i + 1) * sz = e.length + i * sz := by rw [he, Nat.succ_mul]; omega
      simp only [List.set_cons_succ, List.flatten_cons]
      rw [ih (fun l hl => h l (by simp [hl])) (by simpa using hi), e1, List.take_append, List.take_of_length_le (l := e) (by omega), Nat.add_sub_cancel_left, Nat.add_assoc, List.drop_append, List.drop_eq_nil_of_le (as := e) (by omega), Nat.add_sub_cancel_left]
      simp

theorem run_store_at {t : TypeId} {g k : Nat} {u : Value} {z : Option Value} {b : Nat} {cur : Array Value} {ty : TypeId} (hg : w.heap[g]? = some (.cells cur ty (0, 0))) (hi : tinfo P t = some (z, u.cells.toList.length, b))
    (hfit : k + u.cells.toList.length ≤ cur.size) (h1 : ∀ v ∈ u.cells.toList, v.oneCell' = true) :
    (storeVar t ⟨g, k, none⟩ u).run P w = .ok () (w.setRow g (cur.toList.take k ++ u.cells.toList ++ cur.toList.drop (k + u.cells.toList.length)).toArray) := by
  have hst := run_storeCells_at P g k ty u.cells.toList 0 cur w hg (by simpa using hfit) h1
  have e : ¬ u.cells.size ≠ u.cells.toList.length := by simp
  simp only [storeVar, Sem.run_bind, run_sizeOf hi, Result.andThen_ok]
  rw [if_neg e]
  simpa using hst

theorem setRow_step (w : World) (g : Nat) (cs : Array Value) : (w.setRow g cs).os = w.os ∧ (w.setRow g cs).tape = w.tape ∧ (w.setRow g cs).output = w.output := ⟨rfl, rfl, rfl⟩

/-- A store of a whole element into an own row. -/
theorem runs_store_row {t : TypeId} {x y : Operand} (hst : St E σ w H e a) (ho : o.op = .store t x y) {id n i : Nat} {el : TypeId} {sz b : Nat} {z : Option Value} {es : List (List PV)} {ps : List PV}
    (hx : ev e x = .rat id n (i * sz)) (hid : H[id]? = some (.row false el sz es)) (hn : es.length = n) (hi : i < n) (hok : okCells (ev e y) = true) (hps : toPs (cellsA (ev e y)) = some ps) (hpl : ps.length = sz) (hti : tinfo P t = some (z, sz, b))
    (N : Act → World → Prop) (Q : Exit → Act → World → Prop) (hN : ∀ w' σ', St E σ' w' (H.set id (.row false el sz (es.set i ps))) (eput e o.dst .any) (a.put o.dst undef) → N (a.put o.dst undef) w') : o.wp P a w N Q := by
  subst hn
  have hr1 := rep_ev hst.env.2 x
  have hr2 := rep_ev hst.env.2 y
  rw [hx] at hr1
  have hbk := hst.heap.ok id _ hid
  obtain ⟨hsz, hcur, _, hles, _, _⟩ := hbk
  obtain ⟨ys, hown, hyl, hyrep⟩ := row_open (hst.heap.ok id _ hid)
  obtain ⟨c1, c2⟩ := rep_cells hr2 hok
  obtain ⟨t1, t2⟩ := toPs_get hps
  generalize hu : a.eval x = u at hr1
  generalize hv : a.eval y = v at hr2 c1 c2
  cases hr1 with
  | rat _ _ _ g c hc hle hg =>
    rcases hown.2 with ⟨h5, h6⟩ | ⟨g', cap, cur, h5, h6, h7, h8, h9, h10, h11⟩
    · omega
    · have : g' = g := by rw [h5] at hg; simpa [Value.ownBlock] using hg
      subst this
      have hlen : v.cells.toList.length = sz := by omega
      have hidx : i * sz + sz ≤ es.length * sz := by rw [← Nat.succ_mul]; exact Nat.mul_le_mul_right _ hi
      have hcap : es.length * sz ≤ cap * sz := Nat.mul_le_mul_right _ h8
      have hrun := run_store_at (P := P) (k := i * sz) (u := v) h7 (by rw [hlen]; exact hti) (by omega) (fun x hx => by
        obtain ⟨j, hj⟩ := List.mem_iff_getElem?.1 hx
        have hjl := (List.getElem?_eq_some_iff.1 hj).1
        exact (c2 j _ x (List.getElem?_eq_getElem (by omega)) hj).2)
      generalize hcur' : (cur.toList.take (i * sz) ++ v.cells.toList ++ cur.toList.drop (i * sz + v.cells.toList.length)).toArray = cur' at hrun
      have hfl : (es.set i ps).flatten = es.flatten.take (i * sz) ++ ps ++ es.flatten.drop (i * sz + sz) := flatten_set hles hpl hi
      have hne : ∀ k, k ≠ g' → (w.setRow g' cur').heap[k]? = w.heap[k]? := fun k hk => setRow_other w g' k cur' hk
      have hes : (es.set i ps).length = es.length := by simp
      have hfles := flat_len hles
      obtain ⟨σ', s1, _, _⟩ := row_next (es' := es.set i ps) (v' := σ.row id es.length) (xs' := ys.take (i * sz) ++ v.cells.toList ++ ys.drop (i * sz + sz)) (w' := w.setRow g' cur') hst hid (setRow_step w g' cur') (by simp)
        (fun k hk hne' => hne k (fun he => hne' (by rw [hg, he]))) (by simp) (fun _ => rfl) (by
          rw [hes]
          refine ⟨by simp only [List.length_append, List.length_take, List.length_drop, hyl, hlen]; omega, .inr ⟨g', cap, cur', h5, h6, setRow_heap w g' cur cur' el (0, 0) h7, h8, h9, ?_, ?_⟩⟩
          · rw [← hcur']
            simp only [List.size_toArray, List.length_append, List.length_take, List.length_drop, Array.length_toList, h10, hlen]
            omega
          · rw [← hcur', ← h11]
            simp only [hlen]
            apply List.ext_getElem?
            intro j
            simp only [List.getElem?_take, List.getElem?_append, List.length_append, List.length_take, List.getElem?_drop, hlen, Array.length_toList, h10]
            repeat' split
            all_goals first
              | rfl
              | omega
              | (congr 1; omega)) (.inl rfl) (fun l hl => by
          rcases List.mem_or_eq_of_mem_set hl with h | h
          · exact hles l h
          · rw [h]; exact hpl) (fun k p hk => by
          rw [hfl] at hk
          simp only [List.getElem?_append, List.length_append, List.length_take, List.getElem?_take, List.getElem?_drop, hpl, hfles] at hk
          simp only [List.getElem?_append, List.length_append, List.length_take, List.getElem?_take, List.getElem?_drop, hlen, hyl]
          repeat' split at hk
          all_goals first
            | (cases hk; done)
            | skip
          · rw [if_pos (by omega), if_pos (by omega), if_pos (by omega)]
            exact hyrep k p hk
          · rw [if_pos (by omega), if_neg (by omega)]
            have hj := (List.getElem?_eq_some_iff.1 hk).1
            have e1 : min (i * sz) (es.length * sz) = i * sz := by omega
            rw [e1] at hk hj ⊢
            have hvi : v.cells.toList[k - i * sz]? = some (v.cells.toList[k - i * sz]'(by omega)) := List.getElem?_eq_getElem (by omega)
            have hci : (cellsA (ev e y))[k - i * sz]? = some ((cellsA (ev e y))[k - i * sz]'(by omega)) := List.getElem?_eq_getElem (by omega)
            have h3 := c2 _ _ _ hci hvi
            exact ⟨_, hvi, h3.2, rep_toP h3.1 (t2 _ _ p hci hk)⟩
          · rw [if_neg (by omega)]
            have e1 : i * sz + sz + (k - (min (i * sz) (es.length * sz) + sz)) = k := by omega
            rw [e1] at hk ⊢
            exact hyrep k p hk)
      unfold Oper.wp
      have hex : (execOp a.eval o).run P w = .ok .skip (w.setRow g' cur') := by
        simp [execOp, ho, Instr.storeAt, hu, hv, Instr.sureAddr, hrun]
      rw [hex]
      exact hN _ σ' (s1.put o.dst (.any _))
end
end Go.Proofs.Ytfpbdphdahfgbaa.Fw
