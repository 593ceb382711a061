/- The machine's operation yields what is said of it: append to what is full, calls; all of them together. -/
import Derived.Test.YtfpbdphdahfgbaaFw10
namespace Go.Proofs.Ytfpbdphdahfgbaa.Fw
open Go Go.RowKit

section
variable {P : Program} {a : Act} {w : World} {σ : Ctx} {H : List Blk} {o : Oper} {ρ : Operand → AV} {r : Res}

theorem cells_vals {G F : Nat → Prop} {A : Option Addr} {es : List (List PV)} {sz : Nat} (h : Cells w G F A es sz) (hp : 0 < es.length) :
    ∃ ad, A = some ad ∧ G ad.block ∧ ∃ vs : List Value, vs.length = es.length * sz ∧ (∀ (j : Nat) v, vs[j]? = some v → w.cell? (ad.add j) = some v) ∧ (∀ v ∈ vs, v.oneCell' = true) ∧
      ∀ (k : Nat) p, es.flatten[k]? = some p → ∃ v, vs[k]? = some v ∧ RepP w F p v := by
  obtain ⟨ad, hA, hG, hk⟩ := h.2 hp
  obtain ⟨vs, h1, h2, h3, h4⟩ := cells_list (w := w) (F := F) (ad := ad) (cs := es.flatten) hk
  have hfl : ∀ (es : List (List PV)), (∀ l ∈ es, l.length = sz) → es.flatten.length = es.length * sz := by
    intro es
    induction es with
    | nil => intro _; simp
    | cons e es ih => intro h; simp [ih (fun l hl => h l (by simp [hl])), h e (by simp), Nat.succ_mul, Nat.add_comm]
  refine ⟨ad, hA, hG, vs, by rw [← h1, hfl es h.1], h2, h3, fun k p hp => ?_⟩
  have hlt := (List.getElem?_eq_some_iff.1 hp).1
  have hv : vs[k]? = some (vs[k]'(by omega)) := List.getElem?_eq_getElem (by omega)
  exact ⟨_, hv, h4 k p _ hp hv⟩

theorem below_trans_drew_alloc (w : World) (b : Obj) : Below w.heap.size w (w.drew.alloc b) := ((Below.refl w.heap.size w).drew).alloc (Nat.le_refl _) b

/-- The elements of two lists that lie one behind the other. -/
theorem flatten_app {es xs : List (List PV)} {sz : Nat} {vs us : List Value} (hl : vs.length = es.length * sz) (he : ∀ l ∈ es, l.length = sz) {R : PV → Value → Prop}
    (h1 : ∀ (k : Nat) p, es.flatten[k]? = some p → ∃ v, vs[k]? = some v ∧ R p v) (h2 : ∀ (k : Nat) p, xs.flatten[k]? = some p → ∃ v, us[k]? = some v ∧ R p v) :
    ∀ (k : Nat) p, (es ++ xs).flatten[k]? = some p → ∃ v, (vs ++ us)[k]? = some v ∧ R p v := by
  have hfl : ∀ (es : List (List PV)), (∀ l ∈ es, l.length = sz) → es.flatten.length = es.length * sz := by
    intro es
    induction es with
    | nil => intro _; simp
    | cons e es ih => intro h; simp [ih (fun l hl => h l (by simp [hl])), h e (by simp), Nat.succ_mul, Nat.add_comm]
  have e1 := hfl es he
  intro k p hk
  rw [List.flatten_append] at hk
  by_cases hlt : k < es.flatten.length
  · rw [List.getElem?_append_left hlt] at hk
    rw [List.getElem?_append_left (by omega)]
    exact h1 k p hk
  · rw [List.getElem?_append_right (by omega)] at hk
    rw [List.getElem?_append_right (by omega), hl, ← e1]
    exact h2 _ p hk

theorem run_append_nothing {t ty el : TypeId} {A B : Option Addr} {n c d : Nat} {z : Option Value} {s b : Nat} (ht : P.underlying t = some (.slice el)) (hi : tinfo P el = some (z, s, b)) (hn : n ≤ c) :
    (Builtin.append_ #[t, t] ty #[.slice A n c, .slice B 0 d]).run P w = .ok (.slice A n c) w := by
  obtain ⟨i, hii, _, his, _⟩ := tinfo_parts hi
  cases A <;> cases B <;> simp [Builtin.append_, run_underlying ht, sizeOf, typeInfo, hii, Builtin.lenOf, hn, Builtin.firstCells, loadCells, loadCellsFrom, storeCells]

theorem qr_append {c : Call} (ho : o.op = .call c) (hc : c.callee = .builtin .append) (hρ : ∀ x, Rep w σ (ρ x) (a.eval x)) (hr : Refs w σ H) (hbb : σ.base ≤ w.heap.size ∧ ∀ b, σ.F b → b < w.heap.size)
    (h : BuiltQ P .append ρ H r c.args.toList c.argTypes.toList) : Runs P o a w σ r := by
  generalize hargs : c.args.toList = args at h
  generalize hts : c.argTypes.toList = ts at h
  unfold BuiltQ at h
  split at h
  · contradiction
  · contradiction
  · contradiction
  · rename_i s x t t' _
    obtain ⟨el, z, sz, b, es, xs, rfl, hs, hx, hl, ht, hi, hz, hsz, hbig, hmax, hcase⟩ := h
    have h1 : Rep w σ (.tight es) (a.eval s) := by
      have h0 := hρ s
      rcases hs with hs | ⟨hs, rfl⟩
      · rw [hs] at h0; exact h0
      · rw [hs] at h0
        generalize a.eval s = u0 at h0
        cases h0
        exact .tight [] none 0 (by simp) ⟨by simp, fun h => absurd h (by simp)⟩
    obtain ⟨B, d, sz2, hu2, hd, hdm, hcells2⟩ := rep_elems hr hbb (hρ x) hx
    have exec : ∀ {v w'}, (Builtin.append_ #[t, t] o.type #[a.eval s, a.eval x]).run P w = .ok v w' → (execOp a.eval o).run P w = .ok (.value v) w' := fun {v w'} hrun => by
      simp [execOp, ho, resolve, hc, list2 hargs, list2 hts, invoke, builtin, hrun]
    generalize hu1 : a.eval s = u1 at h1 exec
    cases h1 with
    | tight _ A sz1 hm hcells1 =>
      by_cases h0 : xs.length = 0
      · have hxs : xs = [] := List.eq_nil_of_length_eq_zero h0
        subst hxs
        rw [hu2] at exec
        rcases hcase with ⟨_, hpos⟩ | rfl
        · simp at hpos
        · rw [List.append_nil]
          exact runs_val (exec (run_append_nothing ht hi (Nat.le_refl _))) (.pv (repP_imm.2 ⟨A, _, sz1, rfl, Nat.le_refl _, hm, hcells1⟩))
      · have hsz2 : sz2 = sz := by
          match xs, h0 with
          | x0 :: _, _ => rw [← hcells2.1 x0 (by simp), hl x0 (by simp)]
        subst hsz2
        obtain ⟨i, hii, hiz, his, hib⟩ := tinfo_parts hi
        obtain ⟨ad2, rfl, _, us, hul, hucell, huone, hurep⟩ := cells_vals hcells2 (by omega)
        have hfin : ∃ (cap : Nat) (vs : List Value), vs.length = es.length * sz2 ∧ (∀ (k : Nat) p, es.flatten[k]? = some p → ∃ v, vs[k]? = some v ∧ RepP w σ.F p v) ∧ (∀ v ∈ vs, v.oneCell' = true) ∧ es.length + xs.length ≤ cap ∧ cap ≤ maxLen ∧
            (Builtin.append_ #[t, t] o.type #[.slice A es.length es.length, .slice (some ad2) xs.length d]).run P w =
              .ok (.slice (some ⟨w.heap.size, 0, none⟩) (es.length + xs.length) cap) (w.drew.alloc (.cells (vs.toArray ++ us.toArray ++ Builtin.zeroCells z.cells (cap - (es.length + xs.length))) el)) := by
          by_cases h3 : es.length = 0
          · have he : es = [] := List.eq_nil_of_length_eq_zero h3
            subst he
            cases A with
            | none =>
              refine ⟨grownCap w xs.length 0 el, [], by simp, fun k p hk => by simp at hk, by simp, ?_, ?_, ?_⟩
              · have := grownCap_ge w xs.length 0 el; simpa using this
              · exact grownCap_le_maxLen w _ _ _ (by simpa using hmax)
              · have := run_append_nil (P := P) w t o.type el i z ht hii hiz ad2 xs.length d us (by rw [hul, his]) hucell (by omega) (by simp only [maxLen] at hmax; simp at hmax; omega) (by rw [hib]; simp at hbig; omega)
                simpa using this
            | some ad =>
              refine ⟨grownCap w (0 + xs.length) 0 el, [], by simp, fun k p hk => by simp at hk, by simp, ?_, ?_, ?_⟩
              · have := grownCap_ge w (0 + xs.length) 0 el; simpa using this
              · exact grownCap_le_maxLen w _ _ _ (by simpa using hmax)
              · have := run_append_grow (P := P) w t o.type el i z ht hii hiz ad 0 0 [] (by simp) (fun j v hj => by simp at hj) ad2 xs.length d us (by rw [hul, his]) hucell (by omega) (by simp only [maxLen] at hmax; simp at hmax; omega) (growslice_fits (by omega) (by rw [hib]; simpa using hbig))
                simpa using this
          · have hone : sz1 = sz2 := by
              match es, h3 with
              | e0 :: _, _ => rw [← hcells1.1 e0 (by simp), hl e0 (by simp)]
            subst hone
            obtain ⟨ad, rfl, _, vs, hvl, hvcell, hvone, hvrep⟩ := cells_vals hcells1 (by omega)
            refine ⟨grownCap w (es.length + xs.length) es.length el, vs, hvl, hvrep, hvone, grownCap_ge w _ _ _, grownCap_le_maxLen w _ _ _ hmax, ?_⟩
            exact run_append_grow (P := P) w t o.type el i z ht hii hiz ad es.length es.length vs (by rw [hvl, his]) hvcell ad2 xs.length d us (by rw [hul, his]) hucell (by omega) (by simp only [maxLen] at hmax; omega) (growslice_fits (by omega) (by rw [hib]; exact hbig))
        obtain ⟨cap, vs, hvl, hvrep, hvone, hcap, hcapm, hrun⟩ := hfin
        have hlen : (es ++ xs).length = es.length + xs.length := by simp
        have hvu : (vs ++ us).length = (es ++ xs).length * sz2 := by rw [List.length_append, hvl, hul, hlen, Nat.add_mul]
        have hsize : (vs.toArray ++ us.toArray ++ Builtin.zeroCells z.cells (cap - (es.length + xs.length))).size = cap * sz2 := by
          simp only [Array.size_append, List.size_toArray, size_zeroCells, hz, hvl, hul, ← Nat.add_mul]
          congr 1
          omega
        have htake : (vs.toArray ++ us.toArray ++ Builtin.zeroCells z.cells (cap - (es.length + xs.length))).toList.take ((es ++ xs).length * sz2) = vs ++ us := by
          rw [← hvu]
          simp only [Array.toList_append]
          exact List.take_left
        generalize hcur : vs.toArray ++ us.toArray ++ Builtin.zeroCells z.cells (cap - (es.length + xs.length)) = cur at hrun hsize htake
        clear hcur
        rw [hu2] at exec
        rw [← hlen] at hrun hcap
        have hex := exec hrun
        have hrep := flatten_app (R := RepP w σ.F) hvl (fun l hl' => hl l (by simp [hl'])) hvrep hurep
        have hheap : (w.drew.alloc (.cells cur el)).heap[w.heap.size]? = some (.cells cur el) := heap_alloc_new w.drew (.cells cur el)
        have hbel := below_trans_drew_alloc w (.cells cur el)
        have hone : ∀ v ∈ vs ++ us, v.oneCell' = true := fun v hv => by
          rcases List.mem_append.1 hv with hv | hv
          · exact hvone v hv
          · exact huone v hv
        have hmono : ∀ (G : Nat → Prop) p v, RepP w σ.F p v → RepP (w.drew.alloc (.cells cur el)) (σ.more G).F p v := fun G p v h =>
          h.mono (fun ad ha => hbel.cell (hbb.2 _ ha)) (fun _ h => Or.inl h)
        rcases hcase with ⟨rfl, _⟩ | rfl
        · refine runs_of hex hbel ⟨fun _ => False, vs ++ us, fun _ h => h.elim, hsz, ⟨hvu, .inr ⟨w.heap.size, cap, cur, rfl, Nat.le_refl _, hheap, hcap, hcapm, hsize, htake⟩⟩, hl, fun k p hk => ?_, fun _ _ h => h⟩
          obtain ⟨v, a1, a2⟩ := hrep k p hk
          exact ⟨v, a1, hone v (List.mem_of_getElem? a1), hmono _ p v a2⟩
        · refine runs_of hex hbel ⟨fun b => b = w.heap.size, fun b hb => ⟨by omega, ?_⟩, .pv (repP_imm.2 ⟨_, cap, sz2, rfl, hcap, hcapm, hl, fun _ => ⟨_, rfl, .inr rfl, fun k p hk => ?_⟩⟩)⟩
          · rw [hb]; exact (Array.getElem?_eq_some_iff.1 hheap).1
          obtain ⟨v, a1, a2⟩ := hrep k p hk
          refine ⟨v, ?_, hone v (List.mem_of_getElem? a1), hmono _ p v a2⟩
          rw [add_at, Nat.zero_add, cell_of_row _ w.heap.size k cur el (0, 0) hheap]
          rw [← htake, List.getElem?_take] at a1
          split at a1
          · simpa using a1
          · cases a1
  · exact h.elim
end
end Go.Proofs.Ytfpbdphdahfgbaa.Fw
