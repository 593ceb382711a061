/- The machine's operation yields what is said of it: cuts, append to what is full, calls; all of them together. -/
import Derived.Test.YtfpbdphdahfgbaaFw9
namespace Go.Proofs.Ytfpbdphdahfgbaa.Fw
open Go Go.RowKit

section
variable {P : Program} {a : Act} {w : World} {σ : Ctx} {H : List Blk} {o : Oper} {ρ : Operand → AV} {r : Res}

theorem elem_of {t el : TypeId} (ht : P.underlying t = some (.slice el)) : P.elem t = el := by simp [Program.elem, ht]

theorem run_cut {t el : TypeId} {s b : Nat} {z : Option Value} (ht : P.underlying t = some (.slice el)) (hi : tinfo P el = some (z, s, b)) {A : Option Addr} {n cap i j : Nat} (hij : i ≤ j) (hj : j ≤ n) (hn : n ≤ cap)
    {lo hi' mx : Option Operand} (hlo : (∃ l, lo = some l ∧ a.eval l = .int .i64 i) ∨ (lo = none ∧ i = 0)) (hhi : (∃ l, hi' = some l ∧ a.eval l = .int .i64 j) ∨ (hi' = none ∧ j = n ∧ mx = none))
    (hmx : (∃ l, mx = some l ∧ a.eval l = .int .i64 j) ∨ mx = none) :
    (Instr.sliceAt t (.slice A n cap) (lo.map a.eval) (hi'.map a.eval) (mx.map a.eval)).run P w =
      .ok (.slice (if (if mx.isSome then j else cap) = i then A else A.map (·.add (i * s))) (j - i) ((if mx.isSome then j else cap) - i)) w := by
  have ht' : P.underlying t = some (.slice (P.elem t)) := by rw [elem_of ht]; exact ht
  have hs : (sizeOf (P.elem t)).run P w = .ok s w := by rw [elem_of ht]; exact run_sizeOf hi
  rw [run_sliceAt_slice w t _ _ _ _ ht']
  rcases hlo with ⟨l, rfl, hl⟩ | ⟨rfl, rfl⟩ <;> rcases hhi with ⟨h, rfl, hh⟩ | ⟨rfl, rfl, rfl⟩
  · rcases hmx with ⟨m, rfl, hm⟩ | rfl
    · simp [hl, hh, hm, run_slice_lhm w t A n cap ht' .i64 .i64 .i64 i j j (by omega) (by omega) (by omega) (by omega), hs, sliced]
    · simp [hl, hh, run_slice_lh w t A n cap ht' .i64 .i64 i j (by omega) (by omega) (by omega), hs, sliced]
  · simp [hl, run_slice_l w t A j cap ht' .i64 i (by omega) (by omega), hs, sliced]
  · rcases hmx with ⟨m, rfl, hm⟩ | rfl
    · simp [hh, hm, run_slice_hm w t A n cap ht' .i64 .i64 j j (by omega) (by omega) (by omega), hs, sliced]
    · simp [hh, run_slice_h w t A n cap ht' .i64 j (by omega) (by omega), hs, sliced]
  · simp [run_slice_all w t A j cap ht', hs, sliced]

theorem qr_slice {t : TypeId} {x : Operand} {lo hi mx : Option Operand} (ho : o.op = .slice t x lo hi mx) (hρ : ∀ x, Rep w σ (ρ x) (a.eval x)) (hr : Refs w σ H) (hb : σ.base ≤ w.heap.size ∧ ∀ b, σ.F b → b < w.heap.size)
    (h : QR P o ρ H r) : Runs P o a w σ r := by
  simp only [QR, ho] at h
  obtain ⟨el, z, s, b, ht, hi', hs, es, he, hles, i, j, hij, hj, hlo, hhi, hmx, hx⟩ := h
  have hrx := hρ x
  have conv : ∀ {y : Operand} {n : Nat}, ρ y = .pv (.val (.int .i64 n)) → a.eval y = .int .i64 n := fun {y n} hy => by
    have := hρ y
    rw [hy] at this
    exact rep_val this
  have hlo' : (∃ l, lo = some l ∧ a.eval l = .int .i64 i) ∨ (lo = none ∧ i = 0) := by
    cases lo with
    | none => exact .inr ⟨rfl, hlo⟩
    | some l => exact .inl ⟨l, rfl, conv hlo⟩
  have hhi' : (∃ l, hi = some l ∧ a.eval l = .int .i64 j) ∨ (hi = none ∧ j = es.length ∧ mx = none) := by
    cases hi with
    | none => exact .inr ⟨rfl, hhi⟩
    | some l => exact .inl ⟨l, rfl, conv hhi⟩
  have hmx' : (∃ l, mx = some l ∧ a.eval l = .int .i64 j) ∨ mx = none := by
    cases mx with
    | none => exact .inr rfl
    | some l => exact .inl ⟨l, rfl, conv hmx⟩
  have hlen : ((es.take j).drop i).length = j - i := by rw [List.length_drop, List.length_take]; omega
  have fin : ∀ (A : Option Addr) (cap : Nat), a.eval x = .slice A es.length cap → es.length ≤ cap →
      (execOp a.eval o).run P w = .ok (.value (.slice (if (if mx.isSome then j else cap) = i then A else A.map (·.add (i * s))) ((es.take j).drop i).length ((if mx.isSome then j else cap) - i))) w := fun A cap hv hc => by
    rw [hlen]
    have := run_cut (P := P) (a := a) (w := w) ht hi' (A := A) hij hj hc hlo' hhi' hmx'
    simp only [execOp, ho, hv, Sem.run_bind, this, Result.andThen_ok, Sem.run_pure]
  -- what the source says of its size
  have size : ∀ {G : Nat → Prop} {A : Option Addr} {sz : Nat}, Cells w G σ.F A es sz → Cells w G σ.F A es s := fun {G A sz} hc => by
    by_cases h0 : es = []
    · subst h0; exact ⟨by simp, fun h => absurd h (by simp)⟩
    · obtain ⟨e, he⟩ := List.exists_mem_of_ne_nil es h0
      have : sz = s := by rw [← hc.1 e he, hles e he]
      subst this
      exact hc
  generalize hu : a.eval x = u at hrx
  clear hlo' hhi' hmx' hlo hhi
  generalize hv : ρ x = v at hx hrx he
  have froz : ∀ (A : Option Addr) (cap sz : Nat), u = .slice A es.length cap → es.length ≤ cap → cap ≤ maxLen → Cells w σ.F σ.F A es sz →
      (mx = none ∧ r = .val (.pv (.imm ((es.take j).drop i)))) ∨ (mx.isSome = true ∧ r = .val (.tight ((es.take j).drop i))) → Runs P o a w σ r := fun A cap sz hu' hc hm hcell hcase => by
    have hf := fin A cap (by rw [hu, hu']) hc
    rcases hcase with ⟨h1, rfl⟩ | ⟨h1, rfl⟩
    · refine runs_val hf (.pv (repP_imm.2 ⟨_, _, s, rfl, ?_, ?_, cells_cut (size hcell) hij hj (by rw [h1]; simp; omega)⟩))
      · rw [hlen, h1]; simp; omega
      · rw [h1]; simp; omega
    · have hcut := cells_cut (m := j) (size hcell) hij hj (Nat.le_refl _)
      rw [h1] at hf
      simp only [if_true] at hf
      rw [show j - i = ((es.take j).drop i).length from hlen.symm] at hf
      exact runs_val hf (.tight _ _ s (by rw [hlen]; omega) hcut)
  cases hrx with
  | pv hp =>
    cases hp with
    | imm es' A cap sz vs hc hm hsz ha hh =>
      simp [elemsOf] at he
      subst he
      obtain ⟨A', cap', sz', h1, h2, h3, h4⟩ := repP_imm.1 (RepP.imm (w := w) es' A cap sz vs hc hm hsz ha hh)
      exact froz A' cap' sz' h1 h2 h3 h4 hx
    | _ => simp [elemsOf] at he
  | tight es' A sz hm hcell =>
    simp [elemsOf] at he
    subst he
    exact froz A _ sz rfl (Nat.le_refl _) hm hcell hx
  | bor es' A cap sz hc hm hcell =>
    simp [elemsOf] at he
    subst he
    obtain ⟨h1, rfl⟩ := hx
    refine runs_val (fin A cap hu hc) (.bor _ _ _ s ?_ ?_ (cells_cut (size hcell) hij hj (by rw [h1]; simp; omega)))
    · rw [hlen, h1]; simp; omega
    · rw [h1]; simp; omega
  | row id n c hc hn hv1 =>
    obtain ⟨h1, rfl⟩ := hx
    simp only [elemsOf] at he
    cases hb' : H[id]? with
    | none => simp [hb'] at he
    | some bk =>
      cases bk with
      | row fz e sz es' =>
        simp only [hb'] at he
        split at he
        · rename_i hl
          injection he with he
          subst he
          subst hl
          rcases hr id _ hb' with h4 | h4
          · obtain ⟨h0, h2, _, h3, ⟨xs, ho', _⟩, _⟩ := h4
            have hform : ∃ A cap, σ.row id es'.length = .slice A es'.length cap ∧ es'.length ≤ cap := by
              rcases ho'.2 with ⟨h5, h6⟩ | ⟨g, cap, cur, h5, _, _, h7, _⟩
              · exact ⟨none, 0, by rw [h5, h6], by omega⟩
              · exact ⟨_, cap, h5, h7⟩
            obtain ⟨A, cap, hA, hcap⟩ := hform
            have hf := fin A cap (by rw [hu, hA]) hcap
            rw [h1, hlen] at hf
            exact runs_val (by simpa using hf) (.sub id _ s i j c cap A hc hn hA hij hj hcap)
          · rw [h4.1] at hc; cases hc
        · cases he
      | _ => simp [hb'] at he
  | sub => exact hx.elim
  | nil => exact hx.elim
  | _ => simp [elemsOf] at he
end
end Go.Proofs.Ytfpbdphdahfgbaa.Fw
