/- DeriveFr: for every input the statement's function returns true, and its arguments read behind the call as they read before; no condition. -/
import Derived.Test.YtfpbdphdahfgbaaL4
import Derived.Test.YtfpbdphdahfgbaaJ0
namespace Go.Proofs.Ytfpbdphdahfgbaa
open Go Go.RowKit Go.Proofs.Ytfpbdphdahfgbaa.Fw
theorem u16_nat {n : Int} (h : (Lit.int .u16 n).wf = true) : ∃ k : Nat, n = k ∧ k < 65536 := by
  have h0 : 0 ≤ n ∧ n ≤ 65535 := by simpa [Lit.wf, IntKind.min, IntKind.max, IntKind.signed, IntKind.bits] using h
  exact ⟨n.toNat, by omega, by omega⟩
namespace deriveFr
open Go.ChangeShapes Go.WideShapes Go.ChangeAt Go.RowKit
set_option maxRecDepth 100000 in
theorem lifted (os : Os) (started : os.Started) (H : Type) (enc : TypeId × Value → H) :
    ReturnsInHanded {} Try.checked os 7 .any (Rows.deriveFrSpec.pre6 enc Try.prog Try.f7 Rows.deriveFrRow.domain false) (Rows.deriveFrSpec.post enc Try.prog Try.f7 false true false false) := by
  refine returnsInHanded_of_change_sized (C := Try.checked) own started (by kernel_rfl) Try.func7
    (ChangeSpec.witness6 (enc := enc) (C := Try.checked) false ⟨#[], #[.slice none 0 0, .slice none 0 0, .int .u16 0, .int .u16 0], []⟩ 8 (by kernel_rfl) (by kernel_rfl) (by kernel_rfl) (by kernel_rfl)) ?_
  intro W base args ds gs before hval0 hW hcnd hsz0 _
  have hval : ∀ (j : Nat) t v, Try.f7.params[j]? = some t → args[j]? = some v → Value.okWide Try.prog W .any base t v := hval0
  have hW' := hW
  obtain ⟨p, q, hA0, hV, rfl, hfz, hnd⟩ := hW
  have hA : DataW.TrodAll enc Try.prog W 0 (fun _ => true) true Try.f7.params.toList args.toList ds p := hA0
  rw [Try.params7] at hA hval
  obtain ⟨v0, vs0, d0, ds0, p0, q0, hargs, rfl, rfl, h0, r0⟩ := trodAll_cons hA
  obtain ⟨v1, vs1, d1, ds1, p1, q1, rfl, rfl, rfl, h1, r1⟩ := trodAll_cons r0
  obtain ⟨v2, vs2, d2, ds2, p2, q2, rfl, rfl, rfl, h2, r2⟩ := trodAll_cons r1
  obtain ⟨v3, vs3, d3, ds3, p3, q3, rfl, rfl, rfl, h3, r3⟩ := trodAll_cons r2
  obtain ⟨rfl, rfl, rfl⟩ := trodAll_nil r3
  obtain rfl : args = #[v0, v1, v2, v3] := by cases args; simp_all
  obtain ⟨rfl, rfl⟩ := trodVars_none hV
  obtain ⟨a0, len0, cap0, rfl⟩ := okWide_slice Try.underlying22 (hval 0 22 v0 rfl rfl)
  have lt0 : ∀ x ∈ p0, x.block < W.heap.size := by obtain ⟨m, hm⟩ := h0; exact DataW.trod_lt m _ _ _ hm
  obtain ⟨l, e0, ml⟩ := open_evs h0
  obtain ⟨a1, len1, cap1, rfl⟩ := okWide_slice Try.underlying43 (hval 1 43 v1 rfl rfl)
  have lt1 : ∀ x ∈ p1, x.block < W.heap.size := by obtain ⟨m, hm⟩ := h1; exact DataW.trod_lt m _ _ _ hm
  obtain ⟨init, e1, minit⟩ := open_is h1
  obtain ⟨n, rfl, rfl, rfl, wn⟩ := open_int Try.underlying58 (hval 2 58 v2 rfl rfl) h2
  obtain ⟨m, rfl, rfl, rfl, wm⟩ := open_int Try.underlying58 (hval 3 58 v3 rfl rfl) h3
  obtain ⟨i, rfl, hi⟩ := u16_nat wn
  obtain ⟨j, rfl, hj⟩ := u16_nat wm
  refine (true_calls (args := [.imm (encE l), .imm (encZ init), .val (.int .u16 _), .val (.int .u16 _)]) (W := W) (vs := [_, _, _, _]) (dfr_calls l init i j hi hj) rfl (fun i p v hp hv => ?_)).mono fun e W' ⟨he, bel⟩ => ?_
  · match i, hp, hv with
    | 0, hp, hv => cases hp; cases hv; exact e0
    | 1, hp, hv => cases hp; cases hv; exact e1
    | 2, hp, hv => cases hp; cases hv; exact (.val _)
    | 3, hp, hv => cases hp; cases hv; exact (.val _)
    | i + 4, hp, hv => simp at hp
  · subst he
    exact ⟨_, rfl, _, _, _, [], _, [], hW', trodAll_mk1 (shut_bool Try.underlying4 _), (trodAll_cons_mk (Below.trod laidOut (by kernel_rfl) (of_decide_eq_true (by kernel_rfl)) h0 bel lt0) (trodAll_cons_mk (Below.trod laidOut (by kernel_rfl) (of_decide_eq_true (by kernel_rfl)) h1 bel lt1) (trodAll_cons_mk (shut_int Try.underlying58 wn) (trodAll_cons_mk (shut_int Try.underlying58 wm) trodAll_mk0)))), rfl, bel.frame _, fun h => by cases h⟩
theorem over : Rows.deriveFrRow.holds Try.pinned (OpenSpec.ofChange Rows.deriveFrSpec) :=
  OpenClaim.holds_of_wide 7 Try.f7 rfl rfl rfl rfl rfl rfl rfl ⟨rfl, rfl, rfl, rfl, rfl⟩ rfl rfl rfl rfl rfl (by kernel_rfl) Try.func7 (by kernel_rfl)
    (of_decide_eq_true (by kernel_rfl)) (by unfold Func.isWrapper; first | (rw [if_pos (by decide +kernel)]; kernel_rfl) | (rw [if_neg (by decide +kernel)]; exact ⟨rfl, rfl⟩))
    (fun os started H enc _ => lifted os started H enc)
end deriveFr
/-- The row. -/
theorem deriveFr_holds : Rows.DeriveFrSaid := deriveFr.over
end Go.Proofs.Ytfpbdphdahfgbaa
