/- CoherUnlike: for every input the statement's function returns true, and its arguments read behind the call as they read before; no condition. -/
import Derived.Test.YtfpbdphdahfgbaaL1
import Derived.Test.YtfpbdphdahfgbaaQ5
import Derived.Test.YtfpbdphdahfgbaaJ0
namespace Go.Proofs.Ytfpbdphdahfgbaa
open Go Go.RowKit Go.Proofs.Ytfpbdphdahfgbaa.Fw

theorem last_exists {l : List Ev} (hl : l.length ≤ 24) (hn : (locsTo l l.length).length ≤ 5) (x : Nat) (hx : x < l.length) (hk : (l[x].kind == 2) = true) (first : Bool) : ∃ co ∈ allE l, lastOf (if first then invR co else co) (writesE l l[x].loc) = (x : Int) := by
  have hw7 : (locsTo l l.length).length ≤ 7 := by omega
  have h6 : ∀ p, (writesE l p).length ≤ 6 := fun p => Nat.le_trans (writes_few hw7 p) (by omega)
  have hm : (x : Int) ∈ writesE l l[x].loc := (mem_writes l _ x).2 ⟨x, hx, rfl, by simp only [List.getD_eq_getElem?_getD, List.getElem?_eq_getElem hx, Option.getD_some, isW, hk]; simp⟩
  have hp := write_place hm
  let f : Int → List Int := fun p => if p = l[x].loc then (if first then (x : Int) :: (writesE l p).erase x else (writesE l p).erase x ++ [(x : Int)]) else writesE l p
  obtain ⟨co, h1, h2, h3⟩ := ways_at (by omega) hw7 f (fun p _ => by
    simp only [f]
    split
    · rename_i e
      subst e
      have h4 := List.perm_cons_erase hm
      split
      · exact h4.symm
      · exact (List.perm_append_comm.trans (by simpa using h4.symm))
    · exact List.Perm.refl _) h6
  refine ⟨co, h1, ?_⟩
  cases first with
  | false => exact way_last h2 h3 hp (q := (writesE l l[x].loc).erase x) (by simp [f])
  | true => exact way_first h2 h3 hp (q := (writesE l l[x].loc).erase x) (by simp [f])
theorem some_way {l : List Ev} (hl : l.length ≤ 24) (hw7 : (locsTo l l.length).length ≤ 7) (h6 : ∀ p, (writesE l p).length ≤ 6) : 1 ≤ (allE l).length := by
  obtain ⟨co, h, _⟩ := ways_at (l := l) (by omega) hw7 (writesE l) (fun p _ => List.Perm.refl _) h6
  exact List.length_pos_of_mem h
theorem ways_bound {l : List Ev} (hw7 : (locsTo l l.length).length ≤ 7) : (allE l).length ≤ 20000 := by
  rw [allE_eq l hw7]; exact Nat.le_trans (outTo_few l hw7 _ (Nat.le_refl _)) (by decide)

theorem unlike_true (l : List Ev) (w : Nat) (hw : w < 256) (hll : l.length < 9223372036854775808) : PCalls Try.prog 3 [.pv (.imm (encE l)), .pv (.val (.int .u8 w))] (.val (bv true)) :=
  unlike_calls l w hw hll (fun h24 h5 i k hi hk hki => ways_unlike (by omega) (by omega) hi hk (by omega)) (fun h24 h5 => ways_bound (by omega)) (fun h24 h5 => some_way h24 (by omega) fun p => Nat.le_trans (writes_few (by omega) p) (by omega))
    (fun h24 h5 x hx hk => by
      obtain ⟨co, h1, h2⟩ := last_exists h24 h5 x hx hk false
      rw [List.any_eq_true]
      exact ⟨co, h1, by simpa using h2⟩)
    (fun h24 h5 x hx hk => by
      obtain ⟨co, h1, h2⟩ := last_exists h24 h5 x hx hk true
      rw [List.any_eq_true]
      exact ⟨co, h1, by simpa using h2⟩)

theorem u8_nat {n : Int} (h : (Lit.int .u8 n).wf = true) : ∃ k : Nat, n = k ∧ k < 256 := by
  have h0 : 0 ≤ n ∧ n ≤ 255 := by simpa [Lit.wf, IntKind.min, IntKind.max, IntKind.signed, IntKind.bits] using h
  exact ⟨n.toNat, by omega, by omega⟩

namespace coherUnlike
open Go.ChangeShapes Go.WideShapes Go.ChangeAt Go.RowKit
set_option maxRecDepth 100000 in
theorem lifted (os : Os) (started : os.Started) (H : Type) (enc : TypeId × Value → H) :
    ReturnsInHanded {} Try.checked os 3 .any (Rows.coherUnlikeSpec.pre6 enc Try.prog Try.f3 Rows.coherUnlikeRow.domain false) (Rows.coherUnlikeSpec.post enc Try.prog Try.f3 false true false false) := by
  refine returnsInHanded_of_change_sized (C := Try.checked) own started (by kernel_rfl) Try.func3
    (ChangeSpec.witness6 (enc := enc) (C := Try.checked) false ⟨#[], #[.slice none 0 0, .int .u8 0], []⟩ 8 (by kernel_rfl) (by kernel_rfl) (by kernel_rfl) (by kernel_rfl)) ?_
  intro W base args ds gs before hval0 hW hcnd hsz0 _
  have hval : ∀ (j : Nat) t v, Try.f3.params[j]? = some t → args[j]? = some v → Value.okWide Try.prog W .any base t v := hval0
  have hW' := hW
  obtain ⟨p, q, hA0, hV, rfl, hfz, hnd⟩ := hW
  have hA : DataW.TrodAll enc Try.prog W 0 (fun _ => true) true Try.f3.params.toList args.toList ds p := hA0
  rw [Try.params3] at hA hval
  obtain ⟨v0, vs0, d0, ds0, p0, q0, hargs, rfl, rfl, h0, r0⟩ := trodAll_cons hA
  obtain ⟨v1, vs1, d1, ds1, p1, q1, rfl, rfl, rfl, h1, r1⟩ := trodAll_cons r0
  obtain ⟨rfl, rfl, rfl⟩ := trodAll_nil r1
  obtain rfl : args = #[v0, v1] := by cases args; simp_all
  obtain ⟨rfl, rfl⟩ := trodVars_none hV
  obtain ⟨a0, len0, cap0, rfl⟩ := okWide_slice Try.underlying22 (hval 0 22 v0 rfl rfl)
  have lt0 : ∀ x ∈ p0, x.block < W.heap.size := by obtain ⟨m, hm⟩ := h0; exact DataW.trod_lt m _ _ _ hm
  obtain ⟨l, e0, ml⟩ := open_evs h0
  obtain ⟨n, rfl, rfl, rfl, wn⟩ := open_int Try.underlying5 (hval 1 5 v1 rfl rfl) h1
  obtain ⟨k, rfl, hk⟩ := u8_nat wn
  refine (true_calls (args := [.imm (encE l), .val (.int .u8 _)]) (W := W) (vs := [_, _]) (unlike_true l k hk (by unfold maxLen at ml; omega)) rfl (fun i p v hp hv => ?_)).mono fun e W' ⟨he, bel⟩ => ?_
  · match i, hp, hv with
    | 0, hp, hv => cases hp; cases hv; exact e0
    | 1, hp, hv => cases hp; cases hv; exact (.val _)
    | i + 2, hp, hv => simp at hp
  · subst he
    exact ⟨_, rfl, _, _, _, [], _, [], hW', trodAll_mk1 (shut_bool Try.underlying4 _), (trodAll_cons_mk (Below.trod laidOut (by kernel_rfl) (of_decide_eq_true (by kernel_rfl)) h0 bel lt0) (trodAll_cons_mk (shut_int Try.underlying5 wn) trodAll_mk0)), rfl, bel.frame _, fun h => by cases h⟩
theorem over : Rows.coherUnlikeRow.holds Try.pinned (OpenSpec.ofChange Rows.coherUnlikeSpec) :=
  OpenClaim.holds_of_wide 3 Try.f3 rfl rfl rfl rfl rfl rfl rfl ⟨rfl, rfl, rfl, rfl, rfl⟩ rfl rfl rfl rfl rfl (by kernel_rfl) Try.func3 (by kernel_rfl)
    (of_decide_eq_true (by kernel_rfl)) (by unfold Func.isWrapper; first | (rw [if_pos (by decide +kernel)]; kernel_rfl) | (rw [if_neg (by decide +kernel)]; exact ⟨rfl, rfl⟩))
    (fun os started H enc _ => lifted os started H enc)
end coherUnlike
/-- The row. -/
theorem coherUnlike_holds : Rows.CoherUnlikeSaid := coherUnlike.over
end Go.Proofs.Ytfpbdphdahfgbaa
