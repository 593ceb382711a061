/- A statement whose order is open: what is read and called comes up in any order. -/
import Derived.Test.YtfpbdphdahfgbaaFw18
namespace Go.Proofs.Ytfpbdphdahfgbaa.Fw
open Go Go.RowKit

section
variable {P : Program} {H : List Blk} {o : Oper} {ρ ρ' : Operand → AV} {r : Res}

theorem callF_congr {f : Operand} {args : Array Operand} (hf : ρ f = ρ' f) (ha : ∀ x ∈ args, ρ x = ρ' x) : CallF ρ f args = CallF ρ' f args := by
  have e : args.toList.map ρ = args.toList.map ρ' := List.map_congr_left fun x hx => ha x (by simpa using hx)
  unfold CallF
  rw [hf, e]

theorem qr_congr (h : ∀ x ∈ o.op.operands, ρ x = ρ' x) (hq : QR P o ρ H r) : QR P o ρ' H r := by
  obtain ⟨dst, op, type, pos, after, guard⟩ := o
  cases op with
  | call c =>
    simp only [QR, CallQ] at hq ⊢
    obtain ⟨callee, args, ts⟩ := c
    simp only [Op.operands, Call.operands] at h
    cases callee with
    | builtin b =>
      have ha : ∀ x ∈ args.toList, ρ x = ρ' x := fun x hx => h x (by simpa using hx)
      simp only at hq ⊢
      generalize args.toList = l at hq ha
      generalize ts.toList = tl at hq
      unfold BuiltQ at hq ⊢
      split at hq
      · simpa only [ha _ (List.mem_singleton.2 rfl)] using hq
      · rw [ha _ (by simp), ha _ (by simp)] at hq; exact hq
      · rw [ha _ (by simp), ha _ (by simp)] at hq; exact hq
      · simpa only [ha _ (List.mem_cons_self ..), ha _ (List.mem_cons_of_mem _ (List.mem_cons_self ..))] using hq
      · exact hq.elim
    | value f =>
      simp only at hq ⊢
      rw [callF_congr (ρ := ρ) (ρ' := ρ') (h f (by simp)) (fun x hx => h x (by simp [hx]))] at hq
      exact hq
    | invoke x m => exact hq
  | build t ps =>
    have e : ps.toList.map (fun p => (p.1, ρ p.2)) = ps.toList.map (fun p => (p.1, ρ' p.2)) := List.map_congr_left fun p hp => by rw [h p.2 (by simp only [Op.operands, List.mem_toArray, List.mem_map]; exact ⟨p, hp, rfl⟩)]
    simp only [QR] at hq ⊢
    rw [e] at hq
    exact hq
  | buildSlice t n ps =>
    have e : ps.toList.map (fun p => (p.1, ρ p.2)) = ps.toList.map (fun p => (p.1, ρ' p.2)) := List.map_congr_left fun p hp => by rw [h p.2 (by simp only [Op.operands, List.mem_toArray, List.mem_map]; exact ⟨p, hp, rfl⟩)]
    simp only [QR] at hq ⊢
    rw [e] at hq
    exact hq
  | makeFunc f fs cs =>
    have e : cs.toList.map ρ = cs.toList.map ρ' := List.map_congr_left fun x hx => h x (by simp only [Op.operands, Array.mem_append]; right; simpa using hx)
    simp only [QR] at hq ⊢
    rw [e] at hq
    exact hq
  | slice t x lo hi mx =>
    have hx : ρ x = ρ' x := h x (by simp [Op.operands])
    have hlo : ∀ l, lo = some l → ρ l = ρ' l := fun l hl => h l (by simp [Op.operands, hl])
    have hhi : ∀ l, hi = some l → ρ l = ρ' l := fun l hl => h l (by simp [Op.operands, hl])
    have hmx : ∀ l, mx = some l → ρ l = ρ' l := fun l hl => h l (by simp [Op.operands, hl])
    simp only [QR] at hq ⊢
    rw [hx] at hq
    obtain ⟨el, z, s, b, h1, h2, h3, es, h4, h5, i, j, h6, h7, h8, h9, h10, h11⟩ := hq
    refine ⟨el, z, s, b, h1, h2, h3, es, h4, h5, i, j, h6, h7, ?_, ?_, ?_, h11⟩
    · cases lo with
      | none => exact h8
      | some l => simp only [hlo l rfl] at h8; exact h8
    · cases hi with
      | none => exact h9
      | some l => simp only [hhi l rfl] at h9; exact h9
    · cases mx with
      | none => exact h10
      | some l => simp only [hmx l rfl] at h10; exact h10
  | pick c x y =>
    simp only [QR] at hq ⊢
    rw [h c (by simp [Op.operands]), h x (by simp [Op.operands]), h y (by simp [Op.operands])] at hq
    exact hq
  | _ =>
    first
      | exact hq
      | (simp only [Op.operands, Array.mem_def, List.mem_cons, List.not_mem_nil, or_false, forall_eq, forall_eq_or_imp] at h
         simp only [QR] at hq ⊢
         first
           | (rw [h.1, h.2] at hq; exact hq)
           | (rw [h] at hq; exact hq)
           | (simp only [h] at hq; exact hq))
end

theorem nodup_bound : ∀ (N : Nat) (l : List Nat), l.Nodup → (∀ x ∈ l, x < N) → l.length ≤ N := by
  intro N
  induction N with
  | zero =>
    intro l _ h
    cases l with
    | nil => simp
    | cons x l => exact absurd (h x (by simp)) (by omega)
  | succ N ih =>
    intro l hn h
    have h1 := ih (l.erase N) (hn.erase N) (fun x hx => by
      have hx' := h x (List.mem_of_mem_erase hx)
      have hne : x ≠ N := by
        rintro rfl
        exact (List.Nodup.not_mem_erase hn) hx
      omega)
    have h2 : l.length ≤ (l.erase N).length + 1 := by
      rw [List.length_erase]
      split <;> omega
    omega
end Go.Proofs.Ytfpbdphdahfgbaa.Fw
