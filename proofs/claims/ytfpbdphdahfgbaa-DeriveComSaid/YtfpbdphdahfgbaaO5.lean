/- All ways in which writes come. -/
import Derived.Test.YtfpbdphdahfgbaaO4
import Derived.Test.YtfpbdphdahfgbaaFw28
namespace Go.Proofs.Ytfpbdphdahfgbaa
open Go Go.RowKit Go.Proofs.Ytfpbdphdahfgbaa.Fw

def eW (r : List (BitVec 32)) : List PV := [.imm (encU r)]
def encW (l : List (List (BitVec 32))) : List (List PV) := l.map eW
theorem encW_len (l : List (List (BitVec 32))) : (encW l).length = l.length := by simp [encW]
theorem encW_get {l : List (List (BitVec 32))} {k : Nat} (h : k < l.length) : (encW l)[k]? = some (eW l[k]) := by simp [encW, h]
attribute [simp] encW_len
attribute [go_sem] eW encW_len Try.underlying32 Try.underlying43

def orAll (n : Nat) (L : List (List Int)) (co : List (BitVec 32)) : List (List (BitVec 32)) := L.map fun one => orR co (ofR n one)
def nextE (n : Nat) (L : List (List Int)) (out : List (List (BitVec 32))) : List (List (BitVec 32)) := out.flatMap (orAll n L)
theorem nextE_len (n : Nat) (L : List (List Int)) (out : List (List (BitVec 32))) : (nextE n L out).length = out.length * L.length := by
  induction out with
  | nil => simp [nextE]
  | cons x out ih =>
    have : nextE n L (x :: out) = orAll n L x ++ nextE n L out := by simp [nextE]
    rw [this, List.length_append, ih, orAll, List.length_map, List.length_cons, Nat.succ_mul]; omega
theorem flatMap_take {α β : Type} (f : α → List β) (l : List α) {k : Nat} (h : k < l.length) : (l.take (k + 1)).flatMap f = (l.take k).flatMap f ++ f l[k] := by
  rw [List.take_add_one, List.getElem?_eq_getElem h, Option.toList_some, List.flatMap_append]; simp
/-- .. when so many places are done. -/
def waysTo (l : List Ev) : Nat → Option (List (List (BitVec 32)))
  | 0 => some [newR l.length]
  | k + 1 => (waysTo l k).bind fun out => if 20000 < out.length * (allO (writesE l ((placesE l).getD k 0))).length then none else some (nextE l.length (allO (writesE l ((placesE l).getD k 0))) out)
def allE (l : List Ev) : List (List (BitVec 32)) := (waysTo l (placesE l).length).getD []
theorem waysTo_none {l : List Ev} {k : Nat} (h : waysTo l k = none) : ∀ {m : Nat}, k ≤ m → waysTo l m = none := fun {m} hm => by
  induction m with
  | zero => have : k = 0 := by omega
            subst this; exact h
  | succ m ih =>
    by_cases hk : k = m + 1
    · subst hk; exact h
    · rw [waysTo, ih (by omega)]; rfl
theorem placesE_len (l : List Ev) : (placesE l).length ≤ l.length := by
  have h1 := Lib.compact_length_le (locsE l)
  have h2 := locsTo_len l l.length
  have h3 : (locsE l).length = (locsTo l l.length).length := by simp [locsE]
  rw [placesE]; omega

set_option maxHeartbeats 4000000 in
theorem call_calls (l : List Ev) (s : Six) (hl : l.length ≤ 1000) : PCalls Try.prog 13 [exA l s] (.val (.pv (.imm (encW (allE l))))) := by
  refine PCalls.of_body Try.func13 rfl rfl Try.ntmps13 Try.results13 ?_
  simp only [go_sem, List.replicate]
  refine WpA.seq fun Kx1 hKx1 => ?_
  refine WpA.reg fun all hall => ?_
  repeat ((first | refine aOps_nil ?_ | refine aOps_a rfl rfl rfl ?_); try simp only [go_sem])
  repeat ((first | refine aOps_nil ?_ | refine aOps_a rfl rfl rfl ?_); try simp only [go_sem])
  (apply hKx1; (try clear hKx1 Kx1); try simp only [go_sem])
  refine WpA.seq fun Kx2 hKx2 => ?_
  refine WpA.reg fun all hall => ?_
  repeat ((first | refine aOps_nil ?_ | refine aOps_a rfl rfl rfl ?_); try simp only [go_sem])
  repeat ((first | refine aOps_nil ?_ | refine aOps_a rfl rfl rfl ?_); try simp only [go_sem])
  (apply hKx2; (try clear hKx2 Kx2); try simp only [go_sem])
  refine WpA.seq fun Kx3 hKx3 => ?_
  refine WpA.reg fun all hall => ?_
  repeat ((first | refine aOps_nil ?_ | refine aOps_a rfl rfl rfl ?_); try simp only [go_sem])
  refine aOps_s rfl rfl (QK.call rfl rfl rfl (new_imm l.length (by omega)) (by repeat' (first | exact ConvL.nil | refine ConvL.cons ?_ ?_ | first | exact Conv.pv _ | exact Conv.imm_bor _ | exact Conv.bor _ | exact Conv.tight_imm _ | exact Conv.tight_bor _ | exact Conv.nil_imm | exact Conv.nil_bor | exact Conv.tight _ | exact Conv.at _ | exact Conv.row _ _ _ _ _ _ rfl (by first | rfl | (simp only [go_sem]; done) | (simp []; done) | (simp []; omega) | omega) | exact Conv.bat _ _ _ _ _ rfl rfl | exact Conv.aggp _ _ rfl | refine Conv.fnL _ ?_ | exact Conv.any _)) ?_)
  try simp only [go_sem]
  refine aOps_s rfl rfl (QK.lit rfl Try.underlying32 ti27 rfl rfl ?_)
  try simp only [go_sem]
  repeat ((first | refine aOps_nil ?_ | refine aOps_a rfl rfl rfl ?_); try simp only [go_sem])
  repeat ((first | refine aOps_nil ?_ | refine aOps_a rfl rfl rfl ?_); try simp only [go_sem])
  (apply hKx3; (try clear hKx3 Kx3); try simp only [go_sem])
  refine WpA.seq fun Kx4 hKx4 => ?_
  refine WpA.seq fun Kx5 hKx5 => ?_
  refine WpA.reg fun all hall => ?_
  repeat ((first | refine aOps_nil ?_ | refine aOps_a rfl rfl rfl ?_); try simp only [go_sem])
  refine aOps_s rfl rfl (QK.call rfl rfl rfl (places_calls l s hl) (by repeat' (first | exact ConvL.nil | refine ConvL.cons ?_ ?_ | first | exact Conv.pv _ | exact Conv.imm_bor _ | exact Conv.bor _ | exact Conv.tight_imm _ | exact Conv.tight_bor _ | exact Conv.nil_imm | exact Conv.nil_bor | exact Conv.tight _ | exact Conv.at _ | exact Conv.row _ _ _ _ _ _ rfl (by first | rfl | (simp only [go_sem]; done) | (simp []; done) | (simp []; omega) | omega) | exact Conv.bat _ _ _ _ _ rfl rfl | exact Conv.aggp _ _ rfl | refine Conv.fnL _ ?_ | exact Conv.any _)) ?_)
  try simp only [go_sem]
  repeat ((first | refine aOps_nil ?_ | refine aOps_a rfl rfl rfl ?_); try simp only [go_sem])
  repeat ((first | refine aOps_nil ?_ | refine aOps_a rfl rfl rfl ?_); try simp only [go_sem])
  (apply hKx5; (try clear hKx5 Kx5); try simp only [go_sem])
  refine WpA.block ?_
  refine WpA.plain 4 rfl rfl ?_
  try simp only [go_sem]
  have hpl := placesE_len l
  refine WpA.iter (fun ((k, out) : Nat × List (List (BitVec 32))) => k ≤ (placesE l).length ∧ waysTo l k = some out ∧ out.length ≤ 20000) (fun ((k, out) : Nat × List (List (BitVec 32))) => tpl 61 [(1, .bat 0 0), (3, iv l.length), (4, .pv (.imm (encW out))), (20, .pv (.imm (encZ (placesE l)))), (21, iv (placesE l).length), (22, iv k)]) (fun ((k, out) : Nat × List (List (BitVec 32))) => [.box 30 (exC l s)]) (fun ((k, out) : Nat × List (List (BitVec 32))) => (placesE l).length - k) ⟨0, [newR l.length]⟩ ⟨by omega, rfl, by simp⟩ (by ((try simp only [tpl, List.foldl_cons, List.foldl_nil, List.replicate, List.set_cons_zero, List.set_cons_succ]); repeat (first | exact trivial | refine ⟨.inr rfl, ?_⟩ | refine ⟨.inl rfl, ?_⟩))) rfl ?_
  rintro ⟨k, out⟩ hp0
  simp only [tpl, List.foldl_cons, List.foldl_nil, List.replicate, List.set_cons_zero, List.set_cons_succ]
  refine WpA.seq fun Kx6 hKx6 => ?_
  refine WpA.reg fun all hall => ?_
  repeat ((first | refine aOps_nil ?_ | refine aOps_a rfl rfl rfl ?_); try simp only [go_sem])
  repeat ((first | refine aOps_nil ?_ | refine aOps_a rfl rfl rfl ?_); try simp only [go_sem])
  (apply hKx6; (try clear hKx6 Kx6); try simp only [go_sem])
  refine WpA.seq fun Kx7 hKx7 => ?_
  (refine WpA.cond rfl (fun hb23 => ?_) (fun hb23 => ?_) <;> try simp only [decide_eq_true_eq, decide_eq_false_iff_not, Bool.not_eq_true', Bool.not_eq_false'] at hb23)
  · skip
    have hk : k < (placesE l).length := by (try simp only at hb23); omega
    obtain ⟨hp1, hp2, hp3⟩ := hp0
    have hL := allO_len (writesE l (placesE l)[k])
    have hmem : ∀ x ∈ allO (writesE l (placesE l)[k]), x.length ≤ 6 := fun x hx => allO_mem hx
    have hw1 : waysTo l (k + 1) = (if 20000 < out.length * (allO (writesE l (placesE l)[k])).length then none else some (nextE l.length (allO (writesE l (placesE l)[k])) out)) := by rw [waysTo, hp2]; simp [hk]
    have hmul : out.length * (allO (writesE l (placesE l)[k])).length ≤ 20000 * 46656 := Nat.mul_le_mul hp3 hL
    (refine WpA.skip ?_; try simp only [go_sem])
    (apply hKx7; (try clear hKx7 Kx7); try simp only [go_sem])
    refine WpA.seq fun Kx8 hKx8 => ?_
    refine WpA.block ?_
    refine WpA.seq fun Kx9 hKx9 => ?_
    refine WpA.reg fun all hall => ?_
    refine aOps_s rfl rfl (QK.at rfl Try.underlying39 ti3 rfl (by first | exact .inl rfl | exact .inr (.inl rfl) | exact .inr (.inr rfl)) rfl (encZ_get hk) rfl ?_)
    try simp only [go_sem]
    repeat ((first | refine aOps_nil ?_ | refine aOps_a rfl rfl rfl ?_); try simp only [go_sem])
    repeat ((first | refine aOps_nil ?_ | refine aOps_a rfl rfl rfl ?_); try simp only [go_sem])
    (apply hKx9; (try clear hKx9 Kx9); try simp only [go_sem])
    refine WpA.seq fun Kx10 hKx10 => ?_
    refine WpA.reg fun all hall => ?_
    repeat ((first | refine aOps_nil ?_ | refine aOps_a rfl rfl rfl ?_); try simp only [go_sem])
    refine aOps_s rfl rfl (QK.call rfl rfl rfl (writes_calls l s _ hl) (by repeat' (first | exact ConvL.nil | refine ConvL.cons ?_ ?_ | first | exact Conv.pv _ | exact Conv.imm_bor _ | exact Conv.bor _ | exact Conv.tight_imm _ | exact Conv.tight_bor _ | exact Conv.nil_imm | exact Conv.nil_bor | exact Conv.tight _ | exact Conv.at _ | exact Conv.row _ _ _ _ _ _ rfl (by first | rfl | (simp only [go_sem]; done) | (simp []; done) | (simp []; omega) | omega) | exact Conv.bat _ _ _ _ _ rfl rfl | exact Conv.aggp _ _ rfl | refine Conv.fnL _ ?_ | exact Conv.any _)) ?_)
    try simp only [go_sem]
    refine aOps_s rfl rfl (QK.call rfl rfl rfl (oall_calls (writesE l (placesE l)[k]) (by have := writesTo_len l (placesE l)[k] l.length; unfold writesE; omega)) (by repeat' (first | exact ConvL.nil | refine ConvL.cons ?_ ?_ | first | exact Conv.pv _ | exact Conv.imm_bor _ | exact Conv.bor _ | exact Conv.tight_imm _ | exact Conv.tight_bor _ | exact Conv.nil_imm | exact Conv.nil_bor | exact Conv.tight _ | exact Conv.at _ | exact Conv.row _ _ _ _ _ _ rfl (by first | rfl | (simp only [go_sem]; done) | (simp []; done) | (simp []; omega) | omega) | exact Conv.bat _ _ _ _ _ rfl rfl | exact Conv.aggp _ _ rfl | refine Conv.fnL _ ?_ | exact Conv.any _)) ?_)
    try simp only [go_sem]
    repeat ((first | refine aOps_nil ?_ | refine aOps_a rfl rfl rfl ?_); try simp only [go_sem])
    repeat ((first | refine aOps_nil ?_ | refine aOps_a rfl rfl rfl ?_); try simp only [go_sem])
    (apply hKx10; (try clear hKx10 Kx10); try simp only [go_sem])
    refine WpA.seq fun Kx11 hKx11 => ?_
    refine WpA.seq fun Kx12 hKx12 => ?_
    refine WpA.reg fun all hall => ?_
    ((first | refine aOps_nil ?_ | refine aOps_a rfl rfl rfl ?_); try simp only [go_sem])
    ((first | refine aOps_nil ?_ | refine aOps_a rfl rfl rfl ?_); try simp only [go_sem])
    ((first | refine aOps_nil ?_ | refine aOps_a rfl rfl rfl ?_); try simp only [go_sem])
    ((first | refine aOps_nil ?_ | refine aOps_a rfl rfl rfl ?_); try simp only [go_sem])
    ((first | refine aOps_nil ?_ | refine aOps_a rfl rfl rfl ?_); try simp only [go_sem])
    rw [show ((out.length : Int) * ((allO (writesE l (placesE l)[k])).length : Int)) = ((out.length * (allO (writesE l (placesE l)[k])).length : Nat) : Int) from by simp, wi _ (by omega)]
    repeat ((first | refine aOps_nil ?_ | refine aOps_a rfl rfl rfl ?_); try simp only [go_sem])
    repeat ((first | refine aOps_nil ?_ | refine aOps_a rfl rfl rfl ?_); try simp only [go_sem])
    (apply hKx12; (try clear hKx12 Kx12); try simp only [go_sem])
    (refine WpA.cond rfl (fun hb35 => ?_) (fun hb35 => ?_) <;> try simp only [decide_eq_true_eq, decide_eq_false_iff_not, Bool.not_eq_true', Bool.not_eq_false'] at hb35)
    · skip
      rw [if_pos (by omega)] at hw1
      refine WpA.seq fun Kx13 hKx13 => ?_
      refine WpA.reg fun all hall => ?_
      repeat ((first | refine aOps_nil ?_ | refine aOps_a rfl rfl rfl ?_); try simp only [go_sem])
      repeat ((first | refine aOps_nil ?_ | refine aOps_a rfl rfl rfl ?_); try simp only [go_sem])
      (apply hKx13; (try clear hKx13 Kx13); try simp only [go_sem])
      (refine WpA.ret ?_; try simp only [go_sem])
      rw [show allE l = [] from by rw [allE, waysTo_none hw1 hk]; rfl]
      exact RetQ.val .nil
    · skip
      rw [if_neg (by omega)] at hw1
      generalize allO (writesE l (placesE l)[k]) = L at hw1 hL hmul hb35 hmem ⊢
      (refine WpA.skip ?_; try simp only [go_sem])
      (apply hKx11; (try clear hKx11 Kx11); try simp only [go_sem])
      refine WpA.seq fun Kx14 hKx14 => ?_
      refine WpA.reg fun all hall => ?_
      repeat ((first | refine aOps_nil ?_ | refine aOps_a rfl rfl rfl ?_); try simp only [go_sem])
      repeat ((first | refine aOps_nil ?_ | refine aOps_a rfl rfl rfl ?_); try simp only [go_sem])
      (apply hKx14; (try clear hKx14 Kx14); try simp only [go_sem])
      refine WpA.seq fun Kx15 hKx15 => ?_
      refine WpA.seq fun Kx16 hKx16 => ?_
      refine WpA.reg fun all hall => ?_
      repeat ((first | refine aOps_nil ?_ | refine aOps_a rfl rfl rfl ?_); try simp only [go_sem])
      repeat ((first | refine aOps_nil ?_ | refine aOps_a rfl rfl rfl ?_); try simp only [go_sem])
      (apply hKx16; (try clear hKx16 Kx16); try simp only [go_sem])
      refine WpA.block ?_
      refine WpA.view 8 27 (sz := 1) (by decide) rfl ?_
      try simp only [go_sem]
      refine WpA.iter (fun (i : Nat) => i ≤ out.length) (fun (i : Nat) => tpl 61 [(1, .bat 0 0), (3, iv l.length), (7, .pv (.imm (encL L))), (8, .row 1 (nextE l.length L (out.take i)).length), (20, .pv (.imm (encZ (placesE l)))), (21, iv (placesE l).length), (22, iv k), (36, .pv (.imm (encW out))), (37, iv out.length), (38, iv i)]) (fun (i : Nat) => [.box 30 (exC l s), .row false 27 1 (encW (nextE l.length L (out.take i)))]) (fun (i : Nat) => out.length - i) 0 (by omega) (by ((try simp only [tpl, List.foldl_cons, List.foldl_nil, List.replicate, List.set_cons_zero, List.set_cons_succ]); repeat (first | exact trivial | refine ⟨.inr rfl, ?_⟩ | refine ⟨.inl rfl, ?_⟩))) rfl ?_
      rintro i hp2
      simp only [tpl, List.foldl_cons, List.foldl_nil, List.replicate, List.set_cons_zero, List.set_cons_succ]
      refine WpA.seq fun Kx17 hKx17 => ?_
      refine WpA.reg fun all hall => ?_
      repeat ((first | refine aOps_nil ?_ | refine aOps_a rfl rfl rfl ?_); try simp only [go_sem])
      repeat ((first | refine aOps_nil ?_ | refine aOps_a rfl rfl rfl ?_); try simp only [go_sem])
      (apply hKx17; (try clear hKx17 Kx17); try simp only [go_sem])
      refine WpA.seq fun Kx18 hKx18 => ?_
      (refine WpA.cond rfl (fun hb39 => ?_) (fun hb39 => ?_) <;> try simp only [decide_eq_true_eq, decide_eq_false_iff_not, Bool.not_eq_true', Bool.not_eq_false'] at hb39)
      · skip
        have hi : i < out.length := by omega
        have hn : nextE l.length L (out.take (i + 1)) = nextE l.length L (out.take i) ++ orAll l.length L out[i] := flatMap_take _ _ hi
        have hlen := nextE_len l.length L (out.take i)
        rw [List.length_take, Nat.min_eq_left (by omega)] at hlen
        have hlen2 : i * L.length + L.length ≤ out.length * L.length := by rw [← Nat.succ_mul]; exact Nat.mul_le_mul_right _ hi
        (refine WpA.skip ?_; try simp only [go_sem])
        (apply hKx18; (try clear hKx18 Kx18); try simp only [go_sem])
        refine WpA.seq fun Kx19 hKx19 => ?_
        refine WpA.block ?_
        refine WpA.seq fun Kx20 hKx20 => ?_
        refine WpA.reg fun all hall => ?_
        refine aOps_s rfl rfl (QK.at rfl Try.underlying32 ti27 rfl (by first | exact .inl rfl | exact .inr (.inl rfl) | exact .inr (.inr rfl)) rfl (encW_get hi) rfl ?_)
        try simp only [go_sem]
        repeat ((first | refine aOps_nil ?_ | refine aOps_a rfl rfl rfl ?_); try simp only [go_sem])
        repeat ((first | refine aOps_nil ?_ | refine aOps_a rfl rfl rfl ?_); try simp only [go_sem])
        (apply hKx20; (try clear hKx20 Kx20); try simp only [go_sem])
        refine WpA.seq fun Kx21 hKx21 => ?_
        refine WpA.reg fun all hall => ?_
        repeat ((first | refine aOps_nil ?_ | refine aOps_a rfl rfl rfl ?_); try simp only [go_sem])
        repeat ((first | refine aOps_nil ?_ | refine aOps_a rfl rfl rfl ?_); try simp only [go_sem])
        (apply hKx21; (try clear hKx21 Kx21); try simp only [go_sem])
        refine WpA.block ?_
        refine WpA.iter (fun (j : Nat) => j ≤ L.length) (fun (j : Nat) => tpl 61 [(1, .bat 0 0), (3, iv l.length), (7, .pv (.imm (encL L))), (8, .row 1 (nextE l.length L (out.take i) ++ orAll l.length (L.take j) out[i]).length), (10, .pv (.imm (encU out[i]))), (20, .pv (.imm (encZ (placesE l)))), (21, iv (placesE l).length), (22, iv k), (36, .pv (.imm (encW out))), (37, iv out.length), (38, iv i), (42, .pv (.imm (encL L))), (43, iv L.length), (44, iv j)]) (fun (j : Nat) => [.box 30 (exC l s), .row false 27 1 (encW (nextE l.length L (out.take i) ++ orAll l.length (L.take j) out[i]))]) (fun (j : Nat) => L.length - j) 0 (by omega) (by simp only [List.take_zero, orAll, List.map_nil, List.append_nil]; ((try simp only [tpl, List.foldl_cons, List.foldl_nil, List.replicate, List.set_cons_zero, List.set_cons_succ]); repeat (first | exact trivial | refine ⟨.inr rfl, ?_⟩ | refine ⟨.inl rfl, ?_⟩))) (by simp only [List.take_zero, orAll, List.map_nil, List.append_nil]; rfl) ?_
        rintro j hp4
        simp only [tpl, List.foldl_cons, List.foldl_nil, List.replicate, List.set_cons_zero, List.set_cons_succ]
        refine WpA.seq fun Kx22 hKx22 => ?_
        refine WpA.reg fun all hall => ?_
        repeat ((first | refine aOps_nil ?_ | refine aOps_a rfl rfl rfl ?_); try simp only [go_sem])
        repeat ((first | refine aOps_nil ?_ | refine aOps_a rfl rfl rfl ?_); try simp only [go_sem])
        (apply hKx22; (try clear hKx22 Kx22); try simp only [go_sem])
        refine WpA.seq fun Kx23 hKx23 => ?_
        (refine WpA.cond rfl (fun hb45 => ?_) (fun hb45 => ?_) <;> try simp only [decide_eq_true_eq, decide_eq_false_iff_not, Bool.not_eq_true', Bool.not_eq_false'] at hb45)
        · skip
          have hj : j < L.length := by omega
          have hres : orAll l.length (L.take (j + 1)) out[i] = orAll l.length (L.take j) out[i] ++ [orR out[i] (ofR l.length L[j])] := by rw [List.take_add_one, List.getElem?_eq_getElem hj, orAll, orAll, List.map_append]; rfl
          have hlen3 : (orAll l.length (L.take j) out[i]).length ≤ j := by simp [orAll]; omega
          (refine WpA.skip ?_; try simp only [go_sem])
          (apply hKx23; (try clear hKx23 Kx23); try simp only [go_sem])
          refine WpA.seq fun Kx24 hKx24 => ?_
          refine WpA.block ?_
          refine WpA.seq fun Kx25 hKx25 => ?_
          refine WpA.reg fun all hall => ?_
          refine aOps_s rfl rfl (QK.at rfl Try.underlying61 ti39 rfl (by first | exact .inl rfl | exact .inr (.inl rfl) | exact .inr (.inr rfl)) rfl (encL_get hj) rfl ?_)
          try simp only [go_sem]
          repeat ((first | refine aOps_nil ?_ | refine aOps_a rfl rfl rfl ?_); try simp only [go_sem])
          repeat ((first | refine aOps_nil ?_ | refine aOps_a rfl rfl rfl ?_); try simp only [go_sem])
          (apply hKx25; (try clear hKx25 Kx25); try simp only [go_sem])
          refine WpA.reg fun all hall => ?_
          repeat ((first | refine aOps_nil ?_ | refine aOps_a rfl rfl rfl ?_); try simp only [go_sem])
          refine aOps_s rfl rfl (QK.call rfl rfl rfl (of_calls l.length (by omega) L[j] (by have := hmem _ (List.getElem_mem hj); omega)) (by repeat' (first | exact ConvL.nil | refine ConvL.cons ?_ ?_ | first | exact Conv.pv _ | exact Conv.imm_bor _ | exact Conv.bor _ | exact Conv.tight_imm _ | exact Conv.tight_bor _ | exact Conv.nil_imm | exact Conv.nil_bor | exact Conv.tight _ | exact Conv.at _ | exact Conv.row _ _ _ _ _ _ rfl (by first | rfl | (simp only [go_sem]; done) | (simp []; done) | (simp []; omega) | omega) | exact Conv.bat _ _ _ _ _ rfl rfl | exact Conv.aggp _ _ rfl | refine Conv.fnL _ ?_ | exact Conv.any _)) ?_)
          try simp only [go_sem]
          refine aOps_s rfl rfl (QK.call rfl rfl rfl (or_calls _ _) (by repeat' (first | exact ConvL.nil | refine ConvL.cons ?_ ?_ | first | exact Conv.pv _ | exact Conv.imm_bor _ | exact Conv.bor _ | exact Conv.tight_imm _ | exact Conv.tight_bor _ | exact Conv.nil_imm | exact Conv.nil_bor | exact Conv.tight _ | exact Conv.at _ | exact Conv.row _ _ _ _ _ _ rfl (by first | rfl | (simp only [go_sem]; done) | (simp []; done) | (simp []; omega) | omega) | exact Conv.bat _ _ _ _ _ rfl rfl | exact Conv.aggp _ _ rfl | refine Conv.fnL _ ?_ | exact Conv.any _)) ?_)
          try simp only [go_sem]
          refine aOps_s rfl rfl (QK.lit rfl Try.underlying32 ti27 rfl rfl ?_)
          try simp only [go_sem]
          refine aOps_n rfl (aOp.app rfl rfl rfl (by rw [encW_len, List.length_append]) rfl (by simp) Try.underlying32 ti27 rfl (by simp only [List.length_append, List.length_cons, List.length_nil]; omega) ?_ (by decide))
          try simp only [go_sem]
          repeat ((first | refine aOps_nil ?_ | refine aOps_a rfl rfl rfl ?_); try simp only [go_sem])
          repeat ((first | refine aOps_nil ?_ | refine aOps_a rfl rfl rfl ?_); try simp only [go_sem])
          (apply hKx24; (try clear hKx24 Kx24); try simp only [go_sem])
          refine WpA.reg fun all hall => ?_
          repeat ((first | refine aOps_nil ?_ | refine aOps_a rfl rfl rfl ?_); try simp only [go_sem])
          repeat ((first | refine aOps_nil ?_ | refine aOps_a rfl rfl rfl ?_); try simp only [go_sem])
          rw [wi1 j (by omega)]
          exact ⟨j + 1, ⟨hj, by omega⟩, (by rw [hres]; simp only [List.length_append, List.length_cons, List.length_nil, Nat.add_assoc]; ((try simp only [tpl, List.foldl_cons, List.foldl_nil, List.replicate, List.set_cons_zero, List.set_cons_succ]); repeat (first | exact trivial | refine ⟨.inr rfl, ?_⟩ | refine ⟨.inl rfl, ?_⟩))), (by rw [hres]; simp [encW, eW])⟩
        · skip
          have hj : j = L.length := by omega
          subst hj
          rw [List.take_of_length_le (Nat.le_refl _)]
          (refine WpA.exit ?_; try simp only [go_sem])
          (apply hKx19; (try clear hKx19 Kx19); try simp only [go_sem])
          refine WpA.reg fun all hall => ?_
          repeat ((first | refine aOps_nil ?_ | refine aOps_a rfl rfl rfl ?_); try simp only [go_sem])
          repeat ((first | refine aOps_nil ?_ | refine aOps_a rfl rfl rfl ?_); try simp only [go_sem])
          rw [wi1 i (by omega)]
          exact ⟨i + 1, ⟨hi, by omega⟩, (by rw [hn, List.length_append]; ((try simp only [tpl, List.foldl_cons, List.foldl_nil, List.replicate, List.set_cons_zero, List.set_cons_succ]); repeat (first | exact trivial | refine ⟨.inr rfl, ?_⟩ | refine ⟨.inl rfl, ?_⟩))), (by rw [hn])⟩
      · skip
        have hi : i = out.length := by omega
        subst hi
        rw [List.take_of_length_le (Nat.le_refl _)]
        (refine WpA.exit ?_; try simp only [go_sem])
        (apply hKx15; (try clear hKx15 Kx15); try simp only [go_sem])
        refine WpA.reg fun all hall => ?_
        repeat ((first | refine aOps_nil ?_ | refine aOps_a rfl rfl rfl ?_); try simp only [go_sem])
        repeat ((first | refine aOps_nil ?_ | refine aOps_a rfl rfl rfl ?_); try simp only [go_sem])
        (apply hKx8; (try clear hKx8 Kx8); try simp only [go_sem])
        refine WpA.settle 4 1 rfl rfl (encW_len _) ?_
        try simp only [go_sem]
        refine WpA.cut 1 (by decide) (by first | rfl | simp only [go_sem]) ?_
        try simp only [go_sem]
        refine WpA.reg fun all hall => ?_
        repeat ((first | refine aOps_nil ?_ | refine aOps_a rfl rfl rfl ?_); try simp only [go_sem])
        repeat ((first | refine aOps_nil ?_ | refine aOps_a rfl rfl rfl ?_); try simp only [go_sem])
        rw [wi1 k (by (try simp only at hk); omega)]
        exact ⟨⟨k + 1, nextE l.length L out⟩, ⟨hk, hw1, by rw [nextE_len]; omega, by (try simp only); omega⟩, (by ((try simp only [tpl, List.foldl_cons, List.foldl_nil, List.replicate, List.set_cons_zero, List.set_cons_succ]); repeat (first | exact trivial | refine ⟨.inr rfl, ?_⟩ | refine ⟨.inl rfl, ?_⟩))), rfl⟩
  · skip
    (refine WpA.exit ?_; try simp only [go_sem])
    (apply hKx4; (try clear hKx4 Kx4); try simp only [go_sem])
    refine WpA.seq fun Kx26 hKx26 => ?_
    refine WpA.reg fun all hall => ?_
    repeat ((first | refine aOps_nil ?_ | refine aOps_a rfl rfl rfl ?_); try simp only [go_sem])
    repeat ((first | refine aOps_nil ?_ | refine aOps_a rfl rfl rfl ?_); try simp only [go_sem])
    (apply hKx26; (try clear hKx26 Kx26); try simp only [go_sem])
    (refine WpA.ret ?_; try simp only [go_sem])
    have h1 : k = (placesE l).length := by (try simp only at hb23); have := hp0.1; (try simp only at this); omega
    have h2 := hp0.2.1
    try simp only at h2
    subst h1
    rw [show allE l = out from by rw [allE, h2]; rfl]
    exact RetQ.val (.pv _)
end Go.Proofs.Ytfpbdphdahfgbaa
