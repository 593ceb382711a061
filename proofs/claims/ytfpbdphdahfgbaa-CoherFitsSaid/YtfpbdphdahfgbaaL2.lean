/- CoherFits: for every input the statement's function returns true, and its argument reads behind the call as it read before; no condition. -/
import Derived.Test.YtfpbdphdahfgbaaL0
import Derived.Test.YtfpbdphdahfgbaaQ5
namespace Go.Proofs.Ytfpbdphdahfgbaa
open Go Go.RowKit Go.Proofs.Ytfpbdphdahfgbaa.Fw

theorem few_iff {l : List Ev} : fewE l = true ↔ l.length ≤ 24 ∧ (locsTo l l.length).length ≤ 7 := by simp [fewE]
theorem split_at {l : List Int} {a rest : List Int} {i : Int} (h : l = a ++ i :: rest) (ha : ∀ x ∈ a, x < i) (hr : ∀ x ∈ rest, i < x) {k : Nat} (hk : k < l.length) : (k < a.length → l[k] < i) ∧ (k = a.length → l[k] = i) ∧ (a.length < k → i < l[k]) := by
  subst h
  refine ⟨fun h => ?_, fun h => ?_, fun h => ?_⟩
  · rw [List.getElem_append_left h]; exact ha _ (List.getElem_mem h)
  · subst h; simp
  · rw [List.getElem_append_right (by omega)]
    rw [List.getElem_cons]
    split
    · omega
    · exact hr _ (List.getElem_mem _)
theorem upto_all {P : Nat → Prop} {k : Nat} (h : ∀ x, x < k → P x) (hk : P k) : ∀ x, x < k + 1 → P x := fun x hx => by
  rcases Nat.lt_succ_iff_lt_or_eq.1 hx with h1 | rfl
  · exact h x h1
  · exact hk
theorem fits_all {l : List Ev} (hl : l.length ≤ 24) (hw : (locsTo l l.length).length ≤ 7) {co : List (BitVec 32)} (h : co ∈ allE l) : fitsE l co = true ∧ acyclicR co = true := by
  obtain ⟨f, h1, h2⟩ := ways_of (by omega) hw h
  exact ⟨way_fits (by omega) h1 h2, way_acyclic h1 h2⟩
theorem six_all {l : List Ev} (h : ∀ x, x < l.length → ((l.getD x default).kind == 2) = true → (writesE l (l.getD x default).loc).length ≤ 6) (p : Int) : (writesE l p).length ≤ 6 := by
  by_cases hp : p ∈ placesE l
  · obtain ⟨i, hi, hw⟩ := (mem_places l p).1 hp
    simp only [isW, Bool.and_eq_true, beq_iff_eq] at hw
    have := h i hi (by simp only [beq_iff_eq]; exact hw.1)
    rwa [hw.2] at this
  · rw [(writes_nil l p).2 hp]; simp

set_option maxHeartbeats 4000000 in
theorem cfits_calls (l : List Ev) (hll : l.length < 9223372036854775808) : PCalls Try.prog 4 [.pv (.imm (encE l))] (.val (bv true)) := by
  refine PCalls.of_body Try.func4 rfl rfl Try.ntmps4 Try.results4 ?_
  simp only [go_sem, List.replicate]
  refine WpA.seq fun Kx1 hKx1 => ?_
  refine WpA.reg fun all hall => ?_
  repeat ((first | refine aOps_nil ?_ | refine aOps_a rfl rfl rfl ?_); try simp only [go_sem])
  repeat ((first | refine aOps_nil ?_ | refine aOps_a rfl rfl rfl ?_); try simp only [go_sem])
  (apply hKx1; (try clear hKx1 Kx1); try simp only [go_sem])
  refine WpA.seq fun Kx2 hKx2 => ?_
  refine WpA.reg fun all hall => ?_
  refine aOps_s rfl rfl (QK.call rfl rfl rfl shown12_calls (by repeat' (first | exact ConvL.nil | refine ConvL.cons ?_ ?_ | first | exact Conv.pv _ | exact Conv.imm_bor _ | exact Conv.bor _ | exact Conv.tight_imm _ | exact Conv.tight_bor _ | exact Conv.nil_imm | exact Conv.nil_bor | exact Conv.tight _ | exact Conv.at _ | exact Conv.row _ _ _ _ _ _ rfl (by first | rfl | (simp only [go_sem]; done) | (simp []; done) | (simp []; omega) | omega) | exact Conv.bat _ _ _ _ _ rfl rfl | exact Conv.aggp _ _ rfl | refine Conv.fnL _ ?_ | exact Conv.any _)) ?_)
  try simp only [go_sem]
  repeat ((first | refine aOps_nil ?_ | refine aOps_a rfl rfl rfl ?_); try simp only [go_sem])
  repeat ((first | refine aOps_nil ?_ | refine aOps_a rfl rfl rfl ?_); try simp only [go_sem])
  (apply hKx2; (try clear hKx2 Kx2); try simp only [go_sem])
  refine WpA.seq fun Kx3 hKx3 => ?_
  refine WpA.seq fun Kx4 hKx4 => ?_
  refine WpA.reg fun all hall => ?_
  repeat ((first | refine aOps_nil ?_ | refine aOps_a rfl rfl rfl ?_); try simp only [go_sem])
  refine aOps_s rfl rfl (QK.call rfl rfl rfl (few_calls l hll) (by repeat' (first | exact ConvL.nil | refine ConvL.cons ?_ ?_ | first | exact Conv.pv _ | exact Conv.imm_bor _ | exact Conv.bor _ | exact Conv.tight_imm _ | exact Conv.tight_bor _ | exact Conv.nil_imm | exact Conv.nil_bor | exact Conv.tight _ | exact Conv.at _ | exact Conv.row _ _ _ _ _ _ rfl (by first | rfl | (simp only [go_sem]; done) | (simp []; done) | (simp []; omega) | omega) | exact Conv.bat _ _ _ _ _ rfl rfl | exact Conv.aggp _ _ rfl | refine Conv.fnL _ ?_ | exact Conv.any _)) ?_)
  try simp only [go_sem]
  repeat ((first | refine aOps_nil ?_ | refine aOps_a rfl rfl rfl ?_); try simp only [go_sem])
  repeat ((first | refine aOps_nil ?_ | refine aOps_a rfl rfl rfl ?_); try simp only [go_sem])
  (apply hKx4; (try clear hKx4 Kx4); try simp only [go_sem])
  (refine WpA.cond rfl (fun hb14 => ?_) (fun hb14 => ?_) <;> try simp only [decide_eq_true_eq, decide_eq_false_iff_not, Bool.not_eq_true', Bool.not_eq_false'] at hb14)
  · skip
    refine WpA.seq fun Kx5 hKx5 => ?_
    refine WpA.reg fun all hall => ?_
    repeat ((first | refine aOps_nil ?_ | refine aOps_a rfl rfl rfl ?_); try simp only [go_sem])
    repeat ((first | refine aOps_nil ?_ | refine aOps_a rfl rfl rfl ?_); try simp only [go_sem])
    (apply hKx5; (try clear hKx5 Kx5); try simp only [go_sem])
    (refine WpA.ret ?_; try simp only [go_sem])
    exact ret_b rfl rfl
  · skip
    have hfew : fewE l = true := by simpa using hb14
    obtain ⟨hl, hw⟩ := few_iff.1 hfew
    (refine WpA.skip ?_; try simp only [go_sem])
    (apply hKx3; (try clear hKx3 Kx3); try simp only [go_sem])
    refine WpA.seq fun Kx6 hKx6 => ?_
    refine WpA.reg fun all hall => ?_
    repeat ((first | refine aOps_nil ?_ | refine aOps_a rfl rfl rfl ?_); try simp only [go_sem])
    refine aOps_s rfl rfl (QK.call rfl rfl rfl (made12_calls l) (by repeat' (first | exact ConvL.nil | refine ConvL.cons ?_ ?_ | first | exact Conv.pv _ | exact Conv.imm_bor _ | exact Conv.bor _ | exact Conv.tight_imm _ | exact Conv.tight_bor _ | exact Conv.nil_imm | exact Conv.nil_bor | exact Conv.tight _ | exact Conv.at _ | exact Conv.row _ _ _ _ _ _ rfl (by first | rfl | (simp only [go_sem]; done) | (simp []; done) | (simp []; omega) | omega) | exact Conv.bat _ _ _ _ _ rfl rfl | exact Conv.aggp _ _ rfl | refine Conv.fnL _ ?_ | exact Conv.any _)) ?_)
    try simp only [go_sem]
    refine aOps_s rfl rfl (QK.alloc rfl ti30 (by kernel_rfl) rfl ?_)
    try simp only [go_sem]
    refine aOps_n rfl (aOp.set rfl rfl rfl rfl ?_ ti30 ?_)
    · exact ⟨rfl, (by first | rfl | (simp only [go_sem]; done) | (simp []; done) | (simp []; omega) | omega)⟩
    try simp only [go_sem]
    repeat ((first | refine aOps_nil ?_ | refine aOps_a rfl rfl rfl ?_); try simp only [go_sem])
    (apply hKx6; (try clear hKx6 Kx6); try simp only [go_sem])
    refine WpA.seq fun Kx7 hKx7 => ?_
    refine WpA.reg fun all hall => ?_
    repeat ((first | refine aOps_nil ?_ | refine aOps_a rfl rfl rfl ?_); try simp only [go_sem])
    refine aOps_s rfl rfl (QK.call rfl rfl rfl (call_calls l s0 (by omega)) (by repeat' (first | exact ConvL.nil | refine ConvL.cons ?_ ?_ | first | exact Conv.pv _ | exact Conv.imm_bor _ | exact Conv.bor _ | exact Conv.tight_imm _ | exact Conv.tight_bor _ | exact Conv.nil_imm | exact Conv.nil_bor | exact Conv.tight _ | exact Conv.at _ | exact Conv.row _ _ _ _ _ _ rfl (by first | rfl | (simp only [go_sem]; done) | (simp []; done) | (simp []; omega) | omega) | exact Conv.bat _ _ _ _ _ rfl rfl | exact Conv.aggp _ _ rfl | refine Conv.fnL _ ?_ | exact Conv.any _)) ?_)
    try simp only [go_sem]
    repeat ((first | refine aOps_nil ?_ | refine aOps_a rfl rfl rfl ?_); try simp only [go_sem])
    repeat ((first | refine aOps_nil ?_ | refine aOps_a rfl rfl rfl ?_); try simp only [go_sem])
    (apply hKx7; (try clear hKx7 Kx7); try simp only [go_sem])
    refine WpA.seq fun Kx8 hKx8 => ?_
    refine WpA.reg fun all hall => ?_
    repeat ((first | refine aOps_nil ?_ | refine aOps_a rfl rfl rfl ?_); try simp only [go_sem])
    repeat ((first | refine aOps_nil ?_ | refine aOps_a rfl rfl rfl ?_); try simp only [go_sem])
    (apply hKx8; (try clear hKx8 Kx8); try simp only [go_sem])
    refine WpA.seq fun Kx9 hKx9 => ?_
    refine WpA.seq fun Kx10 hKx10 => ?_
    refine WpA.reg fun all hall => ?_
    repeat ((first | refine aOps_nil ?_ | refine aOps_a rfl rfl rfl ?_); try simp only [go_sem])
    repeat ((first | refine aOps_nil ?_ | refine aOps_a rfl rfl rfl ?_); try simp only [go_sem])
    (apply hKx10; (try clear hKx10 Kx10); try simp only [go_sem])
    refine WpA.block ?_
    refine WpA.iter (fun (i : Nat) => i ≤ l.length ∧ ∀ x, x < i → ((l.getD x default).kind == 2) = true → (writesE l (l.getD x default).loc).length ≤ 6) (fun (i : Nat) => tpl 100 [(0, .pv (.imm (encE l))), (3, bv true), (4, .bat 0 0), (5, .pv (.imm (encW (allE l)))), (6, iv (manyTo l i : Nat)), (7, iv i)]) (fun (i : Nat) => [.box 30 (exC l s0)]) (fun (i : Nat) => l.length - i) 0 ⟨Nat.zero_le _, fun x h => by omega⟩ (by ((try simp only [tpl, List.foldl_cons, List.foldl_nil, List.replicate, List.set_cons_zero, List.set_cons_succ]); repeat (first | exact trivial | refine ⟨.inr rfl, ?_⟩ | refine ⟨.inl rfl, ?_⟩))) rfl ?_
    rintro i hp0
    simp only [tpl, List.foldl_cons, List.foldl_nil, List.replicate, List.set_cons_zero, List.set_cons_succ]
    refine WpA.seq fun Kx11 hKx11 => ?_
    refine WpA.seq fun Kx12 hKx12 => ?_
    refine WpA.reg fun all hall => ?_
    repeat ((first | refine aOps_nil ?_ | refine aOps_a rfl rfl rfl ?_); try simp only [go_sem])
    repeat ((first | refine aOps_nil ?_ | refine aOps_a rfl rfl rfl ?_); try simp only [go_sem])
    (apply hKx12; (try clear hKx12 Kx12); try simp only [go_sem])
    (refine WpA.cond rfl (fun hb23 => ?_) (fun hb23 => ?_) <;> try simp only [decide_eq_true_eq, decide_eq_false_iff_not, Bool.not_eq_true', Bool.not_eq_false'] at hb23)
    · skip
      have hi : i < l.length := by omega
      have hge : l.getD i default = l[i] := by simp [hi]
      (refine WpA.skip ?_; try simp only [go_sem])
      (apply hKx11; (try clear hKx11 Kx11); try simp only [go_sem])
      refine WpA.seq fun Kx13 hKx13 => ?_
      refine WpA.block ?_
      refine WpA.seq fun Kx14 hKx14 => ?_
      refine WpA.seq fun Kx15 hKx15 => ?_
      refine WpA.reg fun all hall => ?_
      repeat ((first | refine aOps_nil ?_ | refine aOps_a rfl rfl rfl ?_); try simp only [go_sem])
      refine aOps_s rfl rfl (QK.at rfl Try.underlying22 ti25 rfl (by first | exact .inl rfl | exact .inr (.inl rfl) | exact .inr (.inr rfl)) rfl (encE_get hi) rfl ?_)
      try simp only [go_sem]
      repeat ((first | refine aOps_nil ?_ | refine aOps_a rfl rfl rfl ?_); try simp only [go_sem])
      repeat ((first | refine aOps_nil ?_ | refine aOps_a rfl rfl rfl ?_); try simp only [go_sem])
      (apply hKx15; (try clear hKx15 Kx15); try simp only [go_sem])
      (refine WpA.cond rfl (fun hb31 => ?_) (fun hb31 => ?_) <;> try simp only [decide_eq_true_eq, decide_eq_false_iff_not, Bool.not_eq_true', Bool.not_eq_false'] at hb31)
      · skip
        have hk2 : (l[i].kind == 2) = false := by simpa using hb31
        have hmany : manyTo l (i + 1) = manyTo l i := by rw [manyTo, hge, hk2]; rfl
        have hsix : ((l.getD i default).kind == 2) = true → (writesE l (l.getD i default).loc).length ≤ 6 := fun h => by rw [hge, hk2] at h; cases h
        (refine WpA.exit ?_; try simp only [go_sem])
        (apply hKx13; (try clear hKx13 Kx13); try simp only [go_sem])
        refine WpA.reg fun all hall => ?_
        repeat ((first | refine aOps_nil ?_ | refine aOps_a rfl rfl rfl ?_); try simp only [go_sem])
        repeat ((first | refine aOps_nil ?_ | refine aOps_a rfl rfl rfl ?_); try simp only [go_sem])
        rw [wi1 i (by omega)]
        exact ⟨i + 1, ⟨hi, upto_all hp0.2 hsix, by omega⟩, (by rw [hmany]; ((try simp only [tpl, List.foldl_cons, List.foldl_nil, List.replicate, List.set_cons_zero, List.set_cons_succ]); repeat (first | exact trivial | refine ⟨.inr rfl, ?_⟩ | refine ⟨.inl rfl, ?_⟩))), rfl⟩
      · skip
        have hk2 : (l[i].kind == 2) = true := by simpa using hb31
        have hmany : manyTo l (i + 1) = manyTo l i * ((writesTo l l[i].loc i).length + 1) := by rw [manyTo, hge, hk2]; rfl
        have hML : manyTo l i * ((writesTo l l[i].loc i).length + 1) ≤ 5040 := by rw [← hmany]; exact many_le hw hi
        have hbl := writesTo_len l l[i].loc i
        obtain ⟨rest, hsp, hrest⟩ := writes_split (l := l) l[i].loc l.length i hi (Nat.le_refl _) (by rw [hge]; simp only [isW, hk2]; simp)
        rw [show writesTo l l[i].loc l.length = writesE l l[i].loc from rfl] at hsp
        have hat := fun {k : Nat} (hk : k < (writesE l l[i].loc).length) => split_at hsp (writes_below l[i].loc i) hrest hk
        have hwl : (writesE l l[i].loc).length = (writesTo l l[i].loc i).length + (rest.length + 1) := by rw [hsp]; simp
        have hwle := writes_len_le l l[i].loc
        (refine WpA.skip ?_; try simp only [go_sem])
        (apply hKx14; (try clear hKx14 Kx14); try simp only [go_sem])
        refine WpA.seq fun Kx16 hKx16 => ?_
        refine WpA.regD (0 + 1 + 1 + 1 + 1 + 1 + 1) mixed (by kernel_rfl) fun all hall => ?_
        repeat ((first | refine aOps_nil ?_ | refine aOps_a rfl rfl rfl ?_); try simp only [go_sem])
        refine aOps_s rfl rfl (QK.at rfl Try.underlying22 ti25 rfl (by first | exact .inl rfl | exact .inr (.inl rfl) | exact .inr (.inr rfl)) rfl (encE_get hi) rfl ?_)
        try simp only [go_sem]
        repeat ((first | refine aOps_nil ?_ | refine aOps_a rfl rfl rfl ?_); try simp only [go_sem])
        refine aOps_s rfl rfl (QK.call rfl rfl rfl (writes_calls l s0 l[i].loc (by omega)) (by repeat' (first | exact ConvL.nil | refine ConvL.cons ?_ ?_ | first | exact Conv.pv _ | exact Conv.imm_bor _ | exact Conv.bor _ | exact Conv.tight_imm _ | exact Conv.tight_bor _ | exact Conv.nil_imm | exact Conv.nil_bor | exact Conv.tight _ | exact Conv.at _ | exact Conv.row _ _ _ _ _ _ rfl (by first | rfl | (simp only [go_sem]; done) | (simp []; done) | (simp []; omega) | omega) | exact Conv.bat _ _ _ _ _ rfl rfl | exact Conv.aggp _ _ rfl | refine Conv.fnL _ ?_ | exact Conv.any _)) ?_)
        try simp only [go_sem]
        repeat ((first | refine aOps_nil ?_ | refine aOps_a rfl rfl rfl ?_); try simp only [go_sem])
        repeat ((first | refine aOps_nil ?_ | refine aOps_a rfl rfl rfl ?_); try simp only [go_sem])
        generalize hr : (writesTo l l[i].loc i).length = r at hmany hML hbl hat hwl
        generalize hM : manyTo l i = M at hmany hML ⊢
        (apply hKx16; (try clear hKx16 Kx16); try simp only [go_sem])
        refine WpA.seq fun Kx17 hKx17 => ?_
        refine WpA.seq fun Kx18 hKx18 => ?_
        refine WpA.reg fun all hall => ?_
        repeat ((first | refine aOps_nil ?_ | refine aOps_a rfl rfl rfl ?_); try simp only [go_sem])
        repeat ((first | refine aOps_nil ?_ | refine aOps_a rfl rfl rfl ?_); try simp only [go_sem])
        (apply hKx18; (try clear hKx18 Kx18); try simp only [go_sem])
        refine WpA.block ?_
        refine WpA.iter (fun (k : Nat) => k ≤ r + 1) (fun (k : Nat) => tpl 100 [(0, .pv (.imm (encE l))), (3, bv true), (4, .bat 0 0), (5, .pv (.imm (encW (allE l)))), (6, iv ((if k ≤ r then M else M * (r + 1)) : Nat)), (7, iv i), (8, .pv (.imm (encZ (writesE l l[i].loc)))), (9, iv k)]) (fun (k : Nat) => [.box 30 (exC l s0)]) (fun (k : Nat) => r + 1 - k) 0 (by omega) (by rw [if_pos (Nat.zero_le _)]; ((try simp only [tpl, List.foldl_cons, List.foldl_nil, List.replicate, List.set_cons_zero, List.set_cons_succ]); repeat (first | exact trivial | refine ⟨.inr rfl, ?_⟩ | refine ⟨.inl rfl, ?_⟩))) rfl ?_
        rintro k hp2
        simp only [tpl, List.foldl_cons, List.foldl_nil, List.replicate, List.set_cons_zero, List.set_cons_succ]
        refine WpA.seq fun Kx19 hKx19 => ?_
        refine WpA.seq fun Kx20 hKx20 => ?_
        refine WpA.reg fun all hall => ?_
        repeat ((first | refine aOps_nil ?_ | refine aOps_a rfl rfl rfl ?_); try simp only [go_sem])
        refine aOps_split (d := 43) rfl (fun hg13_4 => ?_) (fun hg13_4 => ?_) <;> (try simp only [decide_eq_true_eq, decide_eq_false_iff_not] at hg13_4) <;> try simp only [go_sem]
        · skip
          have hkw : k < (writesE l l[i].loc).length := by omega
          obtain ⟨ha1, ha2, ha3⟩ := hat hkw
          (refine aOps_ya rfl rfl rfl (by rw [hall]; rfl) rfl ?_; try simp only [go_sem])
          (refine aOps_ya rfl rfl rfl (by rw [hall]; rfl) rfl ?_; try simp only [go_sem])
          refine aOps_y rfl rfl (by rw [hall]; rfl) rfl (QK.at rfl Try.underlying39 ti3 rfl (by first | exact .inl rfl | exact .inr (.inl rfl) | exact .inr (.inr rfl)) rfl (encZ_get hkw) rfl ?_)
          try simp only [go_sem]
          (refine aOps_ya rfl rfl rfl (by rw [hall]; rfl) rfl ?_; try simp only [go_sem])
          (refine aOps_ya rfl rfl rfl (by rw [hall]; rfl) rfl ?_; try simp only [go_sem])
          (refine aOps_ya rfl rfl rfl (by rw [hall]; rfl) rfl ?_; try simp only [go_sem])
          repeat ((first | refine aOps_nil ?_ | refine aOps_a rfl rfl rfl ?_); try simp only [go_sem])
          repeat ((first | refine aOps_nil ?_ | refine aOps_a rfl rfl rfl ?_); try simp only [go_sem])
          (apply hKx20; (try clear hKx20 Kx20); try simp only [go_sem])
          (refine WpA.cond rfl (fun hb50 => ?_) (fun hb50 => ?_) <;> try simp only [decide_eq_true_eq, decide_eq_false_iff_not, Bool.not_eq_true', Bool.not_eq_false'] at hb50)
          · skip
            have hkr : k ≤ r := by
              rcases Nat.lt_or_ge r k with h | h
              · have := ha3 h; omega
              · exact h
            rw [if_pos hkr]
            (refine WpA.skip ?_; try simp only [go_sem])
            (apply hKx19; (try clear hKx19 Kx19); try simp only [go_sem])
            refine WpA.seq fun Kx21 hKx21 => ?_
            refine WpA.block ?_
            refine WpA.seq fun Kx22 hKx22 => ?_
            refine WpA.reg fun all hall => ?_
            repeat ((first | refine aOps_nil ?_ | refine aOps_a rfl rfl rfl ?_); try simp only [go_sem])
            refine aOps_s rfl rfl (QK.at rfl Try.underlying39 ti3 rfl (by first | exact .inl rfl | exact .inr (.inl rfl) | exact .inr (.inr rfl)) rfl (encZ_get hkw) rfl ?_)
            try simp only [go_sem]
            repeat ((first | refine aOps_nil ?_ | refine aOps_a rfl rfl rfl ?_); try simp only [go_sem])
            repeat ((first | refine aOps_nil ?_ | refine aOps_a rfl rfl rfl ?_); try simp only [go_sem])
            (apply hKx22; (try clear hKx22 Kx22); try simp only [go_sem])
            (refine WpA.cond rfl (fun hb58 => ?_) (fun hb58 => ?_) <;> try simp only [decide_eq_true_eq, decide_eq_false_iff_not, Bool.not_eq_true', Bool.not_eq_false'] at hb58)
            · skip
              have hkr2 : k = r := by
                have h : (writesE l l[i].loc)[k] = i := by simpa using hb58
                rcases Nat.lt_or_ge k r with h1 | h1
                · have := ha1 h1; omega
                · omega
              have hnext : (if k + 1 ≤ r then M else M * (r + 1)) = M * (k + 1) := by rw [if_neg (by omega), hkr2]
              refine WpA.reg fun all hall => ?_
              ((first | refine aOps_nil ?_ | refine aOps_a rfl rfl rfl ?_); try simp only [go_sem])
              ((first | refine aOps_nil ?_ | refine aOps_a rfl rfl rfl ?_); try simp only [go_sem])
              ((first | refine aOps_nil ?_ | refine aOps_a rfl rfl rfl ?_); try simp only [go_sem])
              rw [wi1 k (by omega)]
              ((first | refine aOps_nil ?_ | refine aOps_a rfl rfl rfl ?_); try simp only [go_sem])
              rw [show (M : Int) * ((k + 1 : Nat) : Int) = ((M * (k + 1) : Nat) : Int) from by simp, wi _ (by rw [hkr2]; omega)]
              repeat ((first | refine aOps_nil ?_ | refine aOps_a rfl rfl rfl ?_); try simp only [go_sem])
              repeat ((first | refine aOps_nil ?_ | refine aOps_a rfl rfl rfl ?_); try simp only [go_sem])
              (apply hKx21; (try clear hKx21 Kx21); try simp only [go_sem])
              refine WpA.reg fun all hall => ?_
              repeat ((first | refine aOps_nil ?_ | refine aOps_a rfl rfl rfl ?_); try simp only [go_sem])
              repeat ((first | refine aOps_nil ?_ | refine aOps_a rfl rfl rfl ?_); try simp only [go_sem])
              rw [wi1 k (by omega)]
              exact ⟨k + 1, ⟨by omega, by omega⟩, (by rw [hnext]; ((try simp only [tpl, List.foldl_cons, List.foldl_nil, List.replicate, List.set_cons_zero, List.set_cons_succ]); repeat (first | exact trivial | refine ⟨.inr rfl, ?_⟩ | refine ⟨.inl rfl, ?_⟩))), rfl⟩
            · skip
              have hkr2 : k < r := by
                have h : ¬ (writesE l l[i].loc)[k] = i := by simpa using hb58
                rcases Nat.lt_or_ge k r with h1 | h1
                · exact h1
                · exact absurd (ha2 (by omega)) h
              have hnext : (if k + 1 ≤ r then M else M * (r + 1)) = M := by rw [if_pos (by omega)]
              (refine WpA.skip ?_; try simp only [go_sem])
              (apply hKx21; (try clear hKx21 Kx21); try simp only [go_sem])
              refine WpA.reg fun all hall => ?_
              repeat ((first | refine aOps_nil ?_ | refine aOps_a rfl rfl rfl ?_); try simp only [go_sem])
              repeat ((first | refine aOps_nil ?_ | refine aOps_a rfl rfl rfl ?_); try simp only [go_sem])
              rw [wi1 k (by omega)]
              exact ⟨k + 1, ⟨by omega, by omega⟩, (by rw [hnext]; ((try simp only [tpl, List.foldl_cons, List.foldl_nil, List.replicate, List.set_cons_zero, List.set_cons_succ]); repeat (first | exact trivial | refine ⟨.inr rfl, ?_⟩ | refine ⟨.inl rfl, ?_⟩))), rfl⟩
          · skip
            try rw [if_neg (show ¬ k ≤ r from fun hle => by rcases Nat.lt_or_eq_of_le hle with h | h; exact hb50 (Int.le_of_lt (ha1 h)); exact hb50 (Int.le_of_eq (ha2 h))), ← hmany]
            (refine WpA.exit ?_; try simp only [go_sem])
            (apply hKx17; (try clear hKx17 Kx17); try simp only [go_sem])
            refine WpA.seq fun Kx23 hKx23 => ?_
            refine WpA.reg fun all hall => ?_
            repeat ((first | refine aOps_nil ?_ | refine aOps_a rfl rfl rfl ?_); try simp only [go_sem])
            repeat ((first | refine aOps_nil ?_ | refine aOps_a rfl rfl rfl ?_); try simp only [go_sem])
            (apply hKx23; (try clear hKx23 Kx23); try simp only [go_sem])
            (refine WpA.cond rfl (fun hb65 => ?_) (fun hb65 => ?_) <;> try simp only [decide_eq_true_eq, decide_eq_false_iff_not, Bool.not_eq_true', Bool.not_eq_false'] at hb65)
            · skip
              have hnone := ways_none hw (show 6 < (writesE l l[i].loc).length by omega)
              rw [hnone]
              refine WpA.seq fun Kx24 hKx24 => ?_
              refine WpA.reg fun all hall => ?_
              repeat ((first | refine aOps_nil ?_ | refine aOps_a rfl rfl rfl ?_); try simp only [go_sem])
              refine aOps_split (d := 67) rfl (fun hg18_1 => ?_) (fun hg18_1 => ?_) <;> (try simp only [decide_eq_true_eq, decide_eq_false_iff_not] at hg18_1) <;> try simp only [go_sem]
              · skip
                (refine aOps_ya rfl rfl rfl (by rw [hall]; rfl) rfl ?_; try simp only [go_sem])
                (refine aOps_ya rfl rfl rfl (by rw [hall]; rfl) rfl ?_; try simp only [go_sem])
                (refine aOps_ya rfl rfl rfl (by rw [hall]; rfl) rfl ?_; try simp only [go_sem])
                repeat ((first | refine aOps_nil ?_ | refine aOps_a rfl rfl rfl ?_); try simp only [go_sem])
                repeat ((first | refine aOps_nil ?_ | refine aOps_a rfl rfl rfl ?_); try simp only [go_sem])
                (apply hKx24; (try clear hKx24 Kx24); try simp only [go_sem])
                (refine WpA.ret ?_; try simp only [go_sem])
                exact ret_b rfl rfl
              · skip
                exact absurd hg18_1 (by decide)
            · skip
              have hsix : ((l.getD i default).kind == 2) = true → (writesE l (l.getD i default).loc).length ≤ 6 := fun h => by rw [hge]; omega
              (refine WpA.skip ?_; try simp only [go_sem])
              (apply hKx13; (try clear hKx13 Kx13); try simp only [go_sem])
              refine WpA.reg fun all hall => ?_
              repeat ((first | refine aOps_nil ?_ | refine aOps_a rfl rfl rfl ?_); try simp only [go_sem])
              repeat ((first | refine aOps_nil ?_ | refine aOps_a rfl rfl rfl ?_); try simp only [go_sem])
              rw [wi1 i (by omega)]
              exact ⟨i + 1, ⟨hi, upto_all hp0.2 hsix, by omega⟩, (by rw [hmany]; ((try simp only [tpl, List.foldl_cons, List.foldl_nil, List.replicate, List.set_cons_zero, List.set_cons_succ]); repeat (first | exact trivial | refine ⟨.inr rfl, ?_⟩ | refine ⟨.inl rfl, ?_⟩))), rfl⟩
        · skip
          have hkr : k = r + 1 := by omega
          rw [if_neg (show ¬ k ≤ r by omega), ← hmany]
          (refine aOps_z rfl (by rw [hall]; rfl) rfl ?_; try simp only [go_sem])
          (refine aOps_z rfl (by rw [hall]; rfl) rfl ?_; try simp only [go_sem])
          (refine aOps_z rfl (by rw [hall]; rfl) rfl ?_; try simp only [go_sem])
          (refine aOps_z rfl (by rw [hall]; rfl) rfl ?_; try simp only [go_sem])
          (refine aOps_z rfl (by rw [hall]; rfl) rfl ?_; try simp only [go_sem])
          (refine aOps_z rfl (by rw [hall]; rfl) rfl ?_; try simp only [go_sem])
          repeat ((first | refine aOps_nil ?_ | refine aOps_a rfl rfl rfl ?_); try simp only [go_sem])
          repeat ((first | refine aOps_nil ?_ | refine aOps_a rfl rfl rfl ?_); try simp only [go_sem])
          (apply hKx20; (try clear hKx20 Kx20); try simp only [go_sem])
          (refine WpA.cond rfl (fun hb50 => ?_) (fun hb50 => ?_) <;> try simp only [decide_eq_true_eq, decide_eq_false_iff_not, Bool.not_eq_true', Bool.not_eq_false'] at hb50)
          · skip
            exact absurd hb50 (by decide)
          · skip
            try rw [if_neg (show ¬ k ≤ r from fun hle => by rcases Nat.lt_or_eq_of_le hle with h | h; exact hb50 (Int.le_of_lt (ha1 h)); exact hb50 (Int.le_of_eq (ha2 h))), ← hmany]
            (refine WpA.exit ?_; try simp only [go_sem])
            (apply hKx17; (try clear hKx17 Kx17); try simp only [go_sem])
            refine WpA.seq fun Kx25 hKx25 => ?_
            refine WpA.reg fun all hall => ?_
            repeat ((first | refine aOps_nil ?_ | refine aOps_a rfl rfl rfl ?_); try simp only [go_sem])
            repeat ((first | refine aOps_nil ?_ | refine aOps_a rfl rfl rfl ?_); try simp only [go_sem])
            (apply hKx25; (try clear hKx25 Kx25); try simp only [go_sem])
            (refine WpA.cond rfl (fun hb65 => ?_) (fun hb65 => ?_) <;> try simp only [decide_eq_true_eq, decide_eq_false_iff_not, Bool.not_eq_true', Bool.not_eq_false'] at hb65)
            · skip
              have hnone := ways_none hw (show 6 < (writesE l l[i].loc).length by omega)
              rw [hnone]
              refine WpA.seq fun Kx26 hKx26 => ?_
              refine WpA.reg fun all hall => ?_
              repeat ((first | refine aOps_nil ?_ | refine aOps_a rfl rfl rfl ?_); try simp only [go_sem])
              refine aOps_split (d := 67) rfl (fun hg18_1 => ?_) (fun hg18_1 => ?_) <;> (try simp only [decide_eq_true_eq, decide_eq_false_iff_not] at hg18_1) <;> try simp only [go_sem]
              · skip
                (refine aOps_ya rfl rfl rfl (by rw [hall]; rfl) rfl ?_; try simp only [go_sem])
                (refine aOps_ya rfl rfl rfl (by rw [hall]; rfl) rfl ?_; try simp only [go_sem])
                (refine aOps_ya rfl rfl rfl (by rw [hall]; rfl) rfl ?_; try simp only [go_sem])
                repeat ((first | refine aOps_nil ?_ | refine aOps_a rfl rfl rfl ?_); try simp only [go_sem])
                repeat ((first | refine aOps_nil ?_ | refine aOps_a rfl rfl rfl ?_); try simp only [go_sem])
                (apply hKx26; (try clear hKx26 Kx26); try simp only [go_sem])
                (refine WpA.ret ?_; try simp only [go_sem])
                exact ret_b rfl rfl
              · skip
                exact absurd hg18_1 (by decide)
            · skip
              have hsix : ((l.getD i default).kind == 2) = true → (writesE l (l.getD i default).loc).length ≤ 6 := fun h => by rw [hge]; omega
              (refine WpA.skip ?_; try simp only [go_sem])
              (apply hKx13; (try clear hKx13 Kx13); try simp only [go_sem])
              refine WpA.reg fun all hall => ?_
              repeat ((first | refine aOps_nil ?_ | refine aOps_a rfl rfl rfl ?_); try simp only [go_sem])
              repeat ((first | refine aOps_nil ?_ | refine aOps_a rfl rfl rfl ?_); try simp only [go_sem])
              rw [wi1 i (by omega)]
              exact ⟨i + 1, ⟨hi, upto_all hp0.2 hsix, by omega⟩, (by rw [hmany]; ((try simp only [tpl, List.foldl_cons, List.foldl_nil, List.replicate, List.set_cons_zero, List.set_cons_succ]); repeat (first | exact trivial | refine ⟨.inr rfl, ?_⟩ | refine ⟨.inl rfl, ?_⟩))), rfl⟩
    · skip
      have hi : i = l.length := by omega
      subst hi
      have hcount := ways_many hw (six_all hp0.2)
      have hbound : (allE l).length ≤ 5040 := by rw [hcount]; exact many_le hw (Nat.le_refl _)
      have hfit := fun {co : List (BitVec 32)} => fits_all (co := co) hl hw
      rw [← hcount]
      generalize allE l = ways at hfit hbound ⊢
      (refine WpA.exit ?_; try simp only [go_sem])
      (apply hKx9; (try clear hKx9 Kx9); try simp only [go_sem])
      refine WpA.seq fun Kx27 hKx27 => ?_
      refine WpA.seq fun Kx28 hKx28 => ?_
      refine WpA.reg fun all hall => ?_
      repeat ((first | refine aOps_nil ?_ | refine aOps_a rfl rfl rfl ?_); try simp only [go_sem])
      repeat ((first | refine aOps_nil ?_ | refine aOps_a rfl rfl rfl ?_); try simp only [go_sem])
      (apply hKx28; (try clear hKx28 Kx28); try simp only [go_sem])
      refine WpA.block ?_
      refine WpA.iter (fun (i : Nat) => i ≤ ways.length) (fun (i : Nat) => tpl 100 [(3, bv true), (4, .bat 0 0), (5, .pv (.imm (encW ways))), (6, iv ways.length), (10, iv i)]) (fun (i : Nat) => [.box 30 (exC l s0)]) (fun (i : Nat) => ways.length - i) 0 (by omega) (by ((try simp only [tpl, List.foldl_cons, List.foldl_nil, List.replicate, List.set_cons_zero, List.set_cons_succ]); repeat (first | exact trivial | refine ⟨.inr rfl, ?_⟩ | refine ⟨.inl rfl, ?_⟩))) rfl ?_
      rintro i hp4
      simp only [tpl, List.foldl_cons, List.foldl_nil, List.replicate, List.set_cons_zero, List.set_cons_succ]
      refine WpA.seq fun Kx29 hKx29 => ?_
      refine WpA.seq fun Kx30 hKx30 => ?_
      refine WpA.reg fun all hall => ?_
      repeat ((first | refine aOps_nil ?_ | refine aOps_a rfl rfl rfl ?_); try simp only [go_sem])
      repeat ((first | refine aOps_nil ?_ | refine aOps_a rfl rfl rfl ?_); try simp only [go_sem])
      (apply hKx30; (try clear hKx30 Kx30); try simp only [go_sem])
      (refine WpA.cond rfl (fun hb75 => ?_) (fun hb75 => ?_) <;> try simp only [decide_eq_true_eq, decide_eq_false_iff_not, Bool.not_eq_true', Bool.not_eq_false'] at hb75)
      · skip
        have hi : i < ways.length := by omega
        obtain ⟨hf1, hf2⟩ := hfit (List.getElem_mem hi)
        (refine WpA.skip ?_; try simp only [go_sem])
        (apply hKx29; (try clear hKx29 Kx29); try simp only [go_sem])
        refine WpA.seq fun Kx31 hKx31 => ?_
        refine WpA.block ?_
        refine WpA.seq fun Kx32 hKx32 => ?_
        refine WpA.regD (0 + 1 + 1 + 1 + 1 + 1 + 1 + 1 + 1 + 1 + 1) mixed (by kernel_rfl) fun all hall => ?_
        repeat ((first | refine aOps_nil ?_ | refine aOps_a rfl rfl rfl ?_); try simp only [go_sem])
        refine aOps_s rfl rfl (QK.at rfl Try.underlying32 ti27 rfl (by first | exact .inl rfl | exact .inr (.inl rfl) | exact .inr (.inr rfl)) rfl (encW_get hi) rfl ?_)
        try simp only [go_sem]
        repeat ((first | refine aOps_nil ?_ | refine aOps_a rfl rfl rfl ?_); try simp only [go_sem])
        refine aOps_s rfl rfl (QK.call rfl rfl rfl (fits_calls l s0 ways[i] (by omega)) (by repeat' (first | exact ConvL.nil | refine ConvL.cons ?_ ?_ | first | exact Conv.pv _ | exact Conv.imm_bor _ | exact Conv.bor _ | exact Conv.tight_imm _ | exact Conv.tight_bor _ | exact Conv.nil_imm | exact Conv.nil_bor | exact Conv.tight _ | exact Conv.at _ | exact Conv.row _ _ _ _ _ _ rfl (by first | rfl | (simp only [go_sem]; done) | (simp []; done) | (simp []; omega) | omega) | exact Conv.bat _ _ _ _ _ rfl rfl | exact Conv.aggp _ _ rfl | refine Conv.fnL _ ?_ | exact Conv.any _)) ?_)
        try simp only [go_sem]
        rw [hf1]
        repeat ((first | refine aOps_nil ?_ | refine aOps_a rfl rfl rfl ?_); try simp only [go_sem])
        refine aOps_split (d := 85) rfl (fun hg22_7 => ?_) (fun hg22_7 => ?_) <;> (try simp only [decide_eq_true_eq, decide_eq_false_iff_not] at hg22_7) <;> try simp only [go_sem]
        · skip
          exact absurd hg22_7 (by decide)
        · skip
          (refine aOps_ya rfl rfl rfl (by rw [hall]; rfl) rfl ?_; try simp only [go_sem])
          (refine aOps_ya rfl rfl rfl (by rw [hall]; rfl) rfl ?_; try simp only [go_sem])
          refine aOps_y rfl rfl (by rw [hall]; rfl) rfl (QK.at rfl Try.underlying32 ti27 rfl (by first | exact .inl rfl | exact .inr (.inl rfl) | exact .inr (.inr rfl)) rfl (encW_get hi) rfl ?_)
          try simp only [go_sem]
          (refine aOps_ya rfl rfl rfl (by rw [hall]; rfl) rfl ?_; try simp only [go_sem])
          refine aOps_y rfl rfl (by rw [hall]; rfl) rfl (QK.call rfl rfl rfl (acyclic_calls ways[i]) (by repeat' (first | exact ConvL.nil | refine ConvL.cons ?_ ?_ | first | exact Conv.pv _ | exact Conv.imm_bor _ | exact Conv.bor _ | exact Conv.tight_imm _ | exact Conv.tight_bor _ | exact Conv.nil_imm | exact Conv.nil_bor | exact Conv.tight _ | exact Conv.at _ | exact Conv.row _ _ _ _ _ _ rfl (by first | rfl | (simp only [go_sem]; done) | (simp []; done) | (simp []; omega) | omega) | exact Conv.bat _ _ _ _ _ rfl rfl | exact Conv.aggp _ _ rfl | refine Conv.fnL _ ?_ | exact Conv.any _)) ?_)
          try simp only [go_sem]
          rw [hf2]
          (refine aOps_ya rfl rfl rfl (by rw [hall]; rfl) rfl ?_; try simp only [go_sem])
          repeat ((first | refine aOps_nil ?_ | refine aOps_a rfl rfl rfl ?_); try simp only [go_sem])
          repeat ((first | refine aOps_nil ?_ | refine aOps_a rfl rfl rfl ?_); try simp only [go_sem])
          (apply hKx32; (try clear hKx32 Kx32); try simp only [go_sem])
          (refine WpA.cond rfl (fun hb92 => ?_) (fun hb92 => ?_) <;> try simp only [decide_eq_true_eq, decide_eq_false_iff_not, Bool.not_eq_true', Bool.not_eq_false'] at hb92)
          · skip
            exact absurd hb92 (by decide)
          · skip
            (refine WpA.skip ?_; try simp only [go_sem])
            (apply hKx31; (try clear hKx31 Kx31); try simp only [go_sem])
            refine WpA.reg fun all hall => ?_
            repeat ((first | refine aOps_nil ?_ | refine aOps_a rfl rfl rfl ?_); try simp only [go_sem])
            repeat ((first | refine aOps_nil ?_ | refine aOps_a rfl rfl rfl ?_); try simp only [go_sem])
            rw [wi1 i (by omega)]
            exact ⟨i + 1, ⟨hi, by omega⟩, (by ((try simp only [tpl, List.foldl_cons, List.foldl_nil, List.replicate, List.set_cons_zero, List.set_cons_succ]); repeat (first | exact trivial | refine ⟨.inr rfl, ?_⟩ | refine ⟨.inl rfl, ?_⟩))), rfl⟩
      · skip
        (refine WpA.exit ?_; try simp only [go_sem])
        (apply hKx27; (try clear hKx27 Kx27); try simp only [go_sem])
        refine WpA.seq fun Kx33 hKx33 => ?_
        refine WpA.reg fun all hall => ?_
        repeat ((first | refine aOps_nil ?_ | refine aOps_a rfl rfl rfl ?_); try simp only [go_sem])
        refine aOps_split (d := 94) rfl (fun hg24_1 => ?_) (fun hg24_1 => ?_) <;> (try simp only [decide_eq_true_eq, decide_eq_false_iff_not] at hg24_1) <;> try simp only [go_sem]
        · skip
          (refine aOps_ya rfl rfl rfl (by rw [hall]; rfl) rfl ?_; try simp only [go_sem])
          (refine aOps_ya rfl rfl rfl (by rw [hall]; rfl) rfl ?_; try simp only [go_sem])
          (refine aOps_ya rfl rfl rfl (by rw [hall]; rfl) rfl ?_; try simp only [go_sem])
          (refine aOps_ya rfl rfl rfl (by rw [hall]; rfl) rfl ?_; try simp only [go_sem])
          repeat ((first | refine aOps_nil ?_ | refine aOps_a rfl rfl rfl ?_); try simp only [go_sem])
          repeat ((first | refine aOps_nil ?_ | refine aOps_a rfl rfl rfl ?_); try simp only [go_sem])
          (apply hKx33; (try clear hKx33 Kx33); try simp only [go_sem])
          (refine WpA.ret ?_; try simp only [go_sem])
          exact ret_b rfl (by simp)
        · skip
          exact absurd hg24_1 (by decide)
end Go.Proofs.Ytfpbdphdahfgbaa
