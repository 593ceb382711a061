/- CoherLast, walked. -/
import Derived.Test.YtfpbdphdahfgbaaL0
import Derived.Test.YtfpbdphdahfgbaaQ5
namespace Go.Proofs.Ytfpbdphdahfgbaa
open Go Go.RowKit Go.Proofs.Ytfpbdphdahfgbaa.Fw

theorem few_iff' {l : List Ev} : fewE l = true ↔ l.length ≤ 24 ∧ (locsTo l l.length).length ≤ 7 := by simp [fewE]

/-- The last write of a place, of a way that fits. -/
theorem last_facts {l : List Ev} (hl : l.length ≤ 24) (hw : (locsTo l l.length).length ≤ 7) {co : List (BitVec 32)} (h : co ∈ allE l) (p : Int) :
    (writesE l p = [] ∧ lastOf co (writesE l p) = -1) ∨ (writesE l p ≠ [] ∧ ∃ j : Nat, j < l.length ∧ lastOf co (writesE l p) = j ∧ ∀ y ∈ writesE l p, y ≠ j → hasR co y j = true) := by
  by_cases hn : writesE l p = []
  · exact .inl ⟨hn, by rw [hn]; rfl⟩
  · refine .inr ⟨hn, ?_⟩
    obtain ⟨f, h1, h2⟩ := ways_of (by omega) hw h
    have hp : p ∈ placesE l := by
      by_cases hp : p ∈ placesE l
      · exact hp
      · exact absurd ((writes_nil l p).2 hp) hn
    have hperm := allO_perm (choice_at h1 hp)
    have hfn : f p ≠ [] := fun e => hn (by rw [e] at hperm; simpa using hperm)
    have hq : f p = (f p).dropLast ++ [(f p).getLast hfn] := (List.dropLast_concat_getLast hfn).symm
    have hlast := way_last h1 h2 hp hq
    have hx : (f p).getLast hfn ∈ writesE l p := hperm.mem_iff.1 (List.getLast_mem hfn)
    obtain ⟨j, hj, e, _⟩ := (mem_writes l p _).1 hx
    rw [e] at hlast hx hq
    refine ⟨j, hj, hlast, fun y hy hne => ?_⟩
    exact (way_hasR h1 h2 hy hx).2 ((bef_last (choice_nodup h1 hp) hq).1 y (hperm.mem_iff.2 hy) hne)
theorem memL_get (l : List Ev) (co : List (BitVec 32)) (init : List Int) {k : Nat} (hk : k < init.length) : ∃ h : k < (memL l co init).length, (memL l co init)[k] = memAt l co init k := ⟨by simp [memL, hk], by simp [memL]⟩

attribute [go_sem] Try.underlying58
set_option maxHeartbeats 4000000 in
theorem clast_calls (l : List Ev) (n : Nat) (hn : n < 65536) (init : List Int) (hll : l.length < 9223372036854775808) : PCalls Try.prog 6 [.pv (.imm (encE l)), .pv (.val (.int .u16 n)), .pv (.imm (encZ init))] (.val (bv true)) := by
  refine PCalls.of_body Try.func6 rfl rfl Try.ntmps6 Try.results6 ?_
  simp only [go_sem, List.replicate]
  refine WpA.seq fun Kx1 hKx1 => ?_
  refine WpA.reg fun all hall => ?_
  repeat ((first | refine aOps_nil ?_ | refine aOps_a rfl rfl rfl ?_); try simp only [go_sem])
  repeat ((first | refine aOps_nil ?_ | refine aOps_a rfl rfl rfl ?_); try simp only [go_sem])
  (apply hKx1; (try clear hKx1 Kx1); try simp only [go_sem])
  refine WpA.seq fun Kx2 hKx2 => ?_
  refine WpA.reg fun all hall => ?_
  refine aOps_s rfl rfl (QK.call rfl rfl rfl shown12_calls (by repeat' (first | exact ConvL.nil | refine ConvL.cons ?_ ?_ | first | exact Conv.pv _ | exact Conv.imm_bor _ | exact Conv.bor _ | exact Conv.tight_imm _ | exact Conv.tight_bor _ | exact Conv.nil_imm | exact Conv.nil_bor | exact Conv.tight _ | exact Conv.at _ | exact Conv.row _ _ _ _ _ _ rfl (by first | rfl | (simp only [go_sem]; done) | (simp []; done) | (simp []; omega) | omega) | exact Conv.bat _ _ _ _ _ rfl rfl | exact Conv.aggp _ _ rfl | refine Conv.fnL _ ?_ | exact Conv.any _)) ?_)
  try simp only [go_sem]
  repeat ((first | refine aOps_nil ?_ | refine aOps_a rfl rfl rfl ?_); try simp only [go_sem])
  repeat ((first | refine aOps_nil ?_ | refine aOps_a rfl rfl rfl ?_); try simp only [go_sem])
  (apply hKx2; (try clear hKx2 Kx2); try simp only [go_sem])
  refine WpA.seq fun Kx3 hKx3 => ?_
  refine WpA.seq fun Kx4 hKx4 => ?_
  refine WpA.reg fun all hall => ?_
  repeat ((first | refine aOps_nil ?_ | refine aOps_a rfl rfl rfl ?_); try simp only [go_sem])
  refine aOps_s rfl rfl (QK.call rfl rfl rfl (few_calls l hll) (by repeat' (first | exact ConvL.nil | refine ConvL.cons ?_ ?_ | first | exact Conv.pv _ | exact Conv.imm_bor _ | exact Conv.bor _ | exact Conv.tight_imm _ | exact Conv.tight_bor _ | exact Conv.nil_imm | exact Conv.nil_bor | exact Conv.tight _ | exact Conv.at _ | exact Conv.row _ _ _ _ _ _ rfl (by first | rfl | (simp only [go_sem]; done) | (simp []; done) | (simp []; omega) | omega) | exact Conv.bat _ _ _ _ _ rfl rfl | exact Conv.aggp _ _ rfl | refine Conv.fnL _ ?_ | exact Conv.any _)) ?_)
  try simp only [go_sem]
  repeat ((first | refine aOps_nil ?_ | refine aOps_a rfl rfl rfl ?_); try simp only [go_sem])
  refine aOps_split (d := 20) rfl (fun hg2_3 => ?_) (fun hg2_3 => ?_) <;> (try simp only [decide_eq_true_eq, decide_eq_false_iff_not] at hg2_3) <;> try simp only [go_sem]
  · skip
    (refine aOps_z rfl (by rw [hall]; rfl) rfl ?_; try simp only [go_sem])
    (refine aOps_z rfl (by rw [hall]; rfl) rfl ?_; try simp only [go_sem])
    (refine aOps_z rfl (by rw [hall]; rfl) rfl ?_; try simp only [go_sem])
    repeat ((first | refine aOps_nil ?_ | refine aOps_a rfl rfl rfl ?_); try simp only [go_sem])
    repeat ((first | refine aOps_nil ?_ | refine aOps_a rfl rfl rfl ?_); try simp only [go_sem])
    (apply hKx4; (try clear hKx4 Kx4); try simp only [go_sem])
    (refine WpA.cond rfl (fun hb24 => ?_) (fun hb24 => ?_) <;> try simp only [decide_eq_true_eq, decide_eq_false_iff_not, Bool.not_eq_true', Bool.not_eq_false'] at hb24)
    · skip
      refine WpA.seq fun Kx5 hKx5 => ?_
      refine WpA.reg fun all hall => ?_
      repeat ((first | refine aOps_nil ?_ | refine aOps_a rfl rfl rfl ?_); try simp only [go_sem])
      repeat ((first | refine aOps_nil ?_ | refine aOps_a rfl rfl rfl ?_); try simp only [go_sem])
      (apply hKx5; (try clear hKx5 Kx5); try simp only [go_sem])
      (refine WpA.ret ?_; try simp only [go_sem])
      exact ret_b rfl rfl
    · skip
      exact absurd hb24 (by decide)
  · skip
    (refine aOps_ya rfl rfl rfl (by rw [hall]; rfl) rfl ?_; try simp only [go_sem])
    (refine aOps_ya rfl rfl rfl (by rw [hall]; rfl) rfl ?_; try simp only [go_sem])
    (refine aOps_ya rfl rfl rfl (by rw [hall]; rfl) rfl ?_; try simp only [go_sem])
    repeat ((first | refine aOps_nil ?_ | refine aOps_a rfl rfl rfl ?_); try simp only [go_sem])
    repeat ((first | refine aOps_nil ?_ | refine aOps_a rfl rfl rfl ?_); try simp only [go_sem])
    (apply hKx4; (try clear hKx4 Kx4); try simp only [go_sem])
    (refine WpA.cond rfl (fun hb24 => ?_) (fun hb24 => ?_) <;> try simp only [decide_eq_true_eq, decide_eq_false_iff_not, Bool.not_eq_true', Bool.not_eq_false'] at hb24)
    · skip
      refine WpA.seq fun Kx6 hKx6 => ?_
      refine WpA.reg fun all hall => ?_
      repeat ((first | refine aOps_nil ?_ | refine aOps_a rfl rfl rfl ?_); try simp only [go_sem])
      repeat ((first | refine aOps_nil ?_ | refine aOps_a rfl rfl rfl ?_); try simp only [go_sem])
      (apply hKx6; (try clear hKx6 Kx6); try simp only [go_sem])
      (refine WpA.ret ?_; try simp only [go_sem])
      exact ret_b rfl rfl
    · skip
      have hfew : fewE l = true := by simpa using hg2_3
      have hin : init.length ≤ 20 := by omega
      obtain ⟨hl, hw⟩ := few_iff'.1 hfew
      have hfacts := fun {co : List (BitVec 32)} (h : co ∈ allE l) => last_facts hl hw h
      have hcall := call_calls l s0 (by omega)
      (refine WpA.skip ?_; try simp only [go_sem])
      (apply hKx3; (try clear hKx3 Kx3); try simp only [go_sem])
      refine WpA.seq fun Kx7 hKx7 => ?_
      refine WpA.reg fun all hall => ?_
      repeat ((first | refine aOps_nil ?_ | refine aOps_a rfl rfl rfl ?_); try simp only [go_sem])
      refine aOps_s rfl rfl (QK.call rfl rfl rfl (made12_calls l) (by repeat' (first | exact ConvL.nil | refine ConvL.cons ?_ ?_ | first | exact Conv.pv _ | exact Conv.imm_bor _ | exact Conv.bor _ | exact Conv.tight_imm _ | exact Conv.tight_bor _ | exact Conv.nil_imm | exact Conv.nil_bor | exact Conv.tight _ | exact Conv.at _ | exact Conv.row _ _ _ _ _ _ rfl (by first | rfl | (simp only [go_sem]; done) | (simp []; done) | (simp []; omega) | omega) | exact Conv.bat _ _ _ _ _ rfl rfl | exact Conv.aggp _ _ rfl | refine Conv.fnL _ ?_ | exact Conv.any _)) ?_)
      try simp only [go_sem]
      refine aOps_s rfl rfl (QK.alloc rfl ti30 (by kernel_rfl) rfl ?_)
      try simp only [go_sem]
      refine aOps_n rfl (aOp.set rfl rfl rfl rfl ?_ ti30 ?_)
      · exact ⟨rfl, (by first | rfl | (simp only [go_sem]; done) | (simp []; done) | (simp []; omega) | omega)⟩
      try simp only [go_sem]
      repeat ((first | refine aOps_nil ?_ | refine aOps_a rfl rfl rfl ?_); try simp only [go_sem])
      (apply hKx7; (try clear hKx7 Kx7); try simp only [go_sem])
      refine WpA.seq fun Kx8 hKx8 => ?_
      refine WpA.reg fun all hall => ?_
      repeat ((first | refine aOps_nil ?_ | refine aOps_a rfl rfl rfl ?_); try simp only [go_sem])
      refine aOps_s rfl rfl (QK.call rfl rfl rfl hcall (by repeat' (first | exact ConvL.nil | refine ConvL.cons ?_ ?_ | first | exact Conv.pv _ | exact Conv.imm_bor _ | exact Conv.bor _ | exact Conv.tight_imm _ | exact Conv.tight_bor _ | exact Conv.nil_imm | exact Conv.nil_bor | exact Conv.tight _ | exact Conv.at _ | exact Conv.row _ _ _ _ _ _ rfl (by first | rfl | (simp only [go_sem]; done) | (simp []; done) | (simp []; omega) | omega) | exact Conv.bat _ _ _ _ _ rfl rfl | exact Conv.aggp _ _ rfl | refine Conv.fnL _ ?_ | exact Conv.any _)) ?_)
      try simp only [go_sem]
      repeat ((first | refine aOps_nil ?_ | refine aOps_a rfl rfl rfl ?_); try simp only [go_sem])
      repeat ((first | refine aOps_nil ?_ | refine aOps_a rfl rfl rfl ?_); try simp only [go_sem])
      generalize allE l = ways at hfacts ⊢
      (apply hKx8; (try clear hKx8 Kx8); try simp only [go_sem])
      refine WpA.seq fun Kx9 hKx9 => ?_
      refine WpA.seq fun Kx10 hKx10 => ?_
      refine WpA.reg fun all hall => ?_
      repeat ((first | refine aOps_nil ?_ | refine aOps_a rfl rfl rfl ?_); try simp only [go_sem])
      repeat ((first | refine aOps_nil ?_ | refine aOps_a rfl rfl rfl ?_); try simp only [go_sem])
      (apply hKx10; (try clear hKx10 Kx10); try simp only [go_sem])
      (refine WpA.cond rfl (fun hb32 => ?_) (fun hb32 => ?_) <;> try simp only [decide_eq_true_eq, decide_eq_false_iff_not, Bool.not_eq_true', Bool.not_eq_false'] at hb32)
      · skip
        refine WpA.seq fun Kx11 hKx11 => ?_
        refine WpA.reg fun all hall => ?_
        repeat ((first | refine aOps_nil ?_ | refine aOps_a rfl rfl rfl ?_); try simp only [go_sem])
        repeat ((first | refine aOps_nil ?_ | refine aOps_a rfl rfl rfl ?_); try simp only [go_sem])
        (apply hKx11; (try clear hKx11 Kx11); try simp only [go_sem])
        (refine WpA.ret ?_; try simp only [go_sem])
        exact ret_b rfl rfl
      · skip
        have hw0 : 0 < ways.length := by have h := hb32; simp at h; exact List.length_pos_iff.2 h
        (refine WpA.skip ?_; try simp only [go_sem])
        (apply hKx9; (try clear hKx9 Kx9); try simp only [go_sem])
        refine WpA.seq fun Kx12 hKx12 => ?_
        refine WpA.reg fun all hall => ?_
        ((first | refine aOps_nil ?_ | refine aOps_a rfl rfl rfl ?_); try simp only [go_sem])
        ((first | refine aOps_nil ?_ | refine aOps_a rfl rfl rfl ?_); try simp only [go_sem])
        ((first | refine aOps_nil ?_ | refine aOps_a rfl rfl rfl ?_); try simp only [go_sem])
        rw [wi n (by omega)]
        ((first | refine aOps_nil ?_ | refine aOps_a rfl rfl rfl ?_); try simp only [go_sem])
        ((first | refine aOps_nil ?_ | refine aOps_a rfl rfl rfl ?_); try simp only [go_sem])
        ((first | refine aOps_nil ?_ | refine aOps_a rfl rfl rfl ?_); try simp only [go_sem])
        refine ⟨by omega, ?_⟩
        rw [show Int.tmod (n : Int) (ways.length : Int) = ((n % ways.length : Nat) : Int) from by rw [Int.tmod_eq_emod_of_nonneg (by omega)]; simp]
        have hx : n % ways.length < ways.length := Nat.mod_lt _ hw0
        generalize n % ways.length = x at hx ⊢
        refine aOps_s rfl rfl (QK.at rfl Try.underlying32 ti27 rfl (by first | exact .inl rfl | exact .inr (.inl rfl) | exact .inr (.inr rfl)) rfl (encW_get hx) rfl ?_)
        try simp only [go_sem]
        repeat ((first | refine aOps_nil ?_ | refine aOps_a rfl rfl rfl ?_); try simp only [go_sem])
        repeat ((first | refine aOps_nil ?_ | refine aOps_a rfl rfl rfl ?_); try simp only [go_sem])
        have hfacts := hfacts (List.getElem_mem hx)
        generalize ways[x] = co at hfacts ⊢
        (apply hKx12; (try clear hKx12 Kx12); try simp only [go_sem])
        refine WpA.seq fun Kx13 hKx13 => ?_
        refine WpA.reg fun all hall => ?_
        repeat ((first | refine aOps_nil ?_ | refine aOps_a rfl rfl rfl ?_); try simp only [go_sem])
        refine aOps_s rfl rfl (QK.call rfl rfl rfl (mem_calls l s0 co init (by omega) (by omega)) (by repeat' (first | exact ConvL.nil | refine ConvL.cons ?_ ?_ | first | exact Conv.pv _ | exact Conv.imm_bor _ | exact Conv.bor _ | exact Conv.tight_imm _ | exact Conv.tight_bor _ | exact Conv.nil_imm | exact Conv.nil_bor | exact Conv.tight _ | exact Conv.at _ | exact Conv.row _ _ _ _ _ _ rfl (by first | rfl | (simp only [go_sem]; done) | (simp []; done) | (simp []; omega) | omega) | exact Conv.bat _ _ _ _ _ rfl rfl | exact Conv.aggp _ _ rfl | refine Conv.fnL _ ?_ | exact Conv.any _)) ?_)
        try simp only [go_sem]
        repeat ((first | refine aOps_nil ?_ | refine aOps_a rfl rfl rfl ?_); try simp only [go_sem])
        repeat ((first | refine aOps_nil ?_ | refine aOps_a rfl rfl rfl ?_); try simp only [go_sem])
        (apply hKx13; (try clear hKx13 Kx13); try simp only [go_sem])
        refine WpA.seq fun Kx14 hKx14 => ?_
        refine WpA.seq fun Kx15 hKx15 => ?_
        refine WpA.reg fun all hall => ?_
        repeat ((first | refine aOps_nil ?_ | refine aOps_a rfl rfl rfl ?_); try simp only [go_sem])
        repeat ((first | refine aOps_nil ?_ | refine aOps_a rfl rfl rfl ?_); try simp only [go_sem])
        (apply hKx15; (try clear hKx15 Kx15); try simp only [go_sem])
        (refine WpA.cond rfl (fun hb50 => ?_) (fun hb50 => ?_) <;> try simp only [decide_eq_true_eq, decide_eq_false_iff_not, Bool.not_eq_true', Bool.not_eq_false'] at hb50)
        · skip
          exact absurd hb50 (by simp [encZ_len, memL])
        · skip
          have hml : (memL l co init).length = init.length := by simp [memL]
          (refine WpA.skip ?_; try simp only [go_sem])
          (apply hKx14; (try clear hKx14 Kx14); try simp only [go_sem])
          refine WpA.seq fun Kx16 hKx16 => ?_
          refine WpA.seq fun Kx17 hKx17 => ?_
          refine WpA.reg fun all hall => ?_
          repeat ((first | refine aOps_nil ?_ | refine aOps_a rfl rfl rfl ?_); try simp only [go_sem])
          repeat ((first | refine aOps_nil ?_ | refine aOps_a rfl rfl rfl ?_); try simp only [go_sem])
          (apply hKx17; (try clear hKx17 Kx17); try simp only [go_sem])
          refine WpA.block ?_
          refine WpA.iter (fun (k : Nat) => k ≤ init.length) (fun (k : Nat) => tpl 124 [(0, .pv (.imm (encE l))), (2, .pv (.imm (encZ init))), (7, bv true), (8, .bat 0 0), (10, .pv (.imm (encU co))), (11, .pv (.imm (encZ (memL l co init)))), (12, iv k)]) (fun (k : Nat) => [.box 30 (exC l s0)]) (fun (k : Nat) => init.length - k) 0 (by omega) (by ((try simp only [tpl, List.foldl_cons, List.foldl_nil, List.replicate, List.set_cons_zero, List.set_cons_succ]); repeat (first | exact trivial | refine ⟨.inr rfl, ?_⟩ | refine ⟨.inl rfl, ?_⟩))) rfl ?_
          rintro k hp0
          simp only [tpl, List.foldl_cons, List.foldl_nil, List.replicate, List.set_cons_zero, List.set_cons_succ]
          refine WpA.seq fun Kx18 hKx18 => ?_
          refine WpA.seq fun Kx19 hKx19 => ?_
          refine WpA.reg fun all hall => ?_
          repeat ((first | refine aOps_nil ?_ | refine aOps_a rfl rfl rfl ?_); try simp only [go_sem])
          repeat ((first | refine aOps_nil ?_ | refine aOps_a rfl rfl rfl ?_); try simp only [go_sem])
          (apply hKx19; (try clear hKx19 Kx19); try simp only [go_sem])
          (refine WpA.cond rfl (fun hb54 => ?_) (fun hb54 => ?_) <;> try simp only [decide_eq_true_eq, decide_eq_false_iff_not, Bool.not_eq_true', Bool.not_eq_false'] at hb54)
          · skip
            have hk : k < init.length := by omega
            obtain ⟨hkm, hmk⟩ := memL_get l co init hk
            have hA : ((lastOf co (writesE l k) == -1) != (((writesE l k).length : Int) == 0)) = false := by
              rcases hfacts k with ⟨h1, h2⟩ | ⟨h1, j, h2, h3, _⟩
              · rw [h2, h1]; rfl
              · rw [h3, show ((j : Int) == -1) = false from by simp, show (((writesE l k).length : Int) == 0) = false from by simp [h1]]; rfl
            have hB : lastOf co (writesE l k) = -1 → (memL l co init)[k] = init[k] := fun h => by
              rw [hmk, memAt, show lastE l co k = -1 from h]; simp [hk]
            have hC : (lastOf co (writesE l k) != -1) = true → ∃ j : Nat, lastOf co (writesE l k) = j ∧ ∃ hj : j < l.length, (memL l co init)[k] = l[j].val := fun h => by
              rcases hfacts k with ⟨h1, h2⟩ | ⟨h1, j, h2, h3, _⟩
              · rw [h2] at h; cases h
              · exact ⟨j, h3, h2, by rw [hmk, memAt, show lastE l co k = j from h3, if_neg (by omega)]; simp [h2]⟩
            have hD : ∀ y ∈ writesE l k, (y != lastOf co (writesE l k)) = true → hasR co y (lastOf co (writesE l k)) = true := fun y hy h => by
              rcases hfacts k with ⟨h1, h2⟩ | ⟨h1, j, h2, h3, h4⟩
              · rw [h1] at hy; simp at hy
              · rw [h3] at h ⊢; exact h4 y hy (by simpa using h)
            (refine WpA.skip ?_; try simp only [go_sem])
            (apply hKx18; (try clear hKx18 Kx18); try simp only [go_sem])
            refine WpA.seq fun Kx20 hKx20 => ?_
            refine WpA.block ?_
            refine WpA.seq fun Kx21 hKx21 => ?_
            refine WpA.reg fun all hall => ?_
            repeat ((first | refine aOps_nil ?_ | refine aOps_a rfl rfl rfl ?_); try simp only [go_sem])
            refine aOps_s rfl rfl (QK.call rfl rfl rfl (last_calls l s0 co k (by omega)) (by repeat' (first | exact ConvL.nil | refine ConvL.cons ?_ ?_ | first | exact Conv.pv _ | exact Conv.imm_bor _ | exact Conv.bor _ | exact Conv.tight_imm _ | exact Conv.tight_bor _ | exact Conv.nil_imm | exact Conv.nil_bor | exact Conv.tight _ | exact Conv.at _ | exact Conv.row _ _ _ _ _ _ rfl (by first | rfl | (simp only [go_sem]; done) | (simp []; done) | (simp []; omega) | omega) | exact Conv.bat _ _ _ _ _ rfl rfl | exact Conv.aggp _ _ rfl | refine Conv.fnL _ ?_ | exact Conv.any _)) ?_)
            try simp only [go_sem]
            repeat ((first | refine aOps_nil ?_ | refine aOps_a rfl rfl rfl ?_); try simp only [go_sem])
            repeat ((first | refine aOps_nil ?_ | refine aOps_a rfl rfl rfl ?_); try simp only [go_sem])
            (apply hKx21; (try clear hKx21 Kx21); try simp only [go_sem])
            refine WpA.seq fun Kx22 hKx22 => ?_
            refine WpA.reg fun all hall => ?_
            repeat ((first | refine aOps_nil ?_ | refine aOps_a rfl rfl rfl ?_); try simp only [go_sem])
            refine aOps_s rfl rfl (QK.call rfl rfl rfl (writes_calls l s0 k (by omega)) (by repeat' (first | exact ConvL.nil | refine ConvL.cons ?_ ?_ | first | exact Conv.pv _ | exact Conv.imm_bor _ | exact Conv.bor _ | exact Conv.tight_imm _ | exact Conv.tight_bor _ | exact Conv.nil_imm | exact Conv.nil_bor | exact Conv.tight _ | exact Conv.at _ | exact Conv.row _ _ _ _ _ _ rfl (by first | rfl | (simp only [go_sem]; done) | (simp []; done) | (simp []; omega) | omega) | exact Conv.bat _ _ _ _ _ rfl rfl | exact Conv.aggp _ _ rfl | refine Conv.fnL _ ?_ | exact Conv.any _)) ?_)
            try simp only [go_sem]
            repeat ((first | refine aOps_nil ?_ | refine aOps_a rfl rfl rfl ?_); try simp only [go_sem])
            repeat ((first | refine aOps_nil ?_ | refine aOps_a rfl rfl rfl ?_); try simp only [go_sem])
            (apply hKx22; (try clear hKx22 Kx22); try simp only [go_sem])
            refine WpA.seq fun Kx23 hKx23 => ?_
            refine WpA.mid (fun (u : Unit) => True) (fun (u : Unit) => tpl 124 [(0, .pv (.imm (encE l))), (2, .pv (.imm (encZ init))), (7, bv true), (8, .bat 0 0), (10, .pv (.imm (encU co))), (11, .pv (.imm (encZ (memL l co init)))), (12, iv k), (13, iv (lastOf co (writesE l k))), (14, .pv (.imm (encZ (writesE l k)))), (100, bv false)]) (fun (u : Unit) => [.box 30 (exC l s0)]) ?_ ?_
            · skip
              refine WpA.regD (0 + 1 + 1 + 1 + 1 + 1 + 1 + 1 + 1 + 1 + 1 + 1 + 1 + 1 + 1 + 1 + 1 + 1 + 1 + 1 + 1 + 1 + 1 + 1 + 1 + 1 + 1 + 1 + 1 + 1 + 1 + 1 + 1 + 1 + 1) mixed (by kernel_rfl) fun all hall => ?_
              ((first | refine aOps_nil ?_ | refine aOps_a rfl rfl rfl ?_); try simp only [go_sem])
              ((first | refine aOps_nil ?_ | refine aOps_a rfl rfl rfl ?_); try simp only [go_sem])
              ((first | refine aOps_nil ?_ | refine aOps_a rfl rfl rfl ?_); try simp only [go_sem])
              ((first | refine aOps_nil ?_ | refine aOps_a rfl rfl rfl ?_); try simp only [go_sem])
              ((first | refine aOps_nil ?_ | refine aOps_a rfl rfl rfl ?_); try simp only [go_sem])
              ((first | refine aOps_nil ?_ | refine aOps_a rfl rfl rfl ?_); try simp only [go_sem])
              rw [hA]
              repeat ((first | refine aOps_nil ?_ | refine aOps_a rfl rfl rfl ?_); try simp only [go_sem])
              refine aOps_split (d := 70) rfl (fun hg17_6 => ?_) (fun hg17_6 => ?_) <;> (try simp only [decide_eq_true_eq, decide_eq_false_iff_not] at hg17_6) <;> try simp only [go_sem]
              · skip
                exact absurd hg17_6 (by decide)
              · skip
                (refine aOps_ya rfl rfl rfl (by rw [hall]; rfl) rfl ?_; try simp only [go_sem])
                (refine aOps_ya rfl rfl rfl (by rw [hall]; rfl) rfl ?_; try simp only [go_sem])
                (refine aOps_ya rfl rfl rfl (by rw [hall]; rfl) rfl ?_; try simp only [go_sem])
                refine aOps_split (d := 73) rfl (fun hg17_9 => ?_) (fun hg17_9 => ?_) <;> (try simp only [decide_eq_true_eq, decide_eq_false_iff_not] at hg17_9) <;> try simp only [go_sem]
                · skip
                  have hmk0 := hB (by simpa using hg17_9)
                  (refine aOps_ya rfl rfl rfl (by rw [hall]; rfl) rfl ?_; try simp only [go_sem])
                  (refine aOps_ya rfl rfl rfl (by rw [hall]; rfl) rfl ?_; try simp only [go_sem])
                  refine aOps_y rfl rfl (by rw [hall]; rfl) rfl (QK.at rfl Try.underlying43 ti2 rfl (by first | exact .inl rfl | exact .inr (.inl rfl) | exact .inr (.inr rfl)) rfl (encZ_get hkm) rfl ?_)
                  try simp only [go_sem]
                  (refine aOps_ya rfl rfl rfl (by rw [hall]; rfl) rfl ?_; try simp only [go_sem])
                  (refine aOps_ya rfl rfl rfl (by rw [hall]; rfl) rfl ?_; try simp only [go_sem])
                  (refine aOps_ya rfl rfl rfl (by rw [hall]; rfl) rfl ?_; try simp only [go_sem])
                  refine aOps_y rfl rfl (by rw [hall]; rfl) rfl (QK.at rfl Try.underlying43 ti2 rfl (by first | exact .inl rfl | exact .inr (.inl rfl) | exact .inr (.inr rfl)) rfl (encZ_get hk) rfl ?_)
                  try simp only [go_sem]
                  (refine aOps_ya rfl rfl rfl (by rw [hall]; rfl) rfl ?_; try simp only [go_sem])
                  (refine aOps_ya rfl rfl rfl (by rw [hall]; rfl) rfl ?_; try simp only [go_sem])
                  rw [show ((memL l co init)[k] != init[k]) = false from by rw [hmk0]; simp]
                  (refine aOps_ya rfl rfl rfl (by rw [hall]; rfl) rfl ?_; try simp only [go_sem])
                  repeat ((first | refine aOps_nil ?_ | refine aOps_a rfl rfl rfl ?_); try simp only [go_sem])
                  refine aOps_split (d := 85) rfl (fun hg17_21 => ?_) (fun hg17_21 => ?_) <;> (try simp only [decide_eq_true_eq, decide_eq_false_iff_not] at hg17_21) <;> try simp only [go_sem]
                  · skip
                    exact absurd hg17_21 (by decide)
                  · skip
                    (refine aOps_ya rfl rfl rfl (by rw [hall]; rfl) rfl ?_; try simp only [go_sem])
                    (refine aOps_ya rfl rfl rfl (by rw [hall]; rfl) rfl ?_; try simp only [go_sem])
                    (refine aOps_ya rfl rfl rfl (by rw [hall]; rfl) rfl ?_; try simp only [go_sem])
                    refine aOps_split (d := 88) rfl (fun hg17_24 => ?_) (fun hg17_24 => ?_) <;> (try simp only [decide_eq_true_eq, decide_eq_false_iff_not] at hg17_24) <;> try simp only [go_sem]
                    · skip
                      obtain ⟨j, hwj, hj, hmj⟩ := hC hg17_24
                      rw [hwj]
                      (refine aOps_ya rfl rfl rfl (by rw [hall]; rfl) rfl ?_; try simp only [go_sem])
                      (refine aOps_ya rfl rfl rfl (by rw [hall]; rfl) rfl ?_; try simp only [go_sem])
                      refine aOps_y rfl rfl (by rw [hall]; rfl) rfl (QK.at rfl Try.underlying43 ti2 rfl (by first | exact .inl rfl | exact .inr (.inl rfl) | exact .inr (.inr rfl)) rfl (encZ_get hkm) rfl ?_)
                      try simp only [go_sem]
                      (refine aOps_ya rfl rfl rfl (by rw [hall]; rfl) rfl ?_; try simp only [go_sem])
                      (refine aOps_ya rfl rfl rfl (by rw [hall]; rfl) rfl ?_; try simp only [go_sem])
                      (refine aOps_ya rfl rfl rfl (by rw [hall]; rfl) rfl ?_; try simp only [go_sem])
                      refine aOps_y rfl rfl (by rw [hall]; rfl) rfl (QK.at rfl Try.underlying22 ti25 rfl (by first | exact .inl rfl | exact .inr (.inl rfl) | exact .inr (.inr rfl)) rfl (encE_get hj) rfl ?_)
                      try simp only [go_sem]
                      (refine aOps_ya rfl rfl rfl (by rw [hall]; rfl) rfl ?_; try simp only [go_sem])
                      (refine aOps_ya rfl rfl rfl (by rw [hall]; rfl) rfl ?_; try simp only [go_sem])
                      (refine aOps_ya rfl rfl rfl (by rw [hall]; rfl) rfl ?_; try simp only [go_sem])
                      rw [show ((memL l co init)[k] != l[j].val) = false from by rw [hmj]; simp]
                      (refine aOps_ya rfl rfl rfl (by rw [hall]; rfl) rfl ?_; try simp only [go_sem])
                      repeat ((first | refine aOps_nil ?_ | refine aOps_a rfl rfl rfl ?_); try simp only [go_sem])
                      repeat ((first | refine aOps_nil ?_ | refine aOps_a rfl rfl rfl ?_); try simp only [go_sem])
                      try rw [← hwj]
                      exact ⟨trivial, (by ((try simp only [tpl, List.foldl_cons, List.foldl_nil, List.replicate, List.set_cons_zero, List.set_cons_succ]); repeat (first | exact trivial | refine ⟨.inr rfl, ?_⟩ | refine ⟨.inl rfl, ?_⟩))), rfl⟩
                    · skip
                      (refine aOps_z rfl (by rw [hall]; rfl) rfl ?_; try simp only [go_sem])
                      (refine aOps_z rfl (by rw [hall]; rfl) rfl ?_; try simp only [go_sem])
                      (refine aOps_z rfl (by rw [hall]; rfl) rfl ?_; try simp only [go_sem])
                      (refine aOps_z rfl (by rw [hall]; rfl) rfl ?_; try simp only [go_sem])
                      (refine aOps_z rfl (by rw [hall]; rfl) rfl ?_; try simp only [go_sem])
                      (refine aOps_z rfl (by rw [hall]; rfl) rfl ?_; try simp only [go_sem])
                      (refine aOps_z rfl (by rw [hall]; rfl) rfl ?_; try simp only [go_sem])
                      (refine aOps_z rfl (by rw [hall]; rfl) rfl ?_; try simp only [go_sem])
                      (refine aOps_z rfl (by rw [hall]; rfl) rfl ?_; try simp only [go_sem])
                      (refine aOps_z rfl (by rw [hall]; rfl) rfl ?_; try simp only [go_sem])
                      (refine aOps_ya rfl rfl rfl (by rw [hall]; rfl) rfl ?_; try simp only [go_sem])
                      repeat ((first | refine aOps_nil ?_ | refine aOps_a rfl rfl rfl ?_); try simp only [go_sem])
                      repeat ((first | refine aOps_nil ?_ | refine aOps_a rfl rfl rfl ?_); try simp only [go_sem])
                      try rw [← hwj]
                      exact ⟨trivial, (by ((try simp only [tpl, List.foldl_cons, List.foldl_nil, List.replicate, List.set_cons_zero, List.set_cons_succ]); repeat (first | exact trivial | refine ⟨.inr rfl, ?_⟩ | refine ⟨.inl rfl, ?_⟩))), rfl⟩
                · skip
                  (refine aOps_z rfl (by rw [hall]; rfl) rfl ?_; try simp only [go_sem])
                  (refine aOps_z rfl (by rw [hall]; rfl) rfl ?_; try simp only [go_sem])
                  (refine aOps_z rfl (by rw [hall]; rfl) rfl ?_; try simp only [go_sem])
                  (refine aOps_z rfl (by rw [hall]; rfl) rfl ?_; try simp only [go_sem])
                  (refine aOps_z rfl (by rw [hall]; rfl) rfl ?_; try simp only [go_sem])
                  (refine aOps_z rfl (by rw [hall]; rfl) rfl ?_; try simp only [go_sem])
                  (refine aOps_z rfl (by rw [hall]; rfl) rfl ?_; try simp only [go_sem])
                  (refine aOps_z rfl (by rw [hall]; rfl) rfl ?_; try simp only [go_sem])
                  (refine aOps_z rfl (by rw [hall]; rfl) rfl ?_; try simp only [go_sem])
                  (refine aOps_ya rfl rfl rfl (by rw [hall]; rfl) rfl ?_; try simp only [go_sem])
                  repeat ((first | refine aOps_nil ?_ | refine aOps_a rfl rfl rfl ?_); try simp only [go_sem])
                  (refine aOps_ya rfl rfl rfl (by rw [hall]; rfl) rfl ?_; try simp only [go_sem])
                  (refine aOps_ya rfl rfl rfl (by rw [hall]; rfl) rfl ?_; try simp only [go_sem])
                  (refine aOps_ya rfl rfl rfl (by rw [hall]; rfl) rfl ?_; try simp only [go_sem])
                  refine aOps_split (d := 88) rfl (fun hg17_24 => ?_) (fun hg17_24 => ?_) <;> (try simp only [decide_eq_true_eq, decide_eq_false_iff_not] at hg17_24) <;> try simp only [go_sem]
                  · skip
                    obtain ⟨j, hwj, hj, hmj⟩ := hC hg17_24
                    rw [hwj]
                    (refine aOps_ya rfl rfl rfl (by rw [hall]; rfl) rfl ?_; try simp only [go_sem])
                    (refine aOps_ya rfl rfl rfl (by rw [hall]; rfl) rfl ?_; try simp only [go_sem])
                    refine aOps_y rfl rfl (by rw [hall]; rfl) rfl (QK.at rfl Try.underlying43 ti2 rfl (by first | exact .inl rfl | exact .inr (.inl rfl) | exact .inr (.inr rfl)) rfl (encZ_get hkm) rfl ?_)
                    try simp only [go_sem]
                    (refine aOps_ya rfl rfl rfl (by rw [hall]; rfl) rfl ?_; try simp only [go_sem])
                    (refine aOps_ya rfl rfl rfl (by rw [hall]; rfl) rfl ?_; try simp only [go_sem])
                    (refine aOps_ya rfl rfl rfl (by rw [hall]; rfl) rfl ?_; try simp only [go_sem])
                    refine aOps_y rfl rfl (by rw [hall]; rfl) rfl (QK.at rfl Try.underlying22 ti25 rfl (by first | exact .inl rfl | exact .inr (.inl rfl) | exact .inr (.inr rfl)) rfl (encE_get hj) rfl ?_)
                    try simp only [go_sem]
                    (refine aOps_ya rfl rfl rfl (by rw [hall]; rfl) rfl ?_; try simp only [go_sem])
                    (refine aOps_ya rfl rfl rfl (by rw [hall]; rfl) rfl ?_; try simp only [go_sem])
                    (refine aOps_ya rfl rfl rfl (by rw [hall]; rfl) rfl ?_; try simp only [go_sem])
                    rw [show ((memL l co init)[k] != l[j].val) = false from by rw [hmj]; simp]
                    (refine aOps_ya rfl rfl rfl (by rw [hall]; rfl) rfl ?_; try simp only [go_sem])
                    repeat ((first | refine aOps_nil ?_ | refine aOps_a rfl rfl rfl ?_); try simp only [go_sem])
                    repeat ((first | refine aOps_nil ?_ | refine aOps_a rfl rfl rfl ?_); try simp only [go_sem])
                    try rw [← hwj]
                    exact ⟨trivial, (by ((try simp only [tpl, List.foldl_cons, List.foldl_nil, List.replicate, List.set_cons_zero, List.set_cons_succ]); repeat (first | exact trivial | refine ⟨.inr rfl, ?_⟩ | refine ⟨.inl rfl, ?_⟩))), rfl⟩
                  · skip
                    (refine aOps_z rfl (by rw [hall]; rfl) rfl ?_; try simp only [go_sem])
                    (refine aOps_z rfl (by rw [hall]; rfl) rfl ?_; try simp only [go_sem])
                    (refine aOps_z rfl (by rw [hall]; rfl) rfl ?_; try simp only [go_sem])
                    (refine aOps_z rfl (by rw [hall]; rfl) rfl ?_; try simp only [go_sem])
                    (refine aOps_z rfl (by rw [hall]; rfl) rfl ?_; try simp only [go_sem])
                    (refine aOps_z rfl (by rw [hall]; rfl) rfl ?_; try simp only [go_sem])
                    (refine aOps_z rfl (by rw [hall]; rfl) rfl ?_; try simp only [go_sem])
                    (refine aOps_z rfl (by rw [hall]; rfl) rfl ?_; try simp only [go_sem])
                    (refine aOps_z rfl (by rw [hall]; rfl) rfl ?_; try simp only [go_sem])
                    (refine aOps_z rfl (by rw [hall]; rfl) rfl ?_; try simp only [go_sem])
                    (refine aOps_ya rfl rfl rfl (by rw [hall]; rfl) rfl ?_; try simp only [go_sem])
                    repeat ((first | refine aOps_nil ?_ | refine aOps_a rfl rfl rfl ?_); try simp only [go_sem])
                    repeat ((first | refine aOps_nil ?_ | refine aOps_a rfl rfl rfl ?_); try simp only [go_sem])
                    try rw [← hwj]
                    exact ⟨trivial, (by ((try simp only [tpl, List.foldl_cons, List.foldl_nil, List.replicate, List.set_cons_zero, List.set_cons_succ]); repeat (first | exact trivial | refine ⟨.inr rfl, ?_⟩ | refine ⟨.inl rfl, ?_⟩))), rfl⟩
            · skip
              rintro u hp18
              simp only [tpl, List.foldl_cons, List.foldl_nil, List.replicate, List.set_cons_zero, List.set_cons_succ]
              have hwl := writes_len_le l k
              generalize lastOf co (writesE l k) = w at hD ⊢
              generalize writesE l k = ws at hD hwl ⊢
              (refine WpA.cond rfl (fun hb100 => ?_) (fun hb100 => ?_) <;> try simp only [decide_eq_true_eq, decide_eq_false_iff_not, Bool.not_eq_true', Bool.not_eq_false'] at hb100)
              · skip
                exact absurd hb100 (by decide)
              · skip
                (refine WpA.skip ?_; try simp only [go_sem])
                (apply hKx23; (try clear hKx23 Kx23); try simp only [go_sem])
                refine WpA.seq fun Kx24 hKx24 => ?_
                refine WpA.reg fun all hall => ?_
                repeat ((first | refine aOps_nil ?_ | refine aOps_a rfl rfl rfl ?_); try simp only [go_sem])
                repeat ((first | refine aOps_nil ?_ | refine aOps_a rfl rfl rfl ?_); try simp only [go_sem])
                (apply hKx24; (try clear hKx24 Kx24); try simp only [go_sem])
                refine WpA.block ?_
                refine WpA.iter (fun (i : Nat) => i ≤ ws.length) (fun (i : Nat) => tpl 124 [(0, .pv (.imm (encE l))), (2, .pv (.imm (encZ init))), (7, bv true), (8, .bat 0 0), (10, .pv (.imm (encU co))), (11, .pv (.imm (encZ (memL l co init)))), (12, iv k), (13, iv w), (14, .pv (.imm (encZ ws))), (15, iv i)]) (fun (i : Nat) => [.box 30 (exC l s0)]) (fun (i : Nat) => ws.length - i) 0 (by omega) (by ((try simp only [tpl, List.foldl_cons, List.foldl_nil, List.replicate, List.set_cons_zero, List.set_cons_succ]); repeat (first | exact trivial | refine ⟨.inr rfl, ?_⟩ | refine ⟨.inl rfl, ?_⟩))) rfl ?_
                rintro i hp2
                simp only [tpl, List.foldl_cons, List.foldl_nil, List.replicate, List.set_cons_zero, List.set_cons_succ]
                refine WpA.seq fun Kx25 hKx25 => ?_
                refine WpA.seq fun Kx26 hKx26 => ?_
                refine WpA.reg fun all hall => ?_
                repeat ((first | refine aOps_nil ?_ | refine aOps_a rfl rfl rfl ?_); try simp only [go_sem])
                repeat ((first | refine aOps_nil ?_ | refine aOps_a rfl rfl rfl ?_); try simp only [go_sem])
                (apply hKx26; (try clear hKx26 Kx26); try simp only [go_sem])
                (refine WpA.cond rfl (fun hb104 => ?_) (fun hb104 => ?_) <;> try simp only [decide_eq_true_eq, decide_eq_false_iff_not, Bool.not_eq_true', Bool.not_eq_false'] at hb104)
                · skip
                  have hi : i < ws.length := by omega
                  (refine WpA.skip ?_; try simp only [go_sem])
                  (apply hKx25; (try clear hKx25 Kx25); try simp only [go_sem])
                  refine WpA.seq fun Kx27 hKx27 => ?_
                  refine WpA.block ?_
                  refine WpA.seq fun Kx28 hKx28 => ?_
                  refine WpA.reg fun all hall => ?_
                  repeat ((first | refine aOps_nil ?_ | refine aOps_a rfl rfl rfl ?_); try simp only [go_sem])
                  refine aOps_s rfl rfl (QK.at rfl Try.underlying39 ti3 rfl (by first | exact .inl rfl | exact .inr (.inl rfl) | exact .inr (.inr rfl)) rfl (encZ_get hi) rfl ?_)
                  try simp only [go_sem]
                  repeat ((first | refine aOps_nil ?_ | refine aOps_a rfl rfl rfl ?_); try simp only [go_sem])
                  refine aOps_split (d := 113) rfl (fun hg22_6 => ?_) (fun hg22_6 => ?_) <;> (try simp only [decide_eq_true_eq, decide_eq_false_iff_not] at hg22_6) <;> try simp only [go_sem]
                  · skip
                    (refine aOps_ya rfl rfl rfl (by rw [hall]; rfl) rfl ?_; try simp only [go_sem])
                    (refine aOps_ya rfl rfl rfl (by rw [hall]; rfl) rfl ?_; try simp only [go_sem])
                    (refine aOps_ya rfl rfl rfl (by rw [hall]; rfl) rfl ?_; try simp only [go_sem])
                    refine aOps_y rfl rfl (by rw [hall]; rfl) rfl (QK.at rfl Try.underlying39 ti3 rfl (by first | exact .inl rfl | exact .inr (.inl rfl) | exact .inr (.inr rfl)) rfl (encZ_get hi) rfl ?_)
                    try simp only [go_sem]
                    (refine aOps_ya rfl rfl rfl (by rw [hall]; rfl) rfl ?_; try simp only [go_sem])
                    (refine aOps_ya rfl rfl rfl (by rw [hall]; rfl) rfl ?_; try simp only [go_sem])
                    refine aOps_y rfl rfl (by rw [hall]; rfl) rfl (QK.call rfl rfl rfl (has_calls co ws[i] w) (by repeat' (first | exact ConvL.nil | refine ConvL.cons ?_ ?_ | first | exact Conv.pv _ | exact Conv.imm_bor _ | exact Conv.bor _ | exact Conv.tight_imm _ | exact Conv.tight_bor _ | exact Conv.nil_imm | exact Conv.nil_bor | exact Conv.tight _ | exact Conv.at _ | exact Conv.row _ _ _ _ _ _ rfl (by first | rfl | (simp only [go_sem]; done) | (simp []; done) | (simp []; omega) | omega) | exact Conv.bat _ _ _ _ _ rfl rfl | exact Conv.aggp _ _ rfl | refine Conv.fnL _ ?_ | exact Conv.any _)) ?_)
                    try simp only [go_sem]
                    rw [hD ws[i] (List.getElem_mem hi) hg22_6]
                    (refine aOps_ya rfl rfl rfl (by rw [hall]; rfl) rfl ?_; try simp only [go_sem])
                    repeat ((first | refine aOps_nil ?_ | refine aOps_a rfl rfl rfl ?_); try simp only [go_sem])
                    repeat ((first | refine aOps_nil ?_ | refine aOps_a rfl rfl rfl ?_); try simp only [go_sem])
                    (apply hKx28; (try clear hKx28 Kx28); try simp only [go_sem])
                    (refine WpA.cond rfl (fun hb122 => ?_) (fun hb122 => ?_) <;> try simp only [decide_eq_true_eq, decide_eq_false_iff_not, Bool.not_eq_true', Bool.not_eq_false'] at hb122)
                    · skip
                      exact absurd hb122 (by decide)
                    · skip
                      (refine WpA.skip ?_; try simp only [go_sem])
                      (apply hKx27; (try clear hKx27 Kx27); try simp only [go_sem])
                      refine WpA.reg fun all hall => ?_
                      repeat ((first | refine aOps_nil ?_ | refine aOps_a rfl rfl rfl ?_); try simp only [go_sem])
                      repeat ((first | refine aOps_nil ?_ | refine aOps_a rfl rfl rfl ?_); try simp only [go_sem])
                      rw [wi1 i (by omega)]
                      exact ⟨i + 1, ⟨hi, by omega⟩, (by ((try simp only [tpl, List.foldl_cons, List.foldl_nil, List.replicate, List.set_cons_zero, List.set_cons_succ]); repeat (first | exact trivial | refine ⟨.inr rfl, ?_⟩ | refine ⟨.inl rfl, ?_⟩))), rfl⟩
                  · skip
                    (refine aOps_z rfl (by rw [hall]; rfl) rfl ?_; try simp only [go_sem])
                    (refine aOps_z rfl (by rw [hall]; rfl) rfl ?_; try simp only [go_sem])
                    (refine aOps_z rfl (by rw [hall]; rfl) rfl ?_; try simp only [go_sem])
                    (refine aOps_z rfl (by rw [hall]; rfl) rfl ?_; try simp only [go_sem])
                    (refine aOps_z rfl (by rw [hall]; rfl) rfl ?_; try simp only [go_sem])
                    (refine aOps_z rfl (by rw [hall]; rfl) rfl ?_; try simp only [go_sem])
                    (refine aOps_z rfl (by rw [hall]; rfl) rfl ?_; try simp only [go_sem])
                    (refine aOps_z rfl (by rw [hall]; rfl) rfl ?_; try simp only [go_sem])
                    repeat ((first | refine aOps_nil ?_ | refine aOps_a rfl rfl rfl ?_); try simp only [go_sem])
                    repeat ((first | refine aOps_nil ?_ | refine aOps_a rfl rfl rfl ?_); try simp only [go_sem])
                    (apply hKx28; (try clear hKx28 Kx28); try simp only [go_sem])
                    (refine WpA.cond rfl (fun hb122 => ?_) (fun hb122 => ?_) <;> try simp only [decide_eq_true_eq, decide_eq_false_iff_not, Bool.not_eq_true', Bool.not_eq_false'] at hb122)
                    · skip
                      exact absurd hb122 (by decide)
                    · skip
                      (refine WpA.skip ?_; try simp only [go_sem])
                      (apply hKx27; (try clear hKx27 Kx27); try simp only [go_sem])
                      refine WpA.reg fun all hall => ?_
                      repeat ((first | refine aOps_nil ?_ | refine aOps_a rfl rfl rfl ?_); try simp only [go_sem])
                      repeat ((first | refine aOps_nil ?_ | refine aOps_a rfl rfl rfl ?_); try simp only [go_sem])
                      rw [wi1 i (by omega)]
                      exact ⟨i + 1, ⟨hi, by omega⟩, (by ((try simp only [tpl, List.foldl_cons, List.foldl_nil, List.replicate, List.set_cons_zero, List.set_cons_succ]); repeat (first | exact trivial | refine ⟨.inr rfl, ?_⟩ | refine ⟨.inl rfl, ?_⟩))), rfl⟩
                · skip
                  (refine WpA.exit ?_; try simp only [go_sem])
                  (apply hKx20; (try clear hKx20 Kx20); try simp only [go_sem])
                  refine WpA.reg fun all hall => ?_
                  repeat ((first | refine aOps_nil ?_ | refine aOps_a rfl rfl rfl ?_); try simp only [go_sem])
                  repeat ((first | refine aOps_nil ?_ | refine aOps_a rfl rfl rfl ?_); try simp only [go_sem])
                  rw [wi1 k (by omega)]
                  exact ⟨k + 1, ⟨hk, by omega⟩, (by ((try simp only [tpl, List.foldl_cons, List.foldl_nil, List.replicate, List.set_cons_zero, List.set_cons_succ]); repeat (first | exact trivial | refine ⟨.inr rfl, ?_⟩ | refine ⟨.inl rfl, ?_⟩))), rfl⟩
          · skip
            (refine WpA.exit ?_; try simp only [go_sem])
            (apply hKx16; (try clear hKx16 Kx16); try simp only [go_sem])
            refine WpA.seq fun Kx29 hKx29 => ?_
            refine WpA.reg fun all hall => ?_
            repeat ((first | refine aOps_nil ?_ | refine aOps_a rfl rfl rfl ?_); try simp only [go_sem])
            repeat ((first | refine aOps_nil ?_ | refine aOps_a rfl rfl rfl ?_); try simp only [go_sem])
            (apply hKx29; (try clear hKx29 Kx29); try simp only [go_sem])
            (refine WpA.ret ?_; try simp only [go_sem])
            exact ret_b rfl rfl
end Go.Proofs.Ytfpbdphdahfgbaa
