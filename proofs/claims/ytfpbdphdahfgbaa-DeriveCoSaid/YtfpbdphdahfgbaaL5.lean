/- DeriveCo, walked. -/
import Derived.Test.YtfpbdphdahfgbaaX7
namespace Go.Proofs.Ytfpbdphdahfgbaa
open Go Go.RowKit Go.Proofs.Ytfpbdphdahfgbaa.Fw

set_option maxRecDepth 100000 in
set_option maxHeartbeats 4000000 in
theorem dco_calls (l : List Ev) (init : List Int) (n1 n2 : Nat) (hn1 : n1 < 65536) (hn2 : n2 < 65536) : PCalls Try.prog 8 [.pv (.imm (encE l)), .pv (.imm (encZ init)), .pv (.val (.int .u16 n1)), .pv (.val (.int .u16 n2))] (.val (bv true)) := by
  refine PCalls.of_body Try.func8 rfl rfl Try.ntmps8 Try.results8 ?_
  simp only [go_sem, List.replicate]
  refine WpA.seq fun Kx1 hKx1 => ?_
  refine WpA.reg fun all hall => ?_
  repeat ((first | refine aOps_nil ?_ | refine aOps_a rfl rfl rfl ?_); try simp only [go_sem])
  repeat ((first | refine aOps_nil ?_ | refine aOps_a rfl rfl rfl ?_); try simp only [go_sem])
  (apply hKx1; (try clear hKx1 Kx1); try simp only [go_sem])
  refine WpA.seq fun Kx2 hKx2 => ?_
  refine WpA.reg fun all hall => ?_
  refine aOps_s rfl rfl (QK.call rfl rfl rfl shown13_calls (by repeat' (first | exact ConvL.nil | refine ConvL.cons ?_ ?_ | first | exact Conv.pv _ | exact Conv.imm_bor _ | exact Conv.bor _ | exact Conv.tight_imm _ | exact Conv.tight_bor _ | exact Conv.nil_imm | exact Conv.nil_bor | exact Conv.tight _ | exact Conv.at _ | exact Conv.row _ _ _ _ _ _ rfl (by first | rfl | (simp only [go_sem]; done) | (simp []; done) | (simp []; omega) | omega) | exact Conv.bat _ _ _ _ _ rfl rfl | exact Conv.aggp _ _ rfl | refine Conv.fnL _ ?_ | exact Conv.any _)) ?_)
  try simp only [go_sem]
  repeat ((first | refine aOps_nil ?_ | refine aOps_a rfl rfl rfl ?_); try simp only [go_sem])
  repeat ((first | refine aOps_nil ?_ | refine aOps_a rfl rfl rfl ?_); try simp only [go_sem])
  (apply hKx2; (try clear hKx2 Kx2); try simp only [go_sem])
  refine WpA.seq fun Kx3 hKx3 => ?_
  refine WpA.seq fun Kx4 hKx4 => ?_
  refine WpA.reg fun all hall => ?_
  repeat ((first | refine aOps_nil ?_ | refine aOps_a rfl rfl rfl ?_); try simp only [go_sem])
  repeat ((first | refine aOps_nil ?_ | refine aOps_a rfl rfl rfl ?_); try simp only [go_sem])
  (apply hKx4; (try clear hKx4 Kx4); try simp only [go_sem])
  (refine WpA.cond rfl (fun hb22 => ?_) (fun hb22 => ?_) <;> try simp only [decide_eq_true_eq, decide_eq_false_iff_not, Bool.not_eq_true', Bool.not_eq_false'] at hb22)
  · skip
    refine WpA.seq fun Kx5 hKx5 => ?_
    refine WpA.reg fun all hall => ?_
    repeat ((first | refine aOps_nil ?_ | refine aOps_a rfl rfl rfl ?_); try simp only [go_sem])
    repeat ((first | refine aOps_nil ?_ | refine aOps_a rfl rfl rfl ?_); try simp only [go_sem])
    (apply hKx5; (try clear hKx5 Kx5); try simp only [go_sem])
    (refine WpA.ret ?_; try simp only [go_sem])
    exact ret_b rfl rfl
  · skip
    have hl : l.length ≤ 8 := by omega
    have hfacts := fun {a : List Int} {co : List (BitVec 32)} => dr_facts (init := init) (a := a) (co := co) hl
    have hsrc := src_calls l s0 init (by omega)
    have hways := call_calls l s0 (by omega)
    (refine WpA.skip ?_; try simp only [go_sem])
    (apply hKx3; (try clear hKx3 Kx3); try simp only [go_sem])
    refine WpA.seq fun Kx6 hKx6 => ?_
    refine WpA.reg fun all hall => ?_
    repeat ((first | refine aOps_nil ?_ | refine aOps_a rfl rfl rfl ?_); try simp only [go_sem])
    refine aOps_s rfl rfl (QK.build (l := [(0, 1), (1, 1), (2, 1), (3, 1), (4, 1), (5, 1), (6, 1)]) rfl Try.underlying30 (by kernel_rfl) ti30 rfl ?_)
    try simp only [go_sem]
    refine aOps_s rfl rfl (QK.alloc rfl ti30 (by kernel_rfl) rfl ?_)
    try simp only [go_sem]
    refine aOps_n rfl (aOp.set rfl rfl rfl rfl ?_ ti30 ?_)
    · exact ⟨rfl, (by first | rfl | (simp only [go_sem]; done) | (simp []; done) | (simp []; omega) | omega)⟩
    try simp only [go_sem]
    repeat ((first | refine aOps_nil ?_ | refine aOps_a rfl rfl rfl ?_); try simp only [go_sem])
    (apply hKx6; (try clear hKx6 Kx6); try simp only [go_sem])
    refine WpA.seq fun Kx7 hKx7 => ?_
    refine WpA.reg fun all hall => ?_
    repeat ((first | refine aOps_nil ?_ | refine aOps_a rfl rfl rfl ?_); try simp only [go_sem])
    refine aOps_s rfl rfl (QK.call rfl rfl rfl hsrc (by repeat' (first | exact ConvL.nil | refine ConvL.cons ?_ ?_ | first | exact Conv.pv _ | exact Conv.imm_bor _ | exact Conv.bor _ | exact Conv.tight_imm _ | exact Conv.tight_bor _ | exact Conv.nil_imm | exact Conv.nil_bor | exact Conv.tight _ | exact Conv.at _ | exact Conv.row _ _ _ _ _ _ rfl (by first | rfl | (simp only [go_sem]; done) | (simp []; done) | (simp []; omega) | omega) | exact Conv.bat _ _ _ _ _ rfl rfl | exact Conv.aggp _ _ rfl | refine Conv.fnL _ ?_ | exact Conv.any _)) ?_)
    try simp only [go_sem]
    repeat ((first | refine aOps_nil ?_ | refine aOps_a rfl rfl rfl ?_); try simp only [go_sem])
    repeat ((first | refine aOps_nil ?_ | refine aOps_a rfl rfl rfl ?_); try simp only [go_sem])
    (apply hKx7; (try clear hKx7 Kx7); try simp only [go_sem])
    refine WpA.seq fun Kx8 hKx8 => ?_
    refine WpA.reg fun all hall => ?_
    repeat ((first | refine aOps_nil ?_ | refine aOps_a rfl rfl rfl ?_); try simp only [go_sem])
    refine aOps_s rfl rfl (QK.call rfl rfl rfl hways (by repeat' (first | exact ConvL.nil | refine ConvL.cons ?_ ?_ | first | exact Conv.pv _ | exact Conv.imm_bor _ | exact Conv.bor _ | exact Conv.tight_imm _ | exact Conv.tight_bor _ | exact Conv.nil_imm | exact Conv.nil_bor | exact Conv.tight _ | exact Conv.at _ | exact Conv.row _ _ _ _ _ _ rfl (by first | rfl | (simp only [go_sem]; done) | (simp []; done) | (simp []; omega) | omega) | exact Conv.bat _ _ _ _ _ rfl rfl | exact Conv.aggp _ _ rfl | refine Conv.fnL _ ?_ | exact Conv.any _)) ?_)
    try simp only [go_sem]
    repeat ((first | refine aOps_nil ?_ | refine aOps_a rfl rfl rfl ?_); try simp only [go_sem])
    repeat ((first | refine aOps_nil ?_ | refine aOps_a rfl rfl rfl ?_); try simp only [go_sem])
    generalize srcE l init = ways at hfacts ⊢
    generalize allE l = cos at hfacts ⊢
    (apply hKx8; (try clear hKx8 Kx8); try simp only [go_sem])
    refine WpA.seq fun Kx9 hKx9 => ?_
    refine WpA.seq fun Kx10 hKx10 => ?_
    refine WpA.reg fun all hall => ?_
    repeat ((first | refine aOps_nil ?_ | refine aOps_a rfl rfl rfl ?_); try simp only [go_sem])
    refine aOps_split (d := 34) rfl (fun hg7_3 => ?_) (fun hg7_3 => ?_) <;> (try simp only [decide_eq_true_eq, decide_eq_false_iff_not] at hg7_3) <;> try simp only [go_sem]
    · skip
      (refine aOps_z rfl (by rw [hall]; rfl) rfl ?_; try simp only [go_sem])
      (refine aOps_z rfl (by rw [hall]; rfl) rfl ?_; try simp only [go_sem])
      (refine aOps_z rfl (by rw [hall]; rfl) rfl ?_; try simp only [go_sem])
      repeat ((first | refine aOps_nil ?_ | refine aOps_a rfl rfl rfl ?_); try simp only [go_sem])
      repeat ((first | refine aOps_nil ?_ | refine aOps_a rfl rfl rfl ?_); try simp only [go_sem])
      (apply hKx10; (try clear hKx10 Kx10); try simp only [go_sem])
      (refine WpA.cond rfl (fun hb38 => ?_) (fun hb38 => ?_) <;> try simp only [decide_eq_true_eq, decide_eq_false_iff_not, Bool.not_eq_true', Bool.not_eq_false'] at hb38)
      · skip
        refine WpA.seq fun Kx11 hKx11 => ?_
        refine WpA.reg fun all hall => ?_
        repeat ((first | refine aOps_nil ?_ | refine aOps_a rfl rfl rfl ?_); try simp only [go_sem])
        repeat ((first | refine aOps_nil ?_ | refine aOps_a rfl rfl rfl ?_); try simp only [go_sem])
        (apply hKx11; (try clear hKx11 Kx11); try simp only [go_sem])
        (refine WpA.ret ?_; try simp only [go_sem])
        exact ret_b rfl rfl
      · skip
        exact absurd hb38 (by decide)
    · skip
      have hw0 : 0 < ways.length := by have h := hg7_3; simp at h; exact List.length_pos_iff.2 h
      (refine aOps_ya rfl rfl rfl (by rw [hall]; rfl) rfl ?_; try simp only [go_sem])
      (refine aOps_ya rfl rfl rfl (by rw [hall]; rfl) rfl ?_; try simp only [go_sem])
      (refine aOps_ya rfl rfl rfl (by rw [hall]; rfl) rfl ?_; try simp only [go_sem])
      repeat ((first | refine aOps_nil ?_ | refine aOps_a rfl rfl rfl ?_); try simp only [go_sem])
      repeat ((first | refine aOps_nil ?_ | refine aOps_a rfl rfl rfl ?_); try simp only [go_sem])
      (apply hKx10; (try clear hKx10 Kx10); try simp only [go_sem])
      (refine WpA.cond rfl (fun hb38 => ?_) (fun hb38 => ?_) <;> try simp only [decide_eq_true_eq, decide_eq_false_iff_not, Bool.not_eq_true', Bool.not_eq_false'] at hb38)
      · skip
        refine WpA.seq fun Kx12 hKx12 => ?_
        refine WpA.reg fun all hall => ?_
        repeat ((first | refine aOps_nil ?_ | refine aOps_a rfl rfl rfl ?_); try simp only [go_sem])
        repeat ((first | refine aOps_nil ?_ | refine aOps_a rfl rfl rfl ?_); try simp only [go_sem])
        (apply hKx12; (try clear hKx12 Kx12); try simp only [go_sem])
        (refine WpA.ret ?_; try simp only [go_sem])
        exact ret_b rfl rfl
      · skip
        have hc0 : 0 < cos.length := by first | (have h := hb38; simp at h; exact List.length_pos_iff.2 h) | exact absurd hb38 (by decide)
        (refine WpA.skip ?_; try simp only [go_sem])
        (apply hKx9; (try clear hKx9 Kx9); try simp only [go_sem])
        refine WpA.seq fun Kx13 hKx13 => ?_
        refine WpA.reg fun all hall => ?_
        ((first | refine aOps_nil ?_ | refine aOps_a rfl rfl rfl ?_); try simp only [go_sem])
        ((first | refine aOps_nil ?_ | refine aOps_a rfl rfl rfl ?_); try simp only [go_sem])
        ((first | refine aOps_nil ?_ | refine aOps_a rfl rfl rfl ?_); try simp only [go_sem])
        rw [wi n1 (by omega)]
        ((first | refine aOps_nil ?_ | refine aOps_a rfl rfl rfl ?_); try simp only [go_sem])
        ((first | refine aOps_nil ?_ | refine aOps_a rfl rfl rfl ?_); try simp only [go_sem])
        ((first | refine aOps_nil ?_ | refine aOps_a rfl rfl rfl ?_); try simp only [go_sem])
        refine ⟨by omega, ?_⟩
        rw [show Int.tmod (n1 : Int) (ways.length : Int) = ((n1 % ways.length : Nat) : Int) from by rw [Int.tmod_eq_emod_of_nonneg (by omega)]; simp]
        have hx : n1 % ways.length < ways.length := Nat.mod_lt _ hw0
        generalize n1 % ways.length = x at hx ⊢
        refine aOps_s rfl rfl (QK.at rfl Try.underlying61 ti39 rfl (by first | exact .inl rfl | exact .inr (.inl rfl) | exact .inr (.inr rfl)) rfl (encL_get hx) rfl ?_)
        try simp only [go_sem]
        repeat ((first | refine aOps_nil ?_ | refine aOps_a rfl rfl rfl ?_); try simp only [go_sem])
        repeat ((first | refine aOps_nil ?_ | refine aOps_a rfl rfl rfl ?_); try simp only [go_sem])
        (apply hKx13; (try clear hKx13 Kx13); try simp only [go_sem])
        refine WpA.seq fun Kx14 hKx14 => ?_
        refine WpA.reg fun all hall => ?_
        ((first | refine aOps_nil ?_ | refine aOps_a rfl rfl rfl ?_); try simp only [go_sem])
        ((first | refine aOps_nil ?_ | refine aOps_a rfl rfl rfl ?_); try simp only [go_sem])
        ((first | refine aOps_nil ?_ | refine aOps_a rfl rfl rfl ?_); try simp only [go_sem])
        rw [wi n2 (by omega)]
        ((first | refine aOps_nil ?_ | refine aOps_a rfl rfl rfl ?_); try simp only [go_sem])
        ((first | refine aOps_nil ?_ | refine aOps_a rfl rfl rfl ?_); try simp only [go_sem])
        ((first | refine aOps_nil ?_ | refine aOps_a rfl rfl rfl ?_); try simp only [go_sem])
        refine ⟨by omega, ?_⟩
        rw [show Int.tmod (n2 : Int) (cos.length : Int) = ((n2 % cos.length : Nat) : Int) from by rw [Int.tmod_eq_emod_of_nonneg (by omega)]; simp]
        have hy : n2 % cos.length < cos.length := Nat.mod_lt _ hc0
        generalize n2 % cos.length = y at hy ⊢
        refine aOps_s rfl rfl (QK.at rfl Try.underlying32 ti27 rfl (by first | exact .inl rfl | exact .inr (.inl rfl) | exact .inr (.inr rfl)) rfl (encW_get hy) rfl ?_)
        try simp only [go_sem]
        repeat ((first | refine aOps_nil ?_ | refine aOps_a rfl rfl rfl ?_); try simp only [go_sem])
        repeat ((first | refine aOps_nil ?_ | refine aOps_a rfl rfl rfl ?_); try simp only [go_sem])
        obtain ⟨hs, f, hc, hw⟩ := hfacts (List.getElem_mem hx) (List.getElem_mem hy)
        generalize ways[x] = a at hs ⊢
        generalize cos[y] = co at hw ⊢
        have hal := hs.len
        have hfr := fr_iff (by omega) hs hc hw
        have hseq := fr_seq (by omega) hs hc hw
        (apply hKx14; (try clear hKx14 Kx14); try simp only [go_sem])
        refine WpA.seq fun Kx15 hKx15 => ?_
        refine WpA.reg fun all hall => ?_
        repeat ((first | refine aOps_nil ?_ | refine aOps_a rfl rfl rfl ?_); try simp only [go_sem])
        refine aOps_s rfl rfl (QK.call rfl rfl rfl (fr_calls l s0 a co (by omega) hal) (by repeat' (first | exact ConvL.nil | refine ConvL.cons ?_ ?_ | first | exact Conv.pv _ | exact Conv.imm_bor _ | exact Conv.bor _ | exact Conv.tight_imm _ | exact Conv.tight_bor _ | exact Conv.nil_imm | exact Conv.nil_bor | exact Conv.tight _ | exact Conv.at _ | exact Conv.row _ _ _ _ _ _ rfl (by first | rfl | (simp only [go_sem]; done) | (simp []; done) | (simp []; omega) | omega) | exact Conv.bat _ _ _ _ _ rfl rfl | exact Conv.aggp _ _ rfl | refine Conv.fnL _ ?_ | exact Conv.any _)) ?_)
        try simp only [go_sem]
        repeat ((first | refine aOps_nil ?_ | refine aOps_a rfl rfl rfl ?_); try simp only [go_sem])
        repeat ((first | refine aOps_nil ?_ | refine aOps_a rfl rfl rfl ?_); try simp only [go_sem])
        have hhas := hasR_nat (frE l a co)
        generalize frE l a co = fr at hfr hseq hhas ⊢
        (apply hKx15; (try clear hKx15 Kx15); try simp only [go_sem])
        refine WpA.seq fun Kx16 hKx16 => ?_
        refine WpA.seq fun Kx17 hKx17 => ?_
        refine WpA.reg fun all hall => ?_
        repeat ((first | refine aOps_nil ?_ | refine aOps_a rfl rfl rfl ?_); try simp only [go_sem])
        repeat ((first | refine aOps_nil ?_ | refine aOps_a rfl rfl rfl ?_); try simp only [go_sem])
        (apply hKx17; (try clear hKx17 Kx17); try simp only [go_sem])
        refine WpA.block ?_
        refine WpA.iter (fun (i : Nat) => i ≤ l.length) (fun (i : Nat) => tpl 137 [(0, .pv (.imm (encE l))), (9, bv true), (13, .pv (.imm (encZ a))), (14, .pv (.imm (encU co))), (15, .pv (.imm (encU fr))), (16, iv i)]) (fun (i : Nat) => [.box 30 (exN l)]) (fun (i : Nat) => l.length - i) 0 (by omega) (by ((try simp only [tpl, List.foldl_cons, List.foldl_nil, List.replicate, List.set_cons_zero, List.set_cons_succ]); repeat (first | exact trivial | refine ⟨.inr rfl, ?_⟩ | refine ⟨.inl rfl, ?_⟩))) rfl ?_
        rintro i hp0
        simp only [tpl, List.foldl_cons, List.foldl_nil, List.replicate, List.set_cons_zero, List.set_cons_succ]
        refine WpA.seq fun Kx18 hKx18 => ?_
        refine WpA.seq fun Kx19 hKx19 => ?_
        refine WpA.reg fun all hall => ?_
        repeat ((first | refine aOps_nil ?_ | refine aOps_a rfl rfl rfl ?_); try simp only [go_sem])
        repeat ((first | refine aOps_nil ?_ | refine aOps_a rfl rfl rfl ?_); try simp only [go_sem])
        (apply hKx19; (try clear hKx19 Kx19); try simp only [go_sem])
        (refine WpA.cond rfl (fun hb63 => ?_) (fun hb63 => ?_) <;> try simp only [decide_eq_true_eq, decide_eq_false_iff_not, Bool.not_eq_true', Bool.not_eq_false'] at hb63)
        · skip
          have hi : i < l.length := by omega
          have hia : i < a.length := by omega
          (refine WpA.skip ?_; try simp only [go_sem])
          (apply hKx18; (try clear hKx18 Kx18); try simp only [go_sem])
          refine WpA.seq fun Kx20 hKx20 => ?_
          refine WpA.block ?_
          refine WpA.seq fun Kx21 hKx21 => ?_
          refine WpA.reg fun all hall => ?_
          repeat ((first | refine aOps_nil ?_ | refine aOps_a rfl rfl rfl ?_); try simp only [go_sem])
          repeat ((first | refine aOps_nil ?_ | refine aOps_a rfl rfl rfl ?_); try simp only [go_sem])
          (apply hKx21; (try clear hKx21 Kx21); try simp only [go_sem])
          refine WpA.block ?_
          refine WpA.iter (fun (k : Nat) => k ≤ l.length) (fun (k : Nat) => tpl 137 [(0, .pv (.imm (encE l))), (9, bv true), (13, .pv (.imm (encZ a))), (14, .pv (.imm (encU co))), (15, .pv (.imm (encU fr))), (16, iv i), (17, iv k)]) (fun (k : Nat) => [.box 30 (exN l)]) (fun (k : Nat) => l.length - k) 0 (by omega) (by ((try simp only [tpl, List.foldl_cons, List.foldl_nil, List.replicate, List.set_cons_zero, List.set_cons_succ]); repeat (first | exact trivial | refine ⟨.inr rfl, ?_⟩ | refine ⟨.inl rfl, ?_⟩))) rfl ?_
          rintro k hp2
          simp only [tpl, List.foldl_cons, List.foldl_nil, List.replicate, List.set_cons_zero, List.set_cons_succ]
          refine WpA.seq fun Kx22 hKx22 => ?_
          refine WpA.seq fun Kx23 hKx23 => ?_
          refine WpA.reg fun all hall => ?_
          repeat ((first | refine aOps_nil ?_ | refine aOps_a rfl rfl rfl ?_); try simp only [go_sem])
          repeat ((first | refine aOps_nil ?_ | refine aOps_a rfl rfl rfl ?_); try simp only [go_sem])
          (apply hKx23; (try clear hKx23 Kx23); try simp only [go_sem])
          (refine WpA.cond rfl (fun hb69 => ?_) (fun hb69 => ?_) <;> try simp only [decide_eq_true_eq, decide_eq_false_iff_not, Bool.not_eq_true', Bool.not_eq_false'] at hb69)
          · skip
            have hk : k < l.length := by omega
            have hka : k < a.length := by omega
            (refine WpA.skip ?_; try simp only [go_sem])
            (apply hKx22; (try clear hKx22 Kx22); try simp only [go_sem])
            refine WpA.seq fun Kx24 hKx24 => ?_
            refine WpA.block ?_
            refine WpA.seq fun Kx25 hKx25 => ?_
            refine WpA.seq fun Kx26 hKx26 => ?_
            refine WpA.regD (0 + 1 + 1 + 1 + 1 + 1 + 1 + 1 + 1 + 1 + 1 + 1 + 1 + 1 + 1 + 1 + 1 + 1 + 1 + 1 + 1 + 1 + 1 + 1 + 1 + 1 + 1 + 1 + 1 + 1 + 1 + 1 + 1 + 1 + 1 + 1 + 1) mixed (by kernel_rfl) fun all hall => ?_
            repeat ((first | refine aOps_nil ?_ | refine aOps_a rfl rfl rfl ?_); try simp only [go_sem])
            refine aOps_s rfl rfl (QK.at rfl Try.underlying22 ti25 rfl (by first | exact .inl rfl | exact .inr (.inl rfl) | exact .inr (.inr rfl)) rfl (encE_get hi) rfl ?_)
            try simp only [go_sem]
            repeat ((first | refine aOps_nil ?_ | refine aOps_a rfl rfl rfl ?_); try simp only [go_sem])
            refine aOps_split (d := 78) rfl (fun hg18_6 => ?_) (fun hg18_6 => ?_) <;> (try simp only [decide_eq_true_eq, decide_eq_false_iff_not] at hg18_6) <;> try simp only [go_sem]
            · skip
              (refine aOps_z rfl (by rw [hall]; rfl) rfl ?_; try simp only [go_sem])
              (refine aOps_z rfl (by rw [hall]; rfl) rfl ?_; try simp only [go_sem])
              (refine aOps_z rfl (by rw [hall]; rfl) rfl ?_; try simp only [go_sem])
              (refine aOps_z rfl (by rw [hall]; rfl) rfl ?_; try simp only [go_sem])
              (refine aOps_z rfl (by rw [hall]; rfl) rfl ?_; try simp only [go_sem])
              (refine aOps_z rfl (by rw [hall]; rfl) rfl ?_; try simp only [go_sem])
              repeat ((first | refine aOps_nil ?_ | refine aOps_a rfl rfl rfl ?_); try simp only [go_sem])
              (refine aOps_z rfl (by rw [hall]; rfl) rfl ?_; try simp only [go_sem])
              (refine aOps_z rfl (by rw [hall]; rfl) rfl ?_; try simp only [go_sem])
              (refine aOps_z rfl (by rw [hall]; rfl) rfl ?_; try simp only [go_sem])
              (refine aOps_z rfl (by rw [hall]; rfl) rfl ?_; try simp only [go_sem])
              (refine aOps_z rfl (by rw [hall]; rfl) rfl ?_; try simp only [go_sem])
              (refine aOps_z rfl (by rw [hall]; rfl) rfl ?_; try simp only [go_sem])
              (refine aOps_z rfl (by rw [hall]; rfl) rfl ?_; try simp only [go_sem])
              (refine aOps_z rfl (by rw [hall]; rfl) rfl ?_; try simp only [go_sem])
              (refine aOps_z rfl (by rw [hall]; rfl) rfl ?_; try simp only [go_sem])
              repeat ((first | refine aOps_nil ?_ | refine aOps_a rfl rfl rfl ?_); try simp only [go_sem])
              (refine aOps_z rfl (by rw [hall]; rfl) rfl ?_; try simp only [go_sem])
              (refine aOps_z rfl (by rw [hall]; rfl) rfl ?_; try simp only [go_sem])
              (refine aOps_z rfl (by rw [hall]; rfl) rfl ?_; try simp only [go_sem])
              (refine aOps_z rfl (by rw [hall]; rfl) rfl ?_; try simp only [go_sem])
              (refine aOps_z rfl (by rw [hall]; rfl) rfl ?_; try simp only [go_sem])
              (refine aOps_z rfl (by rw [hall]; rfl) rfl ?_; try simp only [go_sem])
              (refine aOps_z rfl (by rw [hall]; rfl) rfl ?_; try simp only [go_sem])
              (refine aOps_z rfl (by rw [hall]; rfl) rfl ?_; try simp only [go_sem])
              (refine aOps_z rfl (by rw [hall]; rfl) rfl ?_; try simp only [go_sem])
              (refine aOps_z rfl (by rw [hall]; rfl) rfl ?_; try simp only [go_sem])
              (refine aOps_z rfl (by rw [hall]; rfl) rfl ?_; try simp only [go_sem])
              repeat ((first | refine aOps_nil ?_ | refine aOps_a rfl rfl rfl ?_); try simp only [go_sem])
              repeat ((first | refine aOps_nil ?_ | refine aOps_a rfl rfl rfl ?_); try simp only [go_sem])
              (apply hKx26; (try clear hKx26 Kx26); try simp only [go_sem])
              (refine WpA.cond rfl (fun hb109 => ?_) (fun hb109 => ?_) <;> try simp only [decide_eq_true_eq, decide_eq_false_iff_not, Bool.not_eq_true', Bool.not_eq_false'] at hb109)
              · skip
                (refine WpA.exit ?_; try simp only [go_sem])
                (apply hKx24; (try clear hKx24 Kx24); try simp only [go_sem])
                refine WpA.reg fun all hall => ?_
                repeat ((first | refine aOps_nil ?_ | refine aOps_a rfl rfl rfl ?_); try simp only [go_sem])
                repeat ((first | refine aOps_nil ?_ | refine aOps_a rfl rfl rfl ?_); try simp only [go_sem])
                rw [wi1 k (by omega)]
                exact ⟨k + 1, ⟨hk, by omega⟩, (by ((try simp only [tpl, List.foldl_cons, List.foldl_nil, List.replicate, List.set_cons_zero, List.set_cons_succ]); repeat (first | exact trivial | refine ⟨.inr rfl, ?_⟩ | refine ⟨.inl rfl, ?_⟩))), rfl⟩
              · skip
                exact absurd hb109 (by decide)
            · skip
              (refine aOps_ya rfl rfl rfl (by rw [hall]; rfl) rfl ?_; try simp only [go_sem])
              (refine aOps_ya rfl rfl rfl (by rw [hall]; rfl) rfl ?_; try simp only [go_sem])
              refine aOps_y rfl rfl (by rw [hall]; rfl) rfl (QK.at rfl Try.underlying22 ti25 rfl (by first | exact .inl rfl | exact .inr (.inl rfl) | exact .inr (.inr rfl)) rfl (encE_get hk) rfl ?_)
              try simp only [go_sem]
              (refine aOps_ya rfl rfl rfl (by rw [hall]; rfl) rfl ?_; try simp only [go_sem])
              (refine aOps_ya rfl rfl rfl (by rw [hall]; rfl) rfl ?_; try simp only [go_sem])
              (refine aOps_ya rfl rfl rfl (by rw [hall]; rfl) rfl ?_; try simp only [go_sem])
              repeat ((first | refine aOps_nil ?_ | refine aOps_a rfl rfl rfl ?_); try simp only [go_sem])
              refine aOps_split (d := 86) rfl (fun hg18_14 => ?_) (fun hg18_14 => ?_) <;> (try simp only [decide_eq_true_eq, decide_eq_false_iff_not] at hg18_14) <;> try simp only [go_sem]
              · skip
                (refine aOps_z rfl (by rw [hall]; rfl) rfl ?_; try simp only [go_sem])
                (refine aOps_z rfl (by rw [hall]; rfl) rfl ?_; try simp only [go_sem])
                (refine aOps_z rfl (by rw [hall]; rfl) rfl ?_; try simp only [go_sem])
                (refine aOps_z rfl (by rw [hall]; rfl) rfl ?_; try simp only [go_sem])
                (refine aOps_z rfl (by rw [hall]; rfl) rfl ?_; try simp only [go_sem])
                (refine aOps_z rfl (by rw [hall]; rfl) rfl ?_; try simp only [go_sem])
                (refine aOps_z rfl (by rw [hall]; rfl) rfl ?_; try simp only [go_sem])
                (refine aOps_z rfl (by rw [hall]; rfl) rfl ?_; try simp only [go_sem])
                (refine aOps_z rfl (by rw [hall]; rfl) rfl ?_; try simp only [go_sem])
                repeat ((first | refine aOps_nil ?_ | refine aOps_a rfl rfl rfl ?_); try simp only [go_sem])
                (refine aOps_z rfl (by rw [hall]; rfl) rfl ?_; try simp only [go_sem])
                (refine aOps_z rfl (by rw [hall]; rfl) rfl ?_; try simp only [go_sem])
                (refine aOps_z rfl (by rw [hall]; rfl) rfl ?_; try simp only [go_sem])
                (refine aOps_z rfl (by rw [hall]; rfl) rfl ?_; try simp only [go_sem])
                (refine aOps_z rfl (by rw [hall]; rfl) rfl ?_; try simp only [go_sem])
                (refine aOps_z rfl (by rw [hall]; rfl) rfl ?_; try simp only [go_sem])
                (refine aOps_z rfl (by rw [hall]; rfl) rfl ?_; try simp only [go_sem])
                (refine aOps_z rfl (by rw [hall]; rfl) rfl ?_; try simp only [go_sem])
                (refine aOps_z rfl (by rw [hall]; rfl) rfl ?_; try simp only [go_sem])
                (refine aOps_z rfl (by rw [hall]; rfl) rfl ?_; try simp only [go_sem])
                (refine aOps_z rfl (by rw [hall]; rfl) rfl ?_; try simp only [go_sem])
                repeat ((first | refine aOps_nil ?_ | refine aOps_a rfl rfl rfl ?_); try simp only [go_sem])
                repeat ((first | refine aOps_nil ?_ | refine aOps_a rfl rfl rfl ?_); try simp only [go_sem])
                (apply hKx26; (try clear hKx26 Kx26); try simp only [go_sem])
                (refine WpA.cond rfl (fun hb109 => ?_) (fun hb109 => ?_) <;> try simp only [decide_eq_true_eq, decide_eq_false_iff_not, Bool.not_eq_true', Bool.not_eq_false'] at hb109)
                · skip
                  (refine WpA.exit ?_; try simp only [go_sem])
                  (apply hKx24; (try clear hKx24 Kx24); try simp only [go_sem])
                  refine WpA.reg fun all hall => ?_
                  repeat ((first | refine aOps_nil ?_ | refine aOps_a rfl rfl rfl ?_); try simp only [go_sem])
                  repeat ((first | refine aOps_nil ?_ | refine aOps_a rfl rfl rfl ?_); try simp only [go_sem])
                  rw [wi1 k (by omega)]
                  exact ⟨k + 1, ⟨hk, by omega⟩, (by ((try simp only [tpl, List.foldl_cons, List.foldl_nil, List.replicate, List.set_cons_zero, List.set_cons_succ]); repeat (first | exact trivial | refine ⟨.inr rfl, ?_⟩ | refine ⟨.inl rfl, ?_⟩))), rfl⟩
                · skip
                  exact absurd hb109 (by decide)
              · skip
                (refine aOps_ya rfl rfl rfl (by rw [hall]; rfl) rfl ?_; try simp only [go_sem])
                (refine aOps_ya rfl rfl rfl (by rw [hall]; rfl) rfl ?_; try simp only [go_sem])
                refine aOps_y rfl rfl (by rw [hall]; rfl) rfl (QK.at rfl Try.underlying39 ti3 rfl (by first | exact .inl rfl | exact .inr (.inl rfl) | exact .inr (.inr rfl)) rfl (encZ_get hia) rfl ?_)
                try simp only [go_sem]
                (refine aOps_ya rfl rfl rfl (by rw [hall]; rfl) rfl ?_; try simp only [go_sem])
                (refine aOps_ya rfl rfl rfl (by rw [hall]; rfl) rfl ?_; try simp only [go_sem])
                (refine aOps_ya rfl rfl rfl (by rw [hall]; rfl) rfl ?_; try simp only [go_sem])
                refine aOps_y rfl rfl (by rw [hall]; rfl) rfl (QK.at rfl Try.underlying39 ti3 rfl (by first | exact .inl rfl | exact .inr (.inl rfl) | exact .inr (.inr rfl)) rfl (encZ_get hka) rfl ?_)
                try simp only [go_sem]
                (refine aOps_ya rfl rfl rfl (by rw [hall]; rfl) rfl ?_; try simp only [go_sem])
                (refine aOps_ya rfl rfl rfl (by rw [hall]; rfl) rfl ?_; try simp only [go_sem])
                repeat ((first | refine aOps_nil ?_ | refine aOps_a rfl rfl rfl ?_); try simp only [go_sem])
                refine aOps_split (d := 97) rfl (fun hg18_25 => ?_) (fun hg18_25 => ?_) <;> (try simp only [decide_eq_true_eq, decide_eq_false_iff_not] at hg18_25) <;> try simp only [go_sem]
                · skip
                  (refine aOps_z rfl (by rw [hall]; rfl) rfl ?_; try simp only [go_sem])
                  (refine aOps_z rfl (by rw [hall]; rfl) rfl ?_; try simp only [go_sem])
                  (refine aOps_z rfl (by rw [hall]; rfl) rfl ?_; try simp only [go_sem])
                  (refine aOps_z rfl (by rw [hall]; rfl) rfl ?_; try simp only [go_sem])
                  (refine aOps_z rfl (by rw [hall]; rfl) rfl ?_; try simp only [go_sem])
                  (refine aOps_z rfl (by rw [hall]; rfl) rfl ?_; try simp only [go_sem])
                  (refine aOps_z rfl (by rw [hall]; rfl) rfl ?_; try simp only [go_sem])
                  (refine aOps_z rfl (by rw [hall]; rfl) rfl ?_; try simp only [go_sem])
                  (refine aOps_z rfl (by rw [hall]; rfl) rfl ?_; try simp only [go_sem])
                  (refine aOps_z rfl (by rw [hall]; rfl) rfl ?_; try simp only [go_sem])
                  (refine aOps_z rfl (by rw [hall]; rfl) rfl ?_; try simp only [go_sem])
                  repeat ((first | refine aOps_nil ?_ | refine aOps_a rfl rfl rfl ?_); try simp only [go_sem])
                  repeat ((first | refine aOps_nil ?_ | refine aOps_a rfl rfl rfl ?_); try simp only [go_sem])
                  (apply hKx26; (try clear hKx26 Kx26); try simp only [go_sem])
                  (refine WpA.cond rfl (fun hb109 => ?_) (fun hb109 => ?_) <;> try simp only [decide_eq_true_eq, decide_eq_false_iff_not, Bool.not_eq_true', Bool.not_eq_false'] at hb109)
                  · skip
                    (refine WpA.exit ?_; try simp only [go_sem])
                    (apply hKx24; (try clear hKx24 Kx24); try simp only [go_sem])
                    refine WpA.reg fun all hall => ?_
                    repeat ((first | refine aOps_nil ?_ | refine aOps_a rfl rfl rfl ?_); try simp only [go_sem])
                    repeat ((first | refine aOps_nil ?_ | refine aOps_a rfl rfl rfl ?_); try simp only [go_sem])
                    rw [wi1 k (by omega)]
                    exact ⟨k + 1, ⟨hk, by omega⟩, (by ((try simp only [tpl, List.foldl_cons, List.foldl_nil, List.replicate, List.set_cons_zero, List.set_cons_succ]); repeat (first | exact trivial | refine ⟨.inr rfl, ?_⟩ | refine ⟨.inl rfl, ?_⟩))), rfl⟩
                  · skip
                    exact absurd hb109 (by decide)
                · skip
                  (refine aOps_ya rfl rfl rfl (by rw [hall]; rfl) rfl ?_; try simp only [go_sem])
                  (refine aOps_ya rfl rfl rfl (by rw [hall]; rfl) rfl ?_; try simp only [go_sem])
                  refine aOps_y rfl rfl (by rw [hall]; rfl) rfl (QK.at rfl Try.underlying22 ti25 rfl (by first | exact .inl rfl | exact .inr (.inl rfl) | exact .inr (.inr rfl)) rfl (encE_get hi) rfl ?_)
                  try simp only [go_sem]
                  (refine aOps_ya rfl rfl rfl (by rw [hall]; rfl) rfl ?_; try simp only [go_sem])
                  (refine aOps_ya rfl rfl rfl (by rw [hall]; rfl) rfl ?_; try simp only [go_sem])
                  (refine aOps_ya rfl rfl rfl (by rw [hall]; rfl) rfl ?_; try simp only [go_sem])
                  (refine aOps_ya rfl rfl rfl (by rw [hall]; rfl) rfl ?_; try simp only [go_sem])
                  refine aOps_y rfl rfl (by rw [hall]; rfl) rfl (QK.at rfl Try.underlying22 ti25 rfl (by first | exact .inl rfl | exact .inr (.inl rfl) | exact .inr (.inr rfl)) rfl (encE_get hk) rfl ?_)
                  try simp only [go_sem]
                  (refine aOps_ya rfl rfl rfl (by rw [hall]; rfl) rfl ?_; try simp only [go_sem])
                  (refine aOps_ya rfl rfl rfl (by rw [hall]; rfl) rfl ?_; try simp only [go_sem])
                  (refine aOps_ya rfl rfl rfl (by rw [hall]; rfl) rfl ?_; try simp only [go_sem])
                  repeat ((first | refine aOps_nil ?_ | refine aOps_a rfl rfl rfl ?_); try simp only [go_sem])
                  repeat ((first | refine aOps_nil ?_ | refine aOps_a rfl rfl rfl ?_); try simp only [go_sem])
                  (apply hKx26; (try clear hKx26 Kx26); try simp only [go_sem])
                  (refine WpA.cond rfl (fun hb109 => ?_) (fun hb109 => ?_) <;> try simp only [decide_eq_true_eq, decide_eq_false_iff_not, Bool.not_eq_true', Bool.not_eq_false'] at hb109)
                  · skip
                    (refine WpA.exit ?_; try simp only [go_sem])
                    (apply hKx24; (try clear hKx24 Kx24); try simp only [go_sem])
                    refine WpA.reg fun all hall => ?_
                    repeat ((first | refine aOps_nil ?_ | refine aOps_a rfl rfl rfl ?_); try simp only [go_sem])
                    repeat ((first | refine aOps_nil ?_ | refine aOps_a rfl rfl rfl ?_); try simp only [go_sem])
                    rw [wi1 k (by omega)]
                    exact ⟨k + 1, ⟨hk, by omega⟩, (by ((try simp only [tpl, List.foldl_cons, List.foldl_nil, List.replicate, List.set_cons_zero, List.set_cons_succ]); repeat (first | exact trivial | refine ⟨.inr rfl, ?_⟩ | refine ⟨.inl rfl, ?_⟩))), rfl⟩
                  · skip
                    have hki : l[i].kind = 1 := by simpa using hg18_6
                    have hkk : l[k].kind = 1 := by simpa using hg18_14
                    have hak : a[i] = a[k] := by simpa using hg18_25
                    have hlk : l[i].loc = l[k].loc := by simpa using hb109
                    have hsame : ∀ w, hN fr i w = hN fr k w := fun w => by
                      rw [Bool.eq_iff_iff, hfr, hfr]
                      simp only [List.getD_eq_getElem?_getD, List.getElem?_eq_getElem hi, List.getElem?_eq_getElem hk, List.getElem?_eq_getElem hia, List.getElem?_eq_getElem hka, Option.getD_some, hki, hkk, hak, hlk, hi, hk]
                    (refine WpA.skip ?_; try simp only [go_sem])
                    (apply hKx25; (try clear hKx25 Kx25); try simp only [go_sem])
                    refine WpA.seq fun Kx27 hKx27 => ?_
                    refine WpA.reg fun all hall => ?_
                    repeat ((first | refine aOps_nil ?_ | refine aOps_a rfl rfl rfl ?_); try simp only [go_sem])
                    repeat ((first | refine aOps_nil ?_ | refine aOps_a rfl rfl rfl ?_); try simp only [go_sem])
                    (apply hKx27; (try clear hKx27 Kx27); try simp only [go_sem])
                    refine WpA.block ?_
                    refine WpA.iter (fun (w : Nat) => w ≤ l.length) (fun (w : Nat) => tpl 137 [(0, .pv (.imm (encE l))), (9, bv true), (13, .pv (.imm (encZ a))), (14, .pv (.imm (encU co))), (15, .pv (.imm (encU fr))), (16, iv i), (17, iv k), (18, iv w)]) (fun (w : Nat) => [.box 30 (exN l)]) (fun (w : Nat) => l.length - w) 0 (by omega) (by ((try simp only [tpl, List.foldl_cons, List.foldl_nil, List.replicate, List.set_cons_zero, List.set_cons_succ]); repeat (first | exact trivial | refine ⟨.inr rfl, ?_⟩ | refine ⟨.inl rfl, ?_⟩))) rfl ?_
                    rintro w hp4
                    simp only [tpl, List.foldl_cons, List.foldl_nil, List.replicate, List.set_cons_zero, List.set_cons_succ]
                    refine WpA.seq fun Kx28 hKx28 => ?_
                    refine WpA.seq fun Kx29 hKx29 => ?_
                    refine WpA.reg fun all hall => ?_
                    repeat ((first | refine aOps_nil ?_ | refine aOps_a rfl rfl rfl ?_); try simp only [go_sem])
                    repeat ((first | refine aOps_nil ?_ | refine aOps_a rfl rfl rfl ?_); try simp only [go_sem])
                    (apply hKx29; (try clear hKx29 Kx29); try simp only [go_sem])
                    (refine WpA.cond rfl (fun hb113 => ?_) (fun hb113 => ?_) <;> try simp only [decide_eq_true_eq, decide_eq_false_iff_not, Bool.not_eq_true', Bool.not_eq_false'] at hb113)
                    · skip
                      have hwl : w < l.length := by omega
                      (refine WpA.skip ?_; try simp only [go_sem])
                      (apply hKx28; (try clear hKx28 Kx28); try simp only [go_sem])
                      refine WpA.seq fun Kx30 hKx30 => ?_
                      refine WpA.block ?_
                      refine WpA.seq fun Kx31 hKx31 => ?_
                      refine WpA.reg fun all hall => ?_
                      repeat ((first | refine aOps_nil ?_ | refine aOps_a rfl rfl rfl ?_); try simp only [go_sem])
                      refine aOps_s rfl rfl (QK.call rfl rfl rfl (has_calls fr i w) (by repeat' (first | exact ConvL.nil | refine ConvL.cons ?_ ?_ | first | exact Conv.pv _ | exact Conv.imm_bor _ | exact Conv.bor _ | exact Conv.tight_imm _ | exact Conv.tight_bor _ | exact Conv.nil_imm | exact Conv.nil_bor | exact Conv.tight _ | exact Conv.at _ | exact Conv.row _ _ _ _ _ _ rfl (by first | rfl | (simp only [go_sem]; done) | (simp []; done) | (simp []; omega) | omega) | exact Conv.bat _ _ _ _ _ rfl rfl | exact Conv.aggp _ _ rfl | refine Conv.fnL _ ?_ | exact Conv.any _)) ?_)
                      try simp only [go_sem]
                      repeat ((first | refine aOps_nil ?_ | refine aOps_a rfl rfl rfl ?_); try simp only [go_sem])
                      refine aOps_s rfl rfl (QK.call rfl rfl rfl (has_calls fr k w) (by repeat' (first | exact ConvL.nil | refine ConvL.cons ?_ ?_ | first | exact Conv.pv _ | exact Conv.imm_bor _ | exact Conv.bor _ | exact Conv.tight_imm _ | exact Conv.tight_bor _ | exact Conv.nil_imm | exact Conv.nil_bor | exact Conv.tight _ | exact Conv.at _ | exact Conv.row _ _ _ _ _ _ rfl (by first | rfl | (simp only [go_sem]; done) | (simp []; done) | (simp []; omega) | omega) | exact Conv.bat _ _ _ _ _ rfl rfl | exact Conv.aggp _ _ rfl | refine Conv.fnL _ ?_ | exact Conv.any _)) ?_)
                      try simp only [go_sem]
                      ((first | refine aOps_nil ?_ | refine aOps_a rfl rfl rfl ?_); try simp only [go_sem])
                      rw [show (hasR fr i w != hasR fr k w) = false from by rw [hhas, hhas, hsame]; simp]
                      repeat ((first | refine aOps_nil ?_ | refine aOps_a rfl rfl rfl ?_); try simp only [go_sem])
                      (apply hKx31; (try clear hKx31 Kx31); try simp only [go_sem])
                      (refine WpA.cond rfl (fun hb124 => ?_) (fun hb124 => ?_) <;> try simp only [decide_eq_true_eq, decide_eq_false_iff_not, Bool.not_eq_true', Bool.not_eq_false'] at hb124)
                      · skip
                        exact absurd hb124 (by decide)
                      · skip
                        (refine WpA.skip ?_; try simp only [go_sem])
                        (apply hKx30; (try clear hKx30 Kx30); try simp only [go_sem])
                        refine WpA.reg fun all hall => ?_
                        repeat ((first | refine aOps_nil ?_ | refine aOps_a rfl rfl rfl ?_); try simp only [go_sem])
                        repeat ((first | refine aOps_nil ?_ | refine aOps_a rfl rfl rfl ?_); try simp only [go_sem])
                        rw [wi1 w (by omega)]
                        exact ⟨w + 1, ⟨hwl, by omega⟩, (by ((try simp only [tpl, List.foldl_cons, List.foldl_nil, List.replicate, List.set_cons_zero, List.set_cons_succ]); repeat (first | exact trivial | refine ⟨.inr rfl, ?_⟩ | refine ⟨.inl rfl, ?_⟩))), rfl⟩
                    · skip
                      (refine WpA.exit ?_; try simp only [go_sem])
                      (apply hKx24; (try clear hKx24 Kx24); try simp only [go_sem])
                      refine WpA.reg fun all hall => ?_
                      repeat ((first | refine aOps_nil ?_ | refine aOps_a rfl rfl rfl ?_); try simp only [go_sem])
                      repeat ((first | refine aOps_nil ?_ | refine aOps_a rfl rfl rfl ?_); try simp only [go_sem])
                      rw [wi1 k (by omega)]
                      exact ⟨k + 1, ⟨hk, by omega⟩, (by ((try simp only [tpl, List.foldl_cons, List.foldl_nil, List.replicate, List.set_cons_zero, List.set_cons_succ]); repeat (first | exact trivial | refine ⟨.inr rfl, ?_⟩ | refine ⟨.inl rfl, ?_⟩))), rfl⟩
          · skip
            (refine WpA.exit ?_; try simp only [go_sem])
            (apply hKx20; (try clear hKx20 Kx20); try simp only [go_sem])
            refine WpA.reg fun all hall => ?_
            repeat ((first | refine aOps_nil ?_ | refine aOps_a rfl rfl rfl ?_); try simp only [go_sem])
            repeat ((first | refine aOps_nil ?_ | refine aOps_a rfl rfl rfl ?_); try simp only [go_sem])
            rw [wi1 i (by omega)]
            exact ⟨i + 1, ⟨hi, by omega⟩, (by ((try simp only [tpl, List.foldl_cons, List.foldl_nil, List.replicate, List.set_cons_zero, List.set_cons_succ]); repeat (first | exact trivial | refine ⟨.inr rfl, ?_⟩ | refine ⟨.inl rfl, ?_⟩))), rfl⟩
        · skip
          (refine WpA.exit ?_; try simp only [go_sem])
          (apply hKx16; (try clear hKx16 Kx16); try simp only [go_sem])
          refine WpA.seq fun Kx32 hKx32 => ?_
          refine WpA.reg fun all hall => ?_
          repeat ((first | refine aOps_nil ?_ | refine aOps_a rfl rfl rfl ?_); try simp only [go_sem])
          refine aOps_split (d := 126) rfl (fun hg24_1 => ?_) (fun hg24_1 => ?_) <;> (try simp only [decide_eq_true_eq, decide_eq_false_iff_not] at hg24_1) <;> try simp only [go_sem]
          · skip
            (refine aOps_ya rfl rfl rfl (by rw [hall]; rfl) rfl ?_; try simp only [go_sem])
            (refine aOps_ya rfl rfl rfl (by rw [hall]; rfl) rfl ?_; try simp only [go_sem])
            refine aOps_y rfl rfl (by rw [hall]; rfl) rfl (QK.call rfl rfl rfl (seq_calls fr co) (by repeat' (first | exact ConvL.nil | refine ConvL.cons ?_ ?_ | first | exact Conv.pv _ | exact Conv.imm_bor _ | exact Conv.bor _ | exact Conv.tight_imm _ | exact Conv.tight_bor _ | exact Conv.nil_imm | exact Conv.nil_bor | exact Conv.tight _ | exact Conv.at _ | exact Conv.row _ _ _ _ _ _ rfl (by first | rfl | (simp only [go_sem]; done) | (simp []; done) | (simp []; omega) | omega) | exact Conv.bat _ _ _ _ _ rfl rfl | exact Conv.aggp _ _ rfl | refine Conv.fnL _ ?_ | exact Conv.any _)) ?_)
            try simp only [go_sem]
            (refine aOps_ya rfl rfl rfl (by rw [hall]; rfl) rfl ?_; try simp only [go_sem])
            refine aOps_y rfl rfl (by rw [hall]; rfl) rfl (QK.call rfl rfl rfl (and_calls _ _) (by repeat' (first | exact ConvL.nil | refine ConvL.cons ?_ ?_ | first | exact Conv.pv _ | exact Conv.imm_bor _ | exact Conv.bor _ | exact Conv.tight_imm _ | exact Conv.tight_bor _ | exact Conv.nil_imm | exact Conv.nil_bor | exact Conv.tight _ | exact Conv.at _ | exact Conv.row _ _ _ _ _ _ rfl (by first | rfl | (simp only [go_sem]; done) | (simp []; done) | (simp []; omega) | omega) | exact Conv.bat _ _ _ _ _ rfl rfl | exact Conv.aggp _ _ rfl | refine Conv.fnL _ ?_ | exact Conv.any _)) ?_)
            try simp only [go_sem]
            (refine aOps_ya rfl rfl rfl (by rw [hall]; rfl) rfl ?_; try simp only [go_sem])
            (refine aOps_ya rfl rfl rfl (by rw [hall]; rfl) rfl ?_; try simp only [go_sem])
            refine aOps_y rfl rfl (by rw [hall]; rfl) rfl (QK.call rfl rfl rfl (seq_calls fr co) (by repeat' (first | exact ConvL.nil | refine ConvL.cons ?_ ?_ | first | exact Conv.pv _ | exact Conv.imm_bor _ | exact Conv.bor _ | exact Conv.tight_imm _ | exact Conv.tight_bor _ | exact Conv.nil_imm | exact Conv.nil_bor | exact Conv.tight _ | exact Conv.at _ | exact Conv.row _ _ _ _ _ _ rfl (by first | rfl | (simp only [go_sem]; done) | (simp []; done) | (simp []; omega) | omega) | exact Conv.bat _ _ _ _ _ rfl rfl | exact Conv.aggp _ _ rfl | refine Conv.fnL _ ?_ | exact Conv.any _)) ?_)
            try simp only [go_sem]
            refine aOps_y rfl rfl (by rw [hall]; rfl) rfl (QK.call rfl rfl rfl (same_calls _ _) (by repeat' (first | exact ConvL.nil | refine ConvL.cons ?_ ?_ | first | exact Conv.pv _ | exact Conv.imm_bor _ | exact Conv.bor _ | exact Conv.tight_imm _ | exact Conv.tight_bor _ | exact Conv.nil_imm | exact Conv.nil_bor | exact Conv.tight _ | exact Conv.at _ | exact Conv.row _ _ _ _ _ _ rfl (by first | rfl | (simp only [go_sem]; done) | (simp []; done) | (simp []; omega) | omega) | exact Conv.bat _ _ _ _ _ rfl rfl | exact Conv.aggp _ _ rfl | refine Conv.fnL _ ?_ | exact Conv.any _)) ?_)
            try simp only [go_sem]
            repeat ((first | refine aOps_nil ?_ | refine aOps_a rfl rfl rfl ?_); try simp only [go_sem])
            repeat ((first | refine aOps_nil ?_ | refine aOps_a rfl rfl rfl ?_); try simp only [go_sem])
            (apply hKx32; (try clear hKx32 Kx32); try simp only [go_sem])
            (refine WpA.ret ?_; try simp only [go_sem])
            exact ret_b rfl hseq
          · skip
            exact absurd hg24_1 (by decide)
end Go.Proofs.Ytfpbdphdahfgbaa
