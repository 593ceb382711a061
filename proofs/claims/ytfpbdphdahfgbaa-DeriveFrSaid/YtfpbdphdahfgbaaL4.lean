/- DeriveFr, walked. -/
import Derived.Test.YtfpbdphdahfgbaaD2
namespace Go.Proofs.Ytfpbdphdahfgbaa
open Go Go.RowKit Go.Proofs.Ytfpbdphdahfgbaa.Fw

set_option maxRecDepth 100000 in
set_option maxHeartbeats 4000000 in
theorem dfr_calls (l : List Ev) (init : List Int) (n1 n2 : Nat) (hn1 : n1 < 65536) (hn2 : n2 < 65536) : PCalls Try.prog 7 [.pv (.imm (encE l)), .pv (.imm (encZ init)), .pv (.val (.int .u16 n1)), .pv (.val (.int .u16 n2))] (.val (bv true)) := by
  refine PCalls.of_body Try.func7 rfl rfl Try.ntmps7 Try.results7 ?_
  simp only [go_sem, List.replicate]
  refine WpA.seq fun Kx1 hKx1 => ?_
  refine WpA.reg fun all hall => ?_
  repeat ((first | refine aOps_nil ?_ | refine aOps_a rfl rfl rfl ?_); try simp only [go_sem])
  repeat ((first | refine aOps_nil ?_ | refine aOps_a rfl rfl rfl ?_); try simp only [go_sem])
  (apply hKx1; (try clear hKx1 Kx1); try simp only [go_sem])
  refine WpA.seq fun Kx2 hKx2 => ?_
  refine WpA.reg fun all hall => ?_
  refine aOps_s rfl rfl (QK.call rfl rfl rfl shown13_calls (by repeat' (first | exact ConvL.nil | refine ConvL.cons ?_ ?_ | first | exact Conv.pv _ | exact Conv.imm_bor _ | exact Conv.bor _ | exact Conv.tight_imm _ | exact Conv.tight_bor _ | exact Conv.nil_imm | exact Conv.nil_bor | exact Conv.tight _ | exact Conv.at _ | exact Conv.row _ _ _ _ _ _ rfl (by first | rfl | (simp only [go_sem]; done) | (simp []; done) | (simp []; omega) | omega) | exact Conv.bat _ _ _ _ _ rfl rfl | exact Conv.aggp _ _ rfl | refine Conv.fnL _ ?_ | exact Conv.any _)) ?_)
  try simp only [go_sem]
  repeat ((first | refine aOps_nil ?_ | refine aOps_a rfl rfl rfl ?_); try simp only [go_sem])
  repeat ((first | refine aOps_nil ?_ | refine aOps_a rfl rfl rfl ?_); try simp only [go_sem])
  (apply hKx2; (try clear hKx2 Kx2); try simp only [go_sem])
  refine WpA.seq fun Kx3 hKx3 => ?_
  refine WpA.seq fun Kx4 hKx4 => ?_
  refine WpA.reg fun all hall => ?_
  repeat ((first | refine aOps_nil ?_ | refine aOps_a rfl rfl rfl ?_); try simp only [go_sem])
  repeat ((first | refine aOps_nil ?_ | refine aOps_a rfl rfl rfl ?_); try simp only [go_sem])
  (apply hKx4; (try clear hKx4 Kx4); try simp only [go_sem])
  (refine WpA.cond rfl (fun hb25 => ?_) (fun hb25 => ?_) <;> try simp only [decide_eq_true_eq, decide_eq_false_iff_not, Bool.not_eq_true', Bool.not_eq_false'] at hb25)
  · skip
    refine WpA.seq fun Kx5 hKx5 => ?_
    refine WpA.reg fun all hall => ?_
    repeat ((first | refine aOps_nil ?_ | refine aOps_a rfl rfl rfl ?_); try simp only [go_sem])
    repeat ((first | refine aOps_nil ?_ | refine aOps_a rfl rfl rfl ?_); try simp only [go_sem])
    (apply hKx5; (try clear hKx5 Kx5); try simp only [go_sem])
    (refine WpA.ret ?_; try simp only [go_sem])
    exact ret_b rfl rfl
  · skip
    have hl : l.length ≤ 8 := by omega
    have hfacts := fun {a : List Int} {co : List (BitVec 32)} => dr_facts (init := init) (a := a) (co := co) hl
    have hsrc := src_calls l s0 init (by omega)
    have hways := call_calls l s0 (by omega)
    (refine WpA.skip ?_; try simp only [go_sem])
    (apply hKx3; (try clear hKx3 Kx3); try simp only [go_sem])
    refine WpA.seq fun Kx6 hKx6 => ?_
    refine WpA.reg fun all hall => ?_
    repeat ((first | refine aOps_nil ?_ | refine aOps_a rfl rfl rfl ?_); try simp only [go_sem])
    refine aOps_s rfl rfl (QK.build (l := [(0, 1), (1, 1), (2, 1), (3, 1), (4, 1), (5, 1), (6, 1)]) rfl Try.underlying30 (by kernel_rfl) ti30 rfl ?_)
    try simp only [go_sem]
    refine aOps_s rfl rfl (QK.alloc rfl ti30 (by kernel_rfl) rfl ?_)
    try simp only [go_sem]
    refine aOps_n rfl (aOp.set rfl rfl rfl rfl ?_ ti30 ?_)
    · exact ⟨rfl, (by first | rfl | (simp only [go_sem]; done) | (simp []; done) | (simp []; omega) | omega)⟩
    try simp only [go_sem]
    repeat ((first | refine aOps_nil ?_ | refine aOps_a rfl rfl rfl ?_); try simp only [go_sem])
    (apply hKx6; (try clear hKx6 Kx6); try simp only [go_sem])
    refine WpA.seq fun Kx7 hKx7 => ?_
    refine WpA.reg fun all hall => ?_
    repeat ((first | refine aOps_nil ?_ | refine aOps_a rfl rfl rfl ?_); try simp only [go_sem])
    refine aOps_s rfl rfl (QK.call rfl rfl rfl hsrc (by repeat' (first | exact ConvL.nil | refine ConvL.cons ?_ ?_ | first | exact Conv.pv _ | exact Conv.imm_bor _ | exact Conv.bor _ | exact Conv.tight_imm _ | exact Conv.tight_bor _ | exact Conv.nil_imm | exact Conv.nil_bor | exact Conv.tight _ | exact Conv.at _ | exact Conv.row _ _ _ _ _ _ rfl (by first | rfl | (simp only [go_sem]; done) | (simp []; done) | (simp []; omega) | omega) | exact Conv.bat _ _ _ _ _ rfl rfl | exact Conv.aggp _ _ rfl | refine Conv.fnL _ ?_ | exact Conv.any _)) ?_)
    try simp only [go_sem]
    repeat ((first | refine aOps_nil ?_ | refine aOps_a rfl rfl rfl ?_); try simp only [go_sem])
    repeat ((first | refine aOps_nil ?_ | refine aOps_a rfl rfl rfl ?_); try simp only [go_sem])
    (apply hKx7; (try clear hKx7 Kx7); try simp only [go_sem])
    refine WpA.seq fun Kx8 hKx8 => ?_
    refine WpA.reg fun all hall => ?_
    repeat ((first | refine aOps_nil ?_ | refine aOps_a rfl rfl rfl ?_); try simp only [go_sem])
    refine aOps_s rfl rfl (QK.call rfl rfl rfl hways (by repeat' (first | exact ConvL.nil | refine ConvL.cons ?_ ?_ | first | exact Conv.pv _ | exact Conv.imm_bor _ | exact Conv.bor _ | exact Conv.tight_imm _ | exact Conv.tight_bor _ | exact Conv.nil_imm | exact Conv.nil_bor | exact Conv.tight _ | exact Conv.at _ | exact Conv.row _ _ _ _ _ _ rfl (by first | rfl | (simp only [go_sem]; done) | (simp []; done) | (simp []; omega) | omega) | exact Conv.bat _ _ _ _ _ rfl rfl | exact Conv.aggp _ _ rfl | refine Conv.fnL _ ?_ | exact Conv.any _)) ?_)
    try simp only [go_sem]
    repeat ((first | refine aOps_nil ?_ | refine aOps_a rfl rfl rfl ?_); try simp only [go_sem])
    repeat ((first | refine aOps_nil ?_ | refine aOps_a rfl rfl rfl ?_); try simp only [go_sem])
    generalize srcE l init = ways at hfacts ⊢
    generalize allE l = cos at hfacts ⊢
    (apply hKx8; (try clear hKx8 Kx8); try simp only [go_sem])
    refine WpA.seq fun Kx9 hKx9 => ?_
    refine WpA.seq fun Kx10 hKx10 => ?_
    refine WpA.reg fun all hall => ?_
    repeat ((first | refine aOps_nil ?_ | refine aOps_a rfl rfl rfl ?_); try simp only [go_sem])
    refine aOps_split (d := 37) rfl (fun hg7_3 => ?_) (fun hg7_3 => ?_) <;> (try simp only [decide_eq_true_eq, decide_eq_false_iff_not] at hg7_3) <;> try simp only [go_sem]
    · skip
      (refine aOps_z rfl (by rw [hall]; rfl) rfl ?_; try simp only [go_sem])
      (refine aOps_z rfl (by rw [hall]; rfl) rfl ?_; try simp only [go_sem])
      (refine aOps_z rfl (by rw [hall]; rfl) rfl ?_; try simp only [go_sem])
      repeat ((first | refine aOps_nil ?_ | refine aOps_a rfl rfl rfl ?_); try simp only [go_sem])
      repeat ((first | refine aOps_nil ?_ | refine aOps_a rfl rfl rfl ?_); try simp only [go_sem])
      (apply hKx10; (try clear hKx10 Kx10); try simp only [go_sem])
      (refine WpA.cond rfl (fun hb41 => ?_) (fun hb41 => ?_) <;> try simp only [decide_eq_true_eq, decide_eq_false_iff_not, Bool.not_eq_true', Bool.not_eq_false'] at hb41)
      · skip
        refine WpA.seq fun Kx11 hKx11 => ?_
        refine WpA.reg fun all hall => ?_
        repeat ((first | refine aOps_nil ?_ | refine aOps_a rfl rfl rfl ?_); try simp only [go_sem])
        repeat ((first | refine aOps_nil ?_ | refine aOps_a rfl rfl rfl ?_); try simp only [go_sem])
        (apply hKx11; (try clear hKx11 Kx11); try simp only [go_sem])
        (refine WpA.ret ?_; try simp only [go_sem])
        exact ret_b rfl rfl
      · skip
        exact absurd hb41 (by decide)
    · skip
      have hw0 : 0 < ways.length := by have h := hg7_3; simp at h; exact List.length_pos_iff.2 h
      (refine aOps_ya rfl rfl rfl (by rw [hall]; rfl) rfl ?_; try simp only [go_sem])
      (refine aOps_ya rfl rfl rfl (by rw [hall]; rfl) rfl ?_; try simp only [go_sem])
      (refine aOps_ya rfl rfl rfl (by rw [hall]; rfl) rfl ?_; try simp only [go_sem])
      repeat ((first | refine aOps_nil ?_ | refine aOps_a rfl rfl rfl ?_); try simp only [go_sem])
      repeat ((first | refine aOps_nil ?_ | refine aOps_a rfl rfl rfl ?_); try simp only [go_sem])
      (apply hKx10; (try clear hKx10 Kx10); try simp only [go_sem])
      (refine WpA.cond rfl (fun hb41 => ?_) (fun hb41 => ?_) <;> try simp only [decide_eq_true_eq, decide_eq_false_iff_not, Bool.not_eq_true', Bool.not_eq_false'] at hb41)
      · skip
        refine WpA.seq fun Kx12 hKx12 => ?_
        refine WpA.reg fun all hall => ?_
        repeat ((first | refine aOps_nil ?_ | refine aOps_a rfl rfl rfl ?_); try simp only [go_sem])
        repeat ((first | refine aOps_nil ?_ | refine aOps_a rfl rfl rfl ?_); try simp only [go_sem])
        (apply hKx12; (try clear hKx12 Kx12); try simp only [go_sem])
        (refine WpA.ret ?_; try simp only [go_sem])
        exact ret_b rfl rfl
      · skip
        have hc0 : 0 < cos.length := by first | (have h := hb41; simp at h; exact List.length_pos_iff.2 h) | exact absurd hb41 (by decide)
        (refine WpA.skip ?_; try simp only [go_sem])
        (apply hKx9; (try clear hKx9 Kx9); try simp only [go_sem])
        refine WpA.seq fun Kx13 hKx13 => ?_
        refine WpA.reg fun all hall => ?_
        ((first | refine aOps_nil ?_ | refine aOps_a rfl rfl rfl ?_); try simp only [go_sem])
        ((first | refine aOps_nil ?_ | refine aOps_a rfl rfl rfl ?_); try simp only [go_sem])
        ((first | refine aOps_nil ?_ | refine aOps_a rfl rfl rfl ?_); try simp only [go_sem])
        rw [wi n1 (by omega)]
        ((first | refine aOps_nil ?_ | refine aOps_a rfl rfl rfl ?_); try simp only [go_sem])
        ((first | refine aOps_nil ?_ | refine aOps_a rfl rfl rfl ?_); try simp only [go_sem])
        ((first | refine aOps_nil ?_ | refine aOps_a rfl rfl rfl ?_); try simp only [go_sem])
        refine ⟨by omega, ?_⟩
        rw [show Int.tmod (n1 : Int) (ways.length : Int) = ((n1 % ways.length : Nat) : Int) from by rw [Int.tmod_eq_emod_of_nonneg (by omega)]; simp]
        have hx : n1 % ways.length < ways.length := Nat.mod_lt _ hw0
        generalize n1 % ways.length = x at hx ⊢
        refine aOps_s rfl rfl (QK.at rfl Try.underlying61 ti39 rfl (by first | exact .inl rfl | exact .inr (.inl rfl) | exact .inr (.inr rfl)) rfl (encL_get hx) rfl ?_)
        try simp only [go_sem]
        repeat ((first | refine aOps_nil ?_ | refine aOps_a rfl rfl rfl ?_); try simp only [go_sem])
        repeat ((first | refine aOps_nil ?_ | refine aOps_a rfl rfl rfl ?_); try simp only [go_sem])
        (apply hKx13; (try clear hKx13 Kx13); try simp only [go_sem])
        refine WpA.seq fun Kx14 hKx14 => ?_
        refine WpA.reg fun all hall => ?_
        ((first | refine aOps_nil ?_ | refine aOps_a rfl rfl rfl ?_); try simp only [go_sem])
        ((first | refine aOps_nil ?_ | refine aOps_a rfl rfl rfl ?_); try simp only [go_sem])
        ((first | refine aOps_nil ?_ | refine aOps_a rfl rfl rfl ?_); try simp only [go_sem])
        rw [wi n2 (by omega)]
        ((first | refine aOps_nil ?_ | refine aOps_a rfl rfl rfl ?_); try simp only [go_sem])
        ((first | refine aOps_nil ?_ | refine aOps_a rfl rfl rfl ?_); try simp only [go_sem])
        ((first | refine aOps_nil ?_ | refine aOps_a rfl rfl rfl ?_); try simp only [go_sem])
        refine ⟨by omega, ?_⟩
        rw [show Int.tmod (n2 : Int) (cos.length : Int) = ((n2 % cos.length : Nat) : Int) from by rw [Int.tmod_eq_emod_of_nonneg (by omega)]; simp]
        have hy : n2 % cos.length < cos.length := Nat.mod_lt _ hc0
        generalize n2 % cos.length = y at hy ⊢
        refine aOps_s rfl rfl (QK.at rfl Try.underlying32 ti27 rfl (by first | exact .inl rfl | exact .inr (.inl rfl) | exact .inr (.inr rfl)) rfl (encW_get hy) rfl ?_)
        try simp only [go_sem]
        repeat ((first | refine aOps_nil ?_ | refine aOps_a rfl rfl rfl ?_); try simp only [go_sem])
        repeat ((first | refine aOps_nil ?_ | refine aOps_a rfl rfl rfl ?_); try simp only [go_sem])
        obtain ⟨hs, f, hc, hw⟩ := hfacts (List.getElem_mem hx) (List.getElem_mem hy)
        generalize ways[x] = a at hs ⊢
        generalize cos[y] = co at hw ⊢
        have hal := hs.len
        have hfr := fr_iff (by omega) hs hc hw
        (apply hKx14; (try clear hKx14 Kx14); try simp only [go_sem])
        refine WpA.seq fun Kx15 hKx15 => ?_
        refine WpA.reg fun all hall => ?_
        repeat ((first | refine aOps_nil ?_ | refine aOps_a rfl rfl rfl ?_); try simp only [go_sem])
        refine aOps_s rfl rfl (QK.call rfl rfl rfl (fr_calls l s0 a co (by omega) hal) (by repeat' (first | exact ConvL.nil | refine ConvL.cons ?_ ?_ | first | exact Conv.pv _ | exact Conv.imm_bor _ | exact Conv.bor _ | exact Conv.tight_imm _ | exact Conv.tight_bor _ | exact Conv.nil_imm | exact Conv.nil_bor | exact Conv.tight _ | exact Conv.at _ | exact Conv.row _ _ _ _ _ _ rfl (by first | rfl | (simp only [go_sem]; done) | (simp []; done) | (simp []; omega) | omega) | exact Conv.bat _ _ _ _ _ rfl rfl | exact Conv.aggp _ _ rfl | refine Conv.fnL _ ?_ | exact Conv.any _)) ?_)
        try simp only [go_sem]
        repeat ((first | refine aOps_nil ?_ | refine aOps_a rfl rfl rfl ?_); try simp only [go_sem])
        repeat ((first | refine aOps_nil ?_ | refine aOps_a rfl rfl rfl ?_); try simp only [go_sem])
        (apply hKx15; (try clear hKx15 Kx15); try simp only [go_sem])
        refine WpA.seq fun Kx16 hKx16 => ?_
        refine WpA.reg fun all hall => ?_
        repeat ((first | refine aOps_nil ?_ | refine aOps_a rfl rfl rfl ?_); try simp only [go_sem])
        refine aOps_s rfl rfl (QK.call rfl rfl rfl (pairs_calls (frE l a co)) (by repeat' (first | exact ConvL.nil | refine ConvL.cons ?_ ?_ | first | exact Conv.pv _ | exact Conv.imm_bor _ | exact Conv.bor _ | exact Conv.tight_imm _ | exact Conv.tight_bor _ | exact Conv.nil_imm | exact Conv.nil_bor | exact Conv.tight _ | exact Conv.at _ | exact Conv.row _ _ _ _ _ _ rfl (by first | rfl | (simp only [go_sem]; done) | (simp []; done) | (simp []; omega) | omega) | exact Conv.bat _ _ _ _ _ rfl rfl | exact Conv.aggp _ _ rfl | refine Conv.fnL _ ?_ | exact Conv.any _)) ?_)
        try simp only [go_sem]
        repeat ((first | refine aOps_nil ?_ | refine aOps_a rfl rfl rfl ?_); try simp only [go_sem])
        repeat ((first | refine aOps_nil ?_ | refine aOps_a rfl rfl rfl ?_); try simp only [go_sem])
        have hmem := mem_pairs (frE l a co)
        have hpl := pairsR_len (frE l a co)
        generalize pairsR (frE l a co) = ps at hmem hpl ⊢
        have hhas := hasR_nat (frE l a co)
        generalize frE l a co = fr at hmem hfr hhas ⊢
        (apply hKx16; (try clear hKx16 Kx16); try simp only [go_sem])
        refine WpA.seq fun Kx17 hKx17 => ?_
        refine WpA.seq fun Kx18 hKx18 => ?_
        refine WpA.reg fun all hall => ?_
        repeat ((first | refine aOps_nil ?_ | refine aOps_a rfl rfl rfl ?_); try simp only [go_sem])
        repeat ((first | refine aOps_nil ?_ | refine aOps_a rfl rfl rfl ?_); try simp only [go_sem])
        (apply hKx18; (try clear hKx18 Kx18); try simp only [go_sem])
        refine WpA.block ?_
        refine WpA.iter (fun (i : Nat) => i ≤ ps.length) (fun (i : Nat) => tpl 205 [(0, .pv (.imm (encE l))), (9, bv true), (13, .pv (.imm (encZ a))), (14, .pv (.imm (encU co))), (15, .pv (.imm (encU fr))), (16, .pv (.imm (encP ps))), (17, iv i)]) (fun (i : Nat) => [.box 30 (exN l)]) (fun (i : Nat) => ps.length - i) 0 (by omega) (by ((try simp only [tpl, List.foldl_cons, List.foldl_nil, List.replicate, List.set_cons_zero, List.set_cons_succ]); repeat (first | exact trivial | refine ⟨.inr rfl, ?_⟩ | refine ⟨.inl rfl, ?_⟩))) rfl ?_
        rintro i hp0
        simp only [tpl, List.foldl_cons, List.foldl_nil, List.replicate, List.set_cons_zero, List.set_cons_succ]
        refine WpA.seq fun Kx19 hKx19 => ?_
        refine WpA.seq fun Kx20 hKx20 => ?_
        refine WpA.reg fun all hall => ?_
        repeat ((first | refine aOps_nil ?_ | refine aOps_a rfl rfl rfl ?_); try simp only [go_sem])
        repeat ((first | refine aOps_nil ?_ | refine aOps_a rfl rfl rfl ?_); try simp only [go_sem])
        (apply hKx20; (try clear hKx20 Kx20); try simp only [go_sem])
        (refine WpA.cond rfl (fun hb68 => ?_) (fun hb68 => ?_) <;> try simp only [decide_eq_true_eq, decide_eq_false_iff_not, Bool.not_eq_true', Bool.not_eq_false'] at hb68)
        · skip
          have hi : i < ps.length := by omega
          have hget := encP_get hi
          have hq := (hmem (ps[i]).1 (ps[i]).2).1 (List.getElem_mem hi)
          generalize ps[i] = q at hget hq
          obtain ⟨r, w⟩ := q
          obtain ⟨hr, hwl, hkr, hkw, hloc, hor⟩ := (hfr r w).1 hq
          have hra : r < a.length := by omega
          simp only [List.getD_eq_getElem?_getD, List.getElem?_eq_getElem hr, List.getElem?_eq_getElem hwl, List.getElem?_eq_getElem hra, Option.getD_some] at hkr hkw hloc hor
          (refine WpA.skip ?_; try simp only [go_sem])
          (apply hKx19; (try clear hKx19 Kx19); try simp only [go_sem])
          refine WpA.seq fun Kx21 hKx21 => ?_
          refine WpA.block ?_
          refine WpA.seq fun Kx22 hKx22 => ?_
          refine WpA.reg fun all hall => ?_
          repeat ((first | refine aOps_nil ?_ | refine aOps_a rfl rfl rfl ?_); try simp only [go_sem])
          refine aOps_s rfl rfl (QK.at rfl Try.underlying64 ti66 rfl (by first | exact .inl rfl | exact .inr (.inl rfl) | exact .inr (.inr rfl)) rfl hget rfl ?_)
          try simp only [go_sem]
          refine aOps_s rfl rfl (QK.iat (i := 0) rfl Try.underlying66 ti3 rfl rfl (by decide) ?_)
          try simp only [go_sem]
          repeat ((first | refine aOps_nil ?_ | refine aOps_a rfl rfl rfl ?_); try simp only [go_sem])
          repeat ((first | refine aOps_nil ?_ | refine aOps_a rfl rfl rfl ?_); try simp only [go_sem])
          (apply hKx22; (try clear hKx22 Kx22); try simp only [go_sem])
          refine WpA.seq fun Kx23 hKx23 => ?_
          refine WpA.reg fun all hall => ?_
          repeat ((first | refine aOps_nil ?_ | refine aOps_a rfl rfl rfl ?_); try simp only [go_sem])
          refine aOps_s rfl rfl (QK.at rfl Try.underlying64 ti66 rfl (by first | exact .inl rfl | exact .inr (.inl rfl) | exact .inr (.inr rfl)) rfl hget rfl ?_)
          try simp only [go_sem]
          refine aOps_s rfl rfl (QK.iat (i := 1) rfl Try.underlying66 ti3 rfl rfl (by decide) ?_)
          try simp only [go_sem]
          repeat ((first | refine aOps_nil ?_ | refine aOps_a rfl rfl rfl ?_); try simp only [go_sem])
          repeat ((first | refine aOps_nil ?_ | refine aOps_a rfl rfl rfl ?_); try simp only [go_sem])
          (apply hKx23; (try clear hKx23 Kx23); try simp only [go_sem])
          refine WpA.seq fun Kx24 hKx24 => ?_
          refine WpA.regD (0 + 1 + 1 + 1 + 1 + 1 + 1 + 1 + 1 + 1 + 1 + 1 + 1 + 1 + 1 + 1 + 1 + 1 + 1 + 1 + 1 + 1 + 1 + 1 + 1 + 1 + 1 + 1 + 1 + 1 + 1 + 1 + 1 + 1 + 1 + 1 + 1 + 1 + 1 + 1 + 1 + 1 + 1 + 1 + 1 + 1 + 1 + 1 + 1) mixed (by kernel_rfl) fun all hall => ?_
          repeat ((first | refine aOps_nil ?_ | refine aOps_a rfl rfl rfl ?_); try simp only [go_sem])
          refine aOps_s rfl rfl (QK.at rfl Try.underlying22 ti25 rfl (by first | exact .inl rfl | exact .inr (.inl rfl) | exact .inr (.inr rfl)) rfl (encE_get hr) rfl ?_)
          try simp only [go_sem]
          ((first | refine aOps_nil ?_ | refine aOps_a rfl rfl rfl ?_); try simp only [go_sem])
          ((first | refine aOps_nil ?_ | refine aOps_a rfl rfl rfl ?_); try simp only [go_sem])
          ((first | refine aOps_nil ?_ | refine aOps_a rfl rfl rfl ?_); try simp only [go_sem])
          rw [show (l[r].kind != 1) = false from by simp [hkr]]
          repeat ((first | refine aOps_nil ?_ | refine aOps_a rfl rfl rfl ?_); try simp only [go_sem])
          (refine aOps_ya rfl rfl rfl (by rw [hall]; rfl) rfl ?_; try simp only [go_sem])
          (refine aOps_ya rfl rfl rfl (by rw [hall]; rfl) rfl ?_; try simp only [go_sem])
          refine aOps_y rfl rfl (by rw [hall]; rfl) rfl (QK.at rfl Try.underlying22 ti25 rfl (by first | exact .inl rfl | exact .inr (.inl rfl) | exact .inr (.inr rfl)) rfl (encE_get hwl) rfl ?_)
          try simp only [go_sem]
          (refine aOps_ya rfl rfl rfl (by rw [hall]; rfl) rfl ?_; try simp only [go_sem])
          (refine aOps_ya rfl rfl rfl (by rw [hall]; rfl) rfl ?_; try simp only [go_sem])
          (refine aOps_ya rfl rfl rfl (by rw [hall]; rfl) rfl ?_; try simp only [go_sem])
          rw [show (l[w].kind != 2) = false from by simp [hkw]]
          repeat ((first | refine aOps_nil ?_ | refine aOps_a rfl rfl rfl ?_); try simp only [go_sem])
          (refine aOps_ya rfl rfl rfl (by rw [hall]; rfl) rfl ?_; try simp only [go_sem])
          (refine aOps_ya rfl rfl rfl (by rw [hall]; rfl) rfl ?_; try simp only [go_sem])
          refine aOps_y rfl rfl (by rw [hall]; rfl) rfl (QK.at rfl Try.underlying22 ti25 rfl (by first | exact .inl rfl | exact .inr (.inl rfl) | exact .inr (.inr rfl)) rfl (encE_get hr) rfl ?_)
          try simp only [go_sem]
          (refine aOps_ya rfl rfl rfl (by rw [hall]; rfl) rfl ?_; try simp only [go_sem])
          (refine aOps_ya rfl rfl rfl (by rw [hall]; rfl) rfl ?_; try simp only [go_sem])
          (refine aOps_ya rfl rfl rfl (by rw [hall]; rfl) rfl ?_; try simp only [go_sem])
          (refine aOps_ya rfl rfl rfl (by rw [hall]; rfl) rfl ?_; try simp only [go_sem])
          refine aOps_y rfl rfl (by rw [hall]; rfl) rfl (QK.at rfl Try.underlying22 ti25 rfl (by first | exact .inl rfl | exact .inr (.inl rfl) | exact .inr (.inr rfl)) rfl (encE_get hwl) rfl ?_)
          try simp only [go_sem]
          (refine aOps_ya rfl rfl rfl (by rw [hall]; rfl) rfl ?_; try simp only [go_sem])
          (refine aOps_ya rfl rfl rfl (by rw [hall]; rfl) rfl ?_; try simp only [go_sem])
          (refine aOps_ya rfl rfl rfl (by rw [hall]; rfl) rfl ?_; try simp only [go_sem])
          rw [show (l[r].loc != l[w].loc) = false from by simp [hloc]]
          repeat ((first | refine aOps_nil ?_ | refine aOps_a rfl rfl rfl ?_); try simp only [go_sem])
          (refine aOps_ya rfl rfl rfl (by rw [hall]; rfl) rfl ?_; try simp only [go_sem])
          (refine aOps_ya rfl rfl rfl (by rw [hall]; rfl) rfl ?_; try simp only [go_sem])
          refine aOps_y rfl rfl (by rw [hall]; rfl) rfl (QK.at rfl Try.underlying39 ti3 rfl (by first | exact .inl rfl | exact .inr (.inl rfl) | exact .inr (.inr rfl)) rfl (encZ_get hra) rfl ?_)
          try simp only [go_sem]
          (refine aOps_ya rfl rfl rfl (by rw [hall]; rfl) rfl ?_; try simp only [go_sem])
          (refine aOps_ya rfl rfl rfl (by rw [hall]; rfl) rfl ?_; try simp only [go_sem])
          (refine aOps_ya rfl rfl rfl (by rw [hall]; rfl) rfl ?_; try simp only [go_sem])
          rw [show (a[r] == (w : Int)) = false from by
            rcases hor with h | ⟨j, h, h'⟩
            · rw [h]; simp
            · rw [h]
              have : j ≠ w := by rintro rfl; exact way_irr hc hw _ h'
              simp; omega]
          repeat ((first | refine aOps_nil ?_ | refine aOps_a rfl rfl rfl ?_); try simp only [go_sem])
          (refine aOps_ya rfl rfl rfl (by rw [hall]; rfl) rfl ?_; try simp only [go_sem])
          (refine aOps_ya rfl rfl rfl (by rw [hall]; rfl) rfl ?_; try simp only [go_sem])
          refine aOps_y rfl rfl (by rw [hall]; rfl) rfl (QK.at rfl Try.underlying39 ti3 rfl (by first | exact .inl rfl | exact .inr (.inl rfl) | exact .inr (.inr rfl)) rfl (encZ_get hra) rfl ?_)
          try simp only [go_sem]
          (refine aOps_ya rfl rfl rfl (by rw [hall]; rfl) rfl ?_; try simp only [go_sem])
          (refine aOps_ya rfl rfl rfl (by rw [hall]; rfl) rfl ?_; try simp only [go_sem])
          (refine aOps_ya rfl rfl rfl (by rw [hall]; rfl) rfl ?_; try simp only [go_sem])
          refine aOps_split (d := 122) rfl (fun hg18_41 => ?_) (fun hg18_41 => ?_) <;> (try simp only [decide_eq_true_eq, decide_eq_false_iff_not] at hg18_41) <;> try simp only [go_sem]
          · skip
            (refine aOps_ya rfl rfl rfl (by rw [hall]; rfl) rfl ?_; try simp only [go_sem])
            (refine aOps_ya rfl rfl rfl (by rw [hall]; rfl) rfl ?_; try simp only [go_sem])
            (refine aOps_ya rfl rfl rfl (by rw [hall]; rfl) rfl ?_; try simp only [go_sem])
            refine aOps_y rfl rfl (by rw [hall]; rfl) rfl (QK.at rfl Try.underlying39 ti3 rfl (by first | exact .inl rfl | exact .inr (.inl rfl) | exact .inr (.inr rfl)) rfl (encZ_get hra) rfl ?_)
            try simp only [go_sem]
            (refine aOps_ya rfl rfl rfl (by rw [hall]; rfl) rfl ?_; try simp only [go_sem])
            (refine aOps_ya rfl rfl rfl (by rw [hall]; rfl) rfl ?_; try simp only [go_sem])
            refine aOps_y rfl rfl (by rw [hall]; rfl) rfl (QK.call rfl rfl rfl (has_calls co a[r] w) (by repeat' (first | exact ConvL.nil | refine ConvL.cons ?_ ?_ | first | exact Conv.pv _ | exact Conv.imm_bor _ | exact Conv.bor _ | exact Conv.tight_imm _ | exact Conv.tight_bor _ | exact Conv.nil_imm | exact Conv.nil_bor | exact Conv.tight _ | exact Conv.at _ | exact Conv.row _ _ _ _ _ _ rfl (by first | rfl | (simp only [go_sem]; done) | (simp []; done) | (simp []; omega) | omega) | exact Conv.bat _ _ _ _ _ rfl rfl | exact Conv.aggp _ _ rfl | refine Conv.fnL _ ?_ | exact Conv.any _)) ?_)
            try simp only [go_sem]
            (refine aOps_ya rfl rfl rfl (by rw [hall]; rfl) rfl ?_; try simp only [go_sem])
            rw [show (!hasR co a[r] w) = false from by
              rcases hor with h | ⟨j, h, h'⟩
              · omega
              · rw [h, hasR_nat, h']; rfl]
            (refine aOps_ya rfl rfl rfl (by rw [hall]; rfl) rfl ?_; try simp only [go_sem])
            repeat ((first | refine aOps_nil ?_ | refine aOps_a rfl rfl rfl ?_); try simp only [go_sem])
            repeat ((first | refine aOps_nil ?_ | refine aOps_a rfl rfl rfl ?_); try simp only [go_sem])
            (apply hKx24; (try clear hKx24 Kx24); try simp only [go_sem])
            (refine WpA.cond rfl (fun hb132 => ?_) (fun hb132 => ?_) <;> try simp only [decide_eq_true_eq, decide_eq_false_iff_not, Bool.not_eq_true', Bool.not_eq_false'] at hb132)
            · skip
              exact absurd hb132 (by decide)
            · skip
              (refine WpA.skip ?_; try simp only [go_sem])
              (apply hKx21; (try clear hKx21 Kx21); try simp only [go_sem])
              refine WpA.reg fun all hall => ?_
              repeat ((first | refine aOps_nil ?_ | refine aOps_a rfl rfl rfl ?_); try simp only [go_sem])
              repeat ((first | refine aOps_nil ?_ | refine aOps_a rfl rfl rfl ?_); try simp only [go_sem])
              rw [wi1 i (by omega)]
              exact ⟨i + 1, ⟨hi, by omega⟩, (by ((try simp only [tpl, List.foldl_cons, List.foldl_nil, List.replicate, List.set_cons_zero, List.set_cons_succ]); repeat (first | exact trivial | refine ⟨.inr rfl, ?_⟩ | refine ⟨.inl rfl, ?_⟩))), rfl⟩
          · skip
            (refine aOps_z rfl (by rw [hall]; rfl) rfl ?_; try simp only [go_sem])
            (refine aOps_z rfl (by rw [hall]; rfl) rfl ?_; try simp only [go_sem])
            (refine aOps_z rfl (by rw [hall]; rfl) rfl ?_; try simp only [go_sem])
            (refine aOps_z rfl (by rw [hall]; rfl) rfl ?_; try simp only [go_sem])
            (refine aOps_z rfl (by rw [hall]; rfl) rfl ?_; try simp only [go_sem])
            (refine aOps_z rfl (by rw [hall]; rfl) rfl ?_; try simp only [go_sem])
            (refine aOps_z rfl (by rw [hall]; rfl) rfl ?_; try simp only [go_sem])
            (refine aOps_z rfl (by rw [hall]; rfl) rfl ?_; try simp only [go_sem])
            (refine aOps_ya rfl rfl rfl (by rw [hall]; rfl) rfl ?_; try simp only [go_sem])
            repeat ((first | refine aOps_nil ?_ | refine aOps_a rfl rfl rfl ?_); try simp only [go_sem])
            repeat ((first | refine aOps_nil ?_ | refine aOps_a rfl rfl rfl ?_); try simp only [go_sem])
            (apply hKx24; (try clear hKx24 Kx24); try simp only [go_sem])
            (refine WpA.cond rfl (fun hb132 => ?_) (fun hb132 => ?_) <;> try simp only [decide_eq_true_eq, decide_eq_false_iff_not, Bool.not_eq_true', Bool.not_eq_false'] at hb132)
            · skip
              exact absurd hb132 (by decide)
            · skip
              (refine WpA.skip ?_; try simp only [go_sem])
              (apply hKx21; (try clear hKx21 Kx21); try simp only [go_sem])
              refine WpA.reg fun all hall => ?_
              repeat ((first | refine aOps_nil ?_ | refine aOps_a rfl rfl rfl ?_); try simp only [go_sem])
              repeat ((first | refine aOps_nil ?_ | refine aOps_a rfl rfl rfl ?_); try simp only [go_sem])
              rw [wi1 i (by omega)]
              exact ⟨i + 1, ⟨hi, by omega⟩, (by ((try simp only [tpl, List.foldl_cons, List.foldl_nil, List.replicate, List.set_cons_zero, List.set_cons_succ]); repeat (first | exact trivial | refine ⟨.inr rfl, ?_⟩ | refine ⟨.inl rfl, ?_⟩))), rfl⟩
        · skip
          (refine WpA.exit ?_; try simp only [go_sem])
          (apply hKx17; (try clear hKx17 Kx17); try simp only [go_sem])
          refine WpA.seq fun Kx25 hKx25 => ?_
          refine WpA.seq fun Kx26 hKx26 => ?_
          refine WpA.reg fun all hall => ?_
          repeat ((first | refine aOps_nil ?_ | refine aOps_a rfl rfl rfl ?_); try simp only [go_sem])
          repeat ((first | refine aOps_nil ?_ | refine aOps_a rfl rfl rfl ?_); try simp only [go_sem])
          (apply hKx26; (try clear hKx26 Kx26); try simp only [go_sem])
          refine WpA.block ?_
          refine WpA.iter (fun (r : Nat) => r ≤ l.length) (fun (r : Nat) => tpl 205 [(0, .pv (.imm (encE l))), (9, bv true), (13, .pv (.imm (encZ a))), (14, .pv (.imm (encU co))), (15, .pv (.imm (encU fr))), (20, iv r)]) (fun (r : Nat) => [.box 30 (exN l)]) (fun (r : Nat) => l.length - r) 0 (by omega) (by ((try simp only [tpl, List.foldl_cons, List.foldl_nil, List.replicate, List.set_cons_zero, List.set_cons_succ]); repeat (first | exact trivial | refine ⟨.inr rfl, ?_⟩ | refine ⟨.inl rfl, ?_⟩))) rfl ?_
          rintro r hp2
          simp only [tpl, List.foldl_cons, List.foldl_nil, List.replicate, List.set_cons_zero, List.set_cons_succ]
          refine WpA.seq fun Kx27 hKx27 => ?_
          refine WpA.seq fun Kx28 hKx28 => ?_
          refine WpA.reg fun all hall => ?_
          repeat ((first | refine aOps_nil ?_ | refine aOps_a rfl rfl rfl ?_); try simp only [go_sem])
          repeat ((first | refine aOps_nil ?_ | refine aOps_a rfl rfl rfl ?_); try simp only [go_sem])
          (apply hKx28; (try clear hKx28 Kx28); try simp only [go_sem])
          (refine WpA.cond rfl (fun hb136 => ?_) (fun hb136 => ?_) <;> try simp only [decide_eq_true_eq, decide_eq_false_iff_not, Bool.not_eq_true', Bool.not_eq_false'] at hb136)
          · skip
            have hr : r < l.length := by omega
            have hra : r < a.length := by omega
            (refine WpA.skip ?_; try simp only [go_sem])
            (apply hKx27; (try clear hKx27 Kx27); try simp only [go_sem])
            refine WpA.seq fun Kx29 hKx29 => ?_
            refine WpA.block ?_
            refine WpA.seq fun Kx30 hKx30 => ?_
            refine WpA.reg fun all hall => ?_
            repeat ((first | refine aOps_nil ?_ | refine aOps_a rfl rfl rfl ?_); try simp only [go_sem])
            repeat ((first | refine aOps_nil ?_ | refine aOps_a rfl rfl rfl ?_); try simp only [go_sem])
            (apply hKx30; (try clear hKx30 Kx30); try simp only [go_sem])
            refine WpA.block ?_
            refine WpA.iter (fun (w : Nat) => w ≤ l.length) (fun (w : Nat) => tpl 205 [(0, .pv (.imm (encE l))), (9, bv true), (13, .pv (.imm (encZ a))), (14, .pv (.imm (encU co))), (15, .pv (.imm (encU fr))), (20, iv r), (21, iv w)]) (fun (w : Nat) => [.box 30 (exN l)]) (fun (w : Nat) => l.length - w) 0 (by omega) (by ((try simp only [tpl, List.foldl_cons, List.foldl_nil, List.replicate, List.set_cons_zero, List.set_cons_succ]); repeat (first | exact trivial | refine ⟨.inr rfl, ?_⟩ | refine ⟨.inl rfl, ?_⟩))) rfl ?_
            rintro w hp4
            simp only [tpl, List.foldl_cons, List.foldl_nil, List.replicate, List.set_cons_zero, List.set_cons_succ]
            refine WpA.seq fun Kx31 hKx31 => ?_
            refine WpA.seq fun Kx32 hKx32 => ?_
            refine WpA.reg fun all hall => ?_
            repeat ((first | refine aOps_nil ?_ | refine aOps_a rfl rfl rfl ?_); try simp only [go_sem])
            repeat ((first | refine aOps_nil ?_ | refine aOps_a rfl rfl rfl ?_); try simp only [go_sem])
            (apply hKx32; (try clear hKx32 Kx32); try simp only [go_sem])
            (refine WpA.cond rfl (fun hb142 => ?_) (fun hb142 => ?_) <;> try simp only [decide_eq_true_eq, decide_eq_false_iff_not, Bool.not_eq_true', Bool.not_eq_false'] at hb142)
            · skip
              have hwl : w < l.length := by omega
              have hfrw := hfr r w
              have hread := hs.read r hr
              simp only [List.getD_eq_getElem?_getD, List.getElem?_eq_getElem hr, List.getElem?_eq_getElem hwl, List.getElem?_eq_getElem hra, Option.getD_some] at hfrw hread
              (refine WpA.skip ?_; try simp only [go_sem])
              (apply hKx31; (try clear hKx31 Kx31); try simp only [go_sem])
              refine WpA.seq fun Kx33 hKx33 => ?_
              refine WpA.block ?_
              refine WpA.mid (fun (u : Nat) => True) (fun (u : Nat) => tpl 205 [(0, .pv (.imm (encE l))), (9, bv true), (13, .pv (.imm (encZ a))), (14, .pv (.imm (encU co))), (15, .pv (.imm (encU fr))), (20, iv r), (21, iv w), (203, bv false)]) (fun (u : Nat) => [.box 30 (exN l)]) ?_ ?_
              · skip
                refine WpA.regD (0 + 1 + 1 + 1 + 1 + 1 + 1 + 1 + 1 + 1 + 1 + 1 + 1 + 1 + 1 + 1 + 1 + 1 + 1 + 1 + 1 + 1 + 1 + 1 + 1 + 1 + 1 + 1 + 1 + 1 + 1 + 1 + 1 + 1 + 1 + 1 + 1 + 1 + 1 + 1 + 1 + 1 + 1 + 1 + 1 + 1 + 1 + 1 + 1 + 1 + 1 + 1 + 1 + 1 + 1 + 1) mixed (by kernel_rfl) fun all hall => ?_
                repeat ((first | refine aOps_nil ?_ | refine aOps_a rfl rfl rfl ?_); try simp only [go_sem])
                refine aOps_s rfl rfl (QK.at rfl Try.underlying22 ti25 rfl (by first | exact .inl rfl | exact .inr (.inl rfl) | exact .inr (.inr rfl)) rfl (encE_get hr) rfl ?_)
                try simp only [go_sem]
                repeat ((first | refine aOps_nil ?_ | refine aOps_a rfl rfl rfl ?_); try simp only [go_sem])
                refine aOps_split (d := 151) rfl (fun hg26_6 => ?_) (fun hg26_6 => ?_) <;> (try simp only [decide_eq_true_eq, decide_eq_false_iff_not] at hg26_6) <;> try simp only [go_sem]
                · skip
                  (refine aOps_ya rfl rfl rfl (by rw [hall]; rfl) rfl ?_; try simp only [go_sem])
                  (refine aOps_ya rfl rfl rfl (by rw [hall]; rfl) rfl ?_; try simp only [go_sem])
                  refine aOps_y rfl rfl (by rw [hall]; rfl) rfl (QK.at rfl Try.underlying22 ti25 rfl (by first | exact .inl rfl | exact .inr (.inl rfl) | exact .inr (.inr rfl)) rfl (encE_get hwl) rfl ?_)
                  try simp only [go_sem]
                  (refine aOps_ya rfl rfl rfl (by rw [hall]; rfl) rfl ?_; try simp only [go_sem])
                  (refine aOps_ya rfl rfl rfl (by rw [hall]; rfl) rfl ?_; try simp only [go_sem])
                  (refine aOps_ya rfl rfl rfl (by rw [hall]; rfl) rfl ?_; try simp only [go_sem])
                  repeat ((first | refine aOps_nil ?_ | refine aOps_a rfl rfl rfl ?_); try simp only [go_sem])
                  refine aOps_split (d := 159) rfl (fun hg26_14 => ?_) (fun hg26_14 => ?_) <;> (try simp only [decide_eq_true_eq, decide_eq_false_iff_not] at hg26_14) <;> try simp only [go_sem]
                  · skip
                    (refine aOps_ya rfl rfl rfl (by rw [hall]; rfl) rfl ?_; try simp only [go_sem])
                    (refine aOps_ya rfl rfl rfl (by rw [hall]; rfl) rfl ?_; try simp only [go_sem])
                    refine aOps_y rfl rfl (by rw [hall]; rfl) rfl (QK.at rfl Try.underlying22 ti25 rfl (by first | exact .inl rfl | exact .inr (.inl rfl) | exact .inr (.inr rfl)) rfl (encE_get hr) rfl ?_)
                    try simp only [go_sem]
                    (refine aOps_ya rfl rfl rfl (by rw [hall]; rfl) rfl ?_; try simp only [go_sem])
                    (refine aOps_ya rfl rfl rfl (by rw [hall]; rfl) rfl ?_; try simp only [go_sem])
                    (refine aOps_ya rfl rfl rfl (by rw [hall]; rfl) rfl ?_; try simp only [go_sem])
                    (refine aOps_ya rfl rfl rfl (by rw [hall]; rfl) rfl ?_; try simp only [go_sem])
                    refine aOps_y rfl rfl (by rw [hall]; rfl) rfl (QK.at rfl Try.underlying22 ti25 rfl (by first | exact .inl rfl | exact .inr (.inl rfl) | exact .inr (.inr rfl)) rfl (encE_get hwl) rfl ?_)
                    try simp only [go_sem]
                    (refine aOps_ya rfl rfl rfl (by rw [hall]; rfl) rfl ?_; try simp only [go_sem])
                    (refine aOps_ya rfl rfl rfl (by rw [hall]; rfl) rfl ?_; try simp only [go_sem])
                    (refine aOps_ya rfl rfl rfl (by rw [hall]; rfl) rfl ?_; try simp only [go_sem])
                    repeat ((first | refine aOps_nil ?_ | refine aOps_a rfl rfl rfl ?_); try simp only [go_sem])
                    refine aOps_split (d := 172) rfl (fun hg26_27 => ?_) (fun hg26_27 => ?_) <;> (try simp only [decide_eq_true_eq, decide_eq_false_iff_not] at hg26_27) <;> try simp only [go_sem]
                    · skip
                      (refine aOps_ya rfl rfl rfl (by rw [hall]; rfl) rfl ?_; try simp only [go_sem])
                      (refine aOps_ya rfl rfl rfl (by rw [hall]; rfl) rfl ?_; try simp only [go_sem])
                      (refine aOps_ya rfl rfl rfl (by rw [hall]; rfl) rfl ?_; try simp only [go_sem])
                      refine aOps_y rfl rfl (by rw [hall]; rfl) rfl (QK.call rfl rfl rfl (has_calls fr r w) (by repeat' (first | exact ConvL.nil | refine ConvL.cons ?_ ?_ | first | exact Conv.pv _ | exact Conv.imm_bor _ | exact Conv.bor _ | exact Conv.tight_imm _ | exact Conv.tight_bor _ | exact Conv.nil_imm | exact Conv.nil_bor | exact Conv.tight _ | exact Conv.at _ | exact Conv.row _ _ _ _ _ _ rfl (by first | rfl | (simp only [go_sem]; done) | (simp []; done) | (simp []; omega) | omega) | exact Conv.bat _ _ _ _ _ rfl rfl | exact Conv.aggp _ _ rfl | refine Conv.fnL _ ?_ | exact Conv.any _)) ?_)
                      try simp only [go_sem]
                      (refine aOps_ya rfl rfl rfl (by rw [hall]; rfl) rfl ?_; try simp only [go_sem])
                      repeat ((first | refine aOps_nil ?_ | refine aOps_a rfl rfl rfl ?_); try simp only [go_sem])
                      refine aOps_split (d := 179) rfl (fun hg26_34 => ?_) (fun hg26_34 => ?_) <;> (try simp only [decide_eq_true_eq, decide_eq_false_iff_not] at hg26_34) <;> try simp only [go_sem]
                      · skip
                        have hkr : l[r].kind = 1 := by simpa using hg26_6
                        have hkw : l[w].kind = 2 := by simpa using hg26_14
                        have hloc : l[r].loc = l[w].loc := by simpa using hg26_27
                        have hno : hN fr r w = false := by rw [← hhas]; simpa using hg26_34
                        have hrd := hread hkr
                        (refine aOps_ya rfl rfl rfl (by rw [hall]; rfl) rfl ?_; try simp only [go_sem])
                        (refine aOps_ya rfl rfl rfl (by rw [hall]; rfl) rfl ?_; try simp only [go_sem])
                        refine aOps_y rfl rfl (by rw [hall]; rfl) rfl (QK.at rfl Try.underlying39 ti3 rfl (by first | exact .inl rfl | exact .inr (.inl rfl) | exact .inr (.inr rfl)) rfl (encZ_get hra) rfl ?_)
                        try simp only [go_sem]
                        (refine aOps_ya rfl rfl rfl (by rw [hall]; rfl) rfl ?_; try simp only [go_sem])
                        (refine aOps_ya rfl rfl rfl (by rw [hall]; rfl) rfl ?_; try simp only [go_sem])
                        (refine aOps_ya rfl rfl rfl (by rw [hall]; rfl) rfl ?_; try simp only [go_sem])
                        repeat ((first | refine aOps_nil ?_ | refine aOps_a rfl rfl rfl ?_); try simp only [go_sem])
                        refine aOps_split (d := 187) rfl (fun hg26_42 => ?_) (fun hg26_42 => ?_) <;> (try simp only [decide_eq_true_eq, decide_eq_false_iff_not] at hg26_42) <;> try simp only [go_sem]
                        · skip
                          (refine aOps_ya rfl rfl rfl (by rw [hall]; rfl) rfl ?_; try simp only [go_sem])
                          (refine aOps_ya rfl rfl rfl (by rw [hall]; rfl) rfl ?_; try simp only [go_sem])
                          refine aOps_y rfl rfl (by rw [hall]; rfl) rfl (QK.at rfl Try.underlying39 ti3 rfl (by first | exact .inl rfl | exact .inr (.inl rfl) | exact .inr (.inr rfl)) rfl (encZ_get hra) rfl ?_)
                          try simp only [go_sem]
                          (refine aOps_ya rfl rfl rfl (by rw [hall]; rfl) rfl ?_; try simp only [go_sem])
                          (refine aOps_ya rfl rfl rfl (by rw [hall]; rfl) rfl ?_; try simp only [go_sem])
                          (refine aOps_ya rfl rfl rfl (by rw [hall]; rfl) rfl ?_; try simp only [go_sem])
                          refine aOps_split (d := 193) rfl (fun hg26_48 => ?_) (fun hg26_48 => ?_) <;> (try simp only [decide_eq_true_eq, decide_eq_false_iff_not] at hg26_48) <;> try simp only [go_sem]
                          · skip
                            exfalso
                            have : a[r] = -1 := by
                              rcases hrd with h | ⟨j, h, _⟩
                              · exact h
                              · omega
                            rw [hfrw.2 ⟨hr, hwl, hkr, hkw, hloc.symm, .inl this⟩] at hno; cases hno
                          · skip
                            (refine aOps_ya rfl rfl rfl (by rw [hall]; rfl) rfl ?_; try simp only [go_sem])
                            (refine aOps_ya rfl rfl rfl (by rw [hall]; rfl) rfl ?_; try simp only [go_sem])
                            (refine aOps_ya rfl rfl rfl (by rw [hall]; rfl) rfl ?_; try simp only [go_sem])
                            (refine aOps_ya rfl rfl rfl (by rw [hall]; rfl) rfl ?_; try simp only [go_sem])
                            refine aOps_y rfl rfl (by rw [hall]; rfl) rfl (QK.at rfl Try.underlying39 ti3 rfl (by first | exact .inl rfl | exact .inr (.inl rfl) | exact .inr (.inr rfl)) rfl (encZ_get hra) rfl ?_)
                            try simp only [go_sem]
                            (refine aOps_ya rfl rfl rfl (by rw [hall]; rfl) rfl ?_; try simp only [go_sem])
                            refine aOps_y rfl rfl (by rw [hall]; rfl) rfl (QK.call rfl rfl rfl (has_calls co w a[r]) (by repeat' (first | exact ConvL.nil | refine ConvL.cons ?_ ?_ | first | exact Conv.pv _ | exact Conv.imm_bor _ | exact Conv.bor _ | exact Conv.tight_imm _ | exact Conv.tight_bor _ | exact Conv.nil_imm | exact Conv.nil_bor | exact Conv.tight _ | exact Conv.at _ | exact Conv.row _ _ _ _ _ _ rfl (by first | rfl | (simp only [go_sem]; done) | (simp []; done) | (simp []; omega) | omega) | exact Conv.bat _ _ _ _ _ rfl rfl | exact Conv.aggp _ _ rfl | refine Conv.fnL _ ?_ | exact Conv.any _)) ?_)
                            try simp only [go_sem]
                            (refine aOps_ya rfl rfl rfl (by rw [hall]; rfl) rfl ?_; try simp only [go_sem])
                            rw [show (!hasR co w a[r]) = false from by
                              rcases hrd with h | ⟨j, h, hj, hkj, hlj⟩
                              · omega
                              · rw [h, hasR_nat]
                                have hne : j ≠ w := by rintro rfl; simp [h] at hg26_42
                                have ej : l.getD j default = l[j] := by simp [hj]
                                have ew : l.getD w default = l[w] := by simp [hwl]
                                have hkj' : l[j].kind = 2 := by simpa [hj] using hkj
                                have hlj' : l[j].loc = l[r].loc := by simpa [hj] using hlj
                                have htwo : twoW l j w := ⟨hj, hwl, hne, by rw [ej]; exact hkj', by rw [ew]; exact hkw, by rw [ej, ew, hlj']; exact hloc⟩
                                rcases way_all (by omega) hc hw htwo with h1 | h1
                                · rw [hfrw.2 ⟨hr, hwl, hkr, hkw, hloc.symm, .inr ⟨j, h, h1⟩⟩] at hno; cases hno
                                · rw [h1]; rfl]
                            (refine aOps_ya rfl rfl rfl (by rw [hall]; rfl) rfl ?_; try simp only [go_sem])
                            repeat ((first | refine aOps_nil ?_ | refine aOps_a rfl rfl rfl ?_); try simp only [go_sem])
                            repeat ((first | refine aOps_nil ?_ | refine aOps_a rfl rfl rfl ?_); try simp only [go_sem])
                            exact ⟨trivial, (by ((try simp only [tpl, List.foldl_cons, List.foldl_nil, List.replicate, List.set_cons_zero, List.set_cons_succ]); repeat (first | exact trivial | refine ⟨.inr rfl, ?_⟩ | refine ⟨.inl rfl, ?_⟩))), rfl⟩
                        · skip
                          (refine aOps_z rfl (by rw [hall]; rfl) rfl ?_; try simp only [go_sem])
                          (refine aOps_z rfl (by rw [hall]; rfl) rfl ?_; try simp only [go_sem])
                          (refine aOps_z rfl (by rw [hall]; rfl) rfl ?_; try simp only [go_sem])
                          (refine aOps_z rfl (by rw [hall]; rfl) rfl ?_; try simp only [go_sem])
                          (refine aOps_z rfl (by rw [hall]; rfl) rfl ?_; try simp only [go_sem])
                          (refine aOps_z rfl (by rw [hall]; rfl) rfl ?_; try simp only [go_sem])
                          (refine aOps_u rfl (by rw [hall]; rfl) rfl ?_; try simp only [go_sem])
                          (refine aOps_u rfl (by rw [hall]; rfl) rfl ?_; try simp only [go_sem])
                          (refine aOps_u rfl (by rw [hall]; rfl) rfl ?_; try simp only [go_sem])
                          (refine aOps_u rfl (by rw [hall]; rfl) rfl ?_; try simp only [go_sem])
                          (refine aOps_u rfl (by rw [hall]; rfl) rfl ?_; try simp only [go_sem])
                          (refine aOps_u rfl (by rw [hall]; rfl) rfl ?_; try simp only [go_sem])
                          (refine aOps_u rfl (by rw [hall]; rfl) rfl ?_; try simp only [go_sem])
                          (refine aOps_u rfl (by rw [hall]; rfl) rfl ?_; try simp only [go_sem])
                          (refine aOps_z rfl (by rw [hall]; rfl) rfl ?_; try simp only [go_sem])
                          repeat ((first | refine aOps_nil ?_ | refine aOps_a rfl rfl rfl ?_); try simp only [go_sem])
                          repeat ((first | refine aOps_nil ?_ | refine aOps_a rfl rfl rfl ?_); try simp only [go_sem])
                          exact ⟨trivial, (by ((try simp only [tpl, List.foldl_cons, List.foldl_nil, List.replicate, List.set_cons_zero, List.set_cons_succ]); repeat (first | exact trivial | refine ⟨.inr rfl, ?_⟩ | refine ⟨.inl rfl, ?_⟩))), rfl⟩
                      · skip
                        (refine aOps_z rfl (by rw [hall]; rfl) rfl ?_; try simp only [go_sem])
                        (refine aOps_z rfl (by rw [hall]; rfl) rfl ?_; try simp only [go_sem])
                        (refine aOps_z rfl (by rw [hall]; rfl) rfl ?_; try simp only [go_sem])
                        (refine aOps_z rfl (by rw [hall]; rfl) rfl ?_; try simp only [go_sem])
                        (refine aOps_z rfl (by rw [hall]; rfl) rfl ?_; try simp only [go_sem])
                        (refine aOps_z rfl (by rw [hall]; rfl) rfl ?_; try simp only [go_sem])
                        repeat ((first | refine aOps_nil ?_ | refine aOps_a rfl rfl rfl ?_); try simp only [go_sem])
                        (refine aOps_z rfl (by rw [hall]; rfl) rfl ?_; try simp only [go_sem])
                        (refine aOps_z rfl (by rw [hall]; rfl) rfl ?_; try simp only [go_sem])
                        (refine aOps_z rfl (by rw [hall]; rfl) rfl ?_; try simp only [go_sem])
                        (refine aOps_z rfl (by rw [hall]; rfl) rfl ?_; try simp only [go_sem])
                        (refine aOps_z rfl (by rw [hall]; rfl) rfl ?_; try simp only [go_sem])
                        (refine aOps_z rfl (by rw [hall]; rfl) rfl ?_; try simp only [go_sem])
                        (refine aOps_u rfl (by rw [hall]; rfl) rfl ?_; try simp only [go_sem])
                        (refine aOps_u rfl (by rw [hall]; rfl) rfl ?_; try simp only [go_sem])
                        (refine aOps_u rfl (by rw [hall]; rfl) rfl ?_; try simp only [go_sem])
                        (refine aOps_u rfl (by rw [hall]; rfl) rfl ?_; try simp only [go_sem])
                        (refine aOps_u rfl (by rw [hall]; rfl) rfl ?_; try simp only [go_sem])
                        (refine aOps_u rfl (by rw [hall]; rfl) rfl ?_; try simp only [go_sem])
                        (refine aOps_u rfl (by rw [hall]; rfl) rfl ?_; try simp only [go_sem])
                        (refine aOps_u rfl (by rw [hall]; rfl) rfl ?_; try simp only [go_sem])
                        (refine aOps_z rfl (by rw [hall]; rfl) rfl ?_; try simp only [go_sem])
                        repeat ((first | refine aOps_nil ?_ | refine aOps_a rfl rfl rfl ?_); try simp only [go_sem])
                        repeat ((first | refine aOps_nil ?_ | refine aOps_a rfl rfl rfl ?_); try simp only [go_sem])
                        exact ⟨trivial, (by ((try simp only [tpl, List.foldl_cons, List.foldl_nil, List.replicate, List.set_cons_zero, List.set_cons_succ]); repeat (first | exact trivial | refine ⟨.inr rfl, ?_⟩ | refine ⟨.inl rfl, ?_⟩))), rfl⟩
                    · skip
                      (refine aOps_z rfl (by rw [hall]; rfl) rfl ?_; try simp only [go_sem])
                      (refine aOps_z rfl (by rw [hall]; rfl) rfl ?_; try simp only [go_sem])
                      (refine aOps_z rfl (by rw [hall]; rfl) rfl ?_; try simp only [go_sem])
                      (refine aOps_z rfl (by rw [hall]; rfl) rfl ?_; try simp only [go_sem])
                      (refine aOps_z rfl (by rw [hall]; rfl) rfl ?_; try simp only [go_sem])
                      repeat ((first | refine aOps_nil ?_ | refine aOps_a rfl rfl rfl ?_); try simp only [go_sem])
                      (refine aOps_z rfl (by rw [hall]; rfl) rfl ?_; try simp only [go_sem])
                      (refine aOps_z rfl (by rw [hall]; rfl) rfl ?_; try simp only [go_sem])
                      (refine aOps_z rfl (by rw [hall]; rfl) rfl ?_; try simp only [go_sem])
                      (refine aOps_z rfl (by rw [hall]; rfl) rfl ?_; try simp only [go_sem])
                      (refine aOps_z rfl (by rw [hall]; rfl) rfl ?_; try simp only [go_sem])
                      (refine aOps_z rfl (by rw [hall]; rfl) rfl ?_; try simp only [go_sem])
                      repeat ((first | refine aOps_nil ?_ | refine aOps_a rfl rfl rfl ?_); try simp only [go_sem])
                      (refine aOps_z rfl (by rw [hall]; rfl) rfl ?_; try simp only [go_sem])
                      (refine aOps_z rfl (by rw [hall]; rfl) rfl ?_; try simp only [go_sem])
                      (refine aOps_z rfl (by rw [hall]; rfl) rfl ?_; try simp only [go_sem])
                      (refine aOps_z rfl (by rw [hall]; rfl) rfl ?_; try simp only [go_sem])
                      (refine aOps_z rfl (by rw [hall]; rfl) rfl ?_; try simp only [go_sem])
                      (refine aOps_z rfl (by rw [hall]; rfl) rfl ?_; try simp only [go_sem])
                      (refine aOps_u rfl (by rw [hall]; rfl) rfl ?_; try simp only [go_sem])
                      (refine aOps_u rfl (by rw [hall]; rfl) rfl ?_; try simp only [go_sem])
                      (refine aOps_u rfl (by rw [hall]; rfl) rfl ?_; try simp only [go_sem])
                      (refine aOps_u rfl (by rw [hall]; rfl) rfl ?_; try simp only [go_sem])
                      (refine aOps_u rfl (by rw [hall]; rfl) rfl ?_; try simp only [go_sem])
                      (refine aOps_u rfl (by rw [hall]; rfl) rfl ?_; try simp only [go_sem])
                      (refine aOps_u rfl (by rw [hall]; rfl) rfl ?_; try simp only [go_sem])
                      (refine aOps_u rfl (by rw [hall]; rfl) rfl ?_; try simp only [go_sem])
                      (refine aOps_z rfl (by rw [hall]; rfl) rfl ?_; try simp only [go_sem])
                      repeat ((first | refine aOps_nil ?_ | refine aOps_a rfl rfl rfl ?_); try simp only [go_sem])
                      repeat ((first | refine aOps_nil ?_ | refine aOps_a rfl rfl rfl ?_); try simp only [go_sem])
                      exact ⟨trivial, (by ((try simp only [tpl, List.foldl_cons, List.foldl_nil, List.replicate, List.set_cons_zero, List.set_cons_succ]); repeat (first | exact trivial | refine ⟨.inr rfl, ?_⟩ | refine ⟨.inl rfl, ?_⟩))), rfl⟩
                  · skip
                    (refine aOps_z rfl (by rw [hall]; rfl) rfl ?_; try simp only [go_sem])
                    (refine aOps_z rfl (by rw [hall]; rfl) rfl ?_; try simp only [go_sem])
                    (refine aOps_z rfl (by rw [hall]; rfl) rfl ?_; try simp only [go_sem])
                    (refine aOps_z rfl (by rw [hall]; rfl) rfl ?_; try simp only [go_sem])
                    (refine aOps_z rfl (by rw [hall]; rfl) rfl ?_; try simp only [go_sem])
                    (refine aOps_z rfl (by rw [hall]; rfl) rfl ?_; try simp only [go_sem])
                    (refine aOps_z rfl (by rw [hall]; rfl) rfl ?_; try simp only [go_sem])
                    (refine aOps_z rfl (by rw [hall]; rfl) rfl ?_; try simp only [go_sem])
                    (refine aOps_z rfl (by rw [hall]; rfl) rfl ?_; try simp only [go_sem])
                    (refine aOps_z rfl (by rw [hall]; rfl) rfl ?_; try simp only [go_sem])
                    (refine aOps_z rfl (by rw [hall]; rfl) rfl ?_; try simp only [go_sem])
                    repeat ((first | refine aOps_nil ?_ | refine aOps_a rfl rfl rfl ?_); try simp only [go_sem])
                    (refine aOps_z rfl (by rw [hall]; rfl) rfl ?_; try simp only [go_sem])
                    (refine aOps_z rfl (by rw [hall]; rfl) rfl ?_; try simp only [go_sem])
                    (refine aOps_z rfl (by rw [hall]; rfl) rfl ?_; try simp only [go_sem])
                    (refine aOps_z rfl (by rw [hall]; rfl) rfl ?_; try simp only [go_sem])
                    (refine aOps_z rfl (by rw [hall]; rfl) rfl ?_; try simp only [go_sem])
                    repeat ((first | refine aOps_nil ?_ | refine aOps_a rfl rfl rfl ?_); try simp only [go_sem])
                    (refine aOps_z rfl (by rw [hall]; rfl) rfl ?_; try simp only [go_sem])
                    (refine aOps_z rfl (by rw [hall]; rfl) rfl ?_; try simp only [go_sem])
                    (refine aOps_z rfl (by rw [hall]; rfl) rfl ?_; try simp only [go_sem])
                    (refine aOps_z rfl (by rw [hall]; rfl) rfl ?_; try simp only [go_sem])
                    (refine aOps_z rfl (by rw [hall]; rfl) rfl ?_; try simp only [go_sem])
                    (refine aOps_z rfl (by rw [hall]; rfl) rfl ?_; try simp only [go_sem])
                    repeat ((first | refine aOps_nil ?_ | refine aOps_a rfl rfl rfl ?_); try simp only [go_sem])
                    (refine aOps_z rfl (by rw [hall]; rfl) rfl ?_; try simp only [go_sem])
                    (refine aOps_z rfl (by rw [hall]; rfl) rfl ?_; try simp only [go_sem])
                    (refine aOps_z rfl (by rw [hall]; rfl) rfl ?_; try simp only [go_sem])
                    (refine aOps_z rfl (by rw [hall]; rfl) rfl ?_; try simp only [go_sem])
                    (refine aOps_z rfl (by rw [hall]; rfl) rfl ?_; try simp only [go_sem])
                    (refine aOps_z rfl (by rw [hall]; rfl) rfl ?_; try simp only [go_sem])
                    (refine aOps_u rfl (by rw [hall]; rfl) rfl ?_; try simp only [go_sem])
                    (refine aOps_u rfl (by rw [hall]; rfl) rfl ?_; try simp only [go_sem])
                    (refine aOps_u rfl (by rw [hall]; rfl) rfl ?_; try simp only [go_sem])
                    (refine aOps_u rfl (by rw [hall]; rfl) rfl ?_; try simp only [go_sem])
                    (refine aOps_u rfl (by rw [hall]; rfl) rfl ?_; try simp only [go_sem])
                    (refine aOps_u rfl (by rw [hall]; rfl) rfl ?_; try simp only [go_sem])
                    (refine aOps_u rfl (by rw [hall]; rfl) rfl ?_; try simp only [go_sem])
                    (refine aOps_u rfl (by rw [hall]; rfl) rfl ?_; try simp only [go_sem])
                    (refine aOps_z rfl (by rw [hall]; rfl) rfl ?_; try simp only [go_sem])
                    repeat ((first | refine aOps_nil ?_ | refine aOps_a rfl rfl rfl ?_); try simp only [go_sem])
                    repeat ((first | refine aOps_nil ?_ | refine aOps_a rfl rfl rfl ?_); try simp only [go_sem])
                    exact ⟨trivial, (by ((try simp only [tpl, List.foldl_cons, List.foldl_nil, List.replicate, List.set_cons_zero, List.set_cons_succ]); repeat (first | exact trivial | refine ⟨.inr rfl, ?_⟩ | refine ⟨.inl rfl, ?_⟩))), rfl⟩
                · skip
                  (refine aOps_z rfl (by rw [hall]; rfl) rfl ?_; try simp only [go_sem])
                  (refine aOps_z rfl (by rw [hall]; rfl) rfl ?_; try simp only [go_sem])
                  (refine aOps_z rfl (by rw [hall]; rfl) rfl ?_; try simp only [go_sem])
                  (refine aOps_z rfl (by rw [hall]; rfl) rfl ?_; try simp only [go_sem])
                  (refine aOps_z rfl (by rw [hall]; rfl) rfl ?_; try simp only [go_sem])
                  (refine aOps_z rfl (by rw [hall]; rfl) rfl ?_; try simp only [go_sem])
                  repeat ((first | refine aOps_nil ?_ | refine aOps_a rfl rfl rfl ?_); try simp only [go_sem])
                  (refine aOps_z rfl (by rw [hall]; rfl) rfl ?_; try simp only [go_sem])
                  (refine aOps_z rfl (by rw [hall]; rfl) rfl ?_; try simp only [go_sem])
                  (refine aOps_z rfl (by rw [hall]; rfl) rfl ?_; try simp only [go_sem])
                  (refine aOps_z rfl (by rw [hall]; rfl) rfl ?_; try simp only [go_sem])
                  (refine aOps_z rfl (by rw [hall]; rfl) rfl ?_; try simp only [go_sem])
                  (refine aOps_z rfl (by rw [hall]; rfl) rfl ?_; try simp only [go_sem])
                  (refine aOps_z rfl (by rw [hall]; rfl) rfl ?_; try simp only [go_sem])
                  (refine aOps_z rfl (by rw [hall]; rfl) rfl ?_; try simp only [go_sem])
                  (refine aOps_z rfl (by rw [hall]; rfl) rfl ?_; try simp only [go_sem])
                  (refine aOps_z rfl (by rw [hall]; rfl) rfl ?_; try simp only [go_sem])
                  (refine aOps_z rfl (by rw [hall]; rfl) rfl ?_; try simp only [go_sem])
                  repeat ((first | refine aOps_nil ?_ | refine aOps_a rfl rfl rfl ?_); try simp only [go_sem])
                  (refine aOps_z rfl (by rw [hall]; rfl) rfl ?_; try simp only [go_sem])
                  (refine aOps_z rfl (by rw [hall]; rfl) rfl ?_; try simp only [go_sem])
                  (refine aOps_z rfl (by rw [hall]; rfl) rfl ?_; try simp only [go_sem])
                  (refine aOps_z rfl (by rw [hall]; rfl) rfl ?_; try simp only [go_sem])
                  (refine aOps_z rfl (by rw [hall]; rfl) rfl ?_; try simp only [go_sem])
                  repeat ((first | refine aOps_nil ?_ | refine aOps_a rfl rfl rfl ?_); try simp only [go_sem])
                  (refine aOps_z rfl (by rw [hall]; rfl) rfl ?_; try simp only [go_sem])
                  (refine aOps_z rfl (by rw [hall]; rfl) rfl ?_; try simp only [go_sem])
                  (refine aOps_z rfl (by rw [hall]; rfl) rfl ?_; try simp only [go_sem])
                  (refine aOps_z rfl (by rw [hall]; rfl) rfl ?_; try simp only [go_sem])
                  (refine aOps_z rfl (by rw [hall]; rfl) rfl ?_; try simp only [go_sem])
                  (refine aOps_z rfl (by rw [hall]; rfl) rfl ?_; try simp only [go_sem])
                  repeat ((first | refine aOps_nil ?_ | refine aOps_a rfl rfl rfl ?_); try simp only [go_sem])
                  (refine aOps_z rfl (by rw [hall]; rfl) rfl ?_; try simp only [go_sem])
                  (refine aOps_z rfl (by rw [hall]; rfl) rfl ?_; try simp only [go_sem])
                  (refine aOps_z rfl (by rw [hall]; rfl) rfl ?_; try simp only [go_sem])
                  (refine aOps_z rfl (by rw [hall]; rfl) rfl ?_; try simp only [go_sem])
                  (refine aOps_z rfl (by rw [hall]; rfl) rfl ?_; try simp only [go_sem])
                  (refine aOps_z rfl (by rw [hall]; rfl) rfl ?_; try simp only [go_sem])
                  (refine aOps_u rfl (by rw [hall]; rfl) rfl ?_; try simp only [go_sem])
                  (refine aOps_u rfl (by rw [hall]; rfl) rfl ?_; try simp only [go_sem])
                  (refine aOps_u rfl (by rw [hall]; rfl) rfl ?_; try simp only [go_sem])
                  (refine aOps_u rfl (by rw [hall]; rfl) rfl ?_; try simp only [go_sem])
                  (refine aOps_u rfl (by rw [hall]; rfl) rfl ?_; try simp only [go_sem])
                  (refine aOps_u rfl (by rw [hall]; rfl) rfl ?_; try simp only [go_sem])
                  (refine aOps_u rfl (by rw [hall]; rfl) rfl ?_; try simp only [go_sem])
                  (refine aOps_u rfl (by rw [hall]; rfl) rfl ?_; try simp only [go_sem])
                  (refine aOps_z rfl (by rw [hall]; rfl) rfl ?_; try simp only [go_sem])
                  repeat ((first | refine aOps_nil ?_ | refine aOps_a rfl rfl rfl ?_); try simp only [go_sem])
                  repeat ((first | refine aOps_nil ?_ | refine aOps_a rfl rfl rfl ?_); try simp only [go_sem])
                  exact ⟨trivial, (by ((try simp only [tpl, List.foldl_cons, List.foldl_nil, List.replicate, List.set_cons_zero, List.set_cons_succ]); repeat (first | exact trivial | refine ⟨.inr rfl, ?_⟩ | refine ⟨.inl rfl, ?_⟩))), rfl⟩
              · skip
                rintro u hp27
                simp only [tpl, List.foldl_cons, List.foldl_nil, List.replicate, List.set_cons_zero, List.set_cons_succ]
                (refine WpA.cond rfl (fun hb203 => ?_) (fun hb203 => ?_) <;> try simp only [decide_eq_true_eq, decide_eq_false_iff_not, Bool.not_eq_true', Bool.not_eq_false'] at hb203)
                · skip
                  exact absurd hb203 (by decide)
                · skip
                  (refine WpA.skip ?_; try simp only [go_sem])
                  (apply hKx33; (try clear hKx33 Kx33); try simp only [go_sem])
                  refine WpA.reg fun all hall => ?_
                  repeat ((first | refine aOps_nil ?_ | refine aOps_a rfl rfl rfl ?_); try simp only [go_sem])
                  repeat ((first | refine aOps_nil ?_ | refine aOps_a rfl rfl rfl ?_); try simp only [go_sem])
                  rw [wi1 w (by omega)]
                  exact ⟨w + 1, ⟨hwl, by omega⟩, (by ((try simp only [tpl, List.foldl_cons, List.foldl_nil, List.replicate, List.set_cons_zero, List.set_cons_succ]); repeat (first | exact trivial | refine ⟨.inr rfl, ?_⟩ | refine ⟨.inl rfl, ?_⟩))), rfl⟩
            · skip
              (refine WpA.exit ?_; try simp only [go_sem])
              (apply hKx29; (try clear hKx29 Kx29); try simp only [go_sem])
              refine WpA.reg fun all hall => ?_
              repeat ((first | refine aOps_nil ?_ | refine aOps_a rfl rfl rfl ?_); try simp only [go_sem])
              repeat ((first | refine aOps_nil ?_ | refine aOps_a rfl rfl rfl ?_); try simp only [go_sem])
              rw [wi1 r (by omega)]
              exact ⟨r + 1, ⟨hr, by omega⟩, (by ((try simp only [tpl, List.foldl_cons, List.foldl_nil, List.replicate, List.set_cons_zero, List.set_cons_succ]); repeat (first | exact trivial | refine ⟨.inr rfl, ?_⟩ | refine ⟨.inl rfl, ?_⟩))), rfl⟩
          · skip
            (refine WpA.exit ?_; try simp only [go_sem])
            (apply hKx25; (try clear hKx25 Kx25); try simp only [go_sem])
            refine WpA.seq fun Kx34 hKx34 => ?_
            refine WpA.reg fun all hall => ?_
            repeat ((first | refine aOps_nil ?_ | refine aOps_a rfl rfl rfl ?_); try simp only [go_sem])
            repeat ((first | refine aOps_nil ?_ | refine aOps_a rfl rfl rfl ?_); try simp only [go_sem])
            (apply hKx34; (try clear hKx34 Kx34); try simp only [go_sem])
            (refine WpA.ret ?_; try simp only [go_sem])
            exact ret_b rfl rfl
end Go.Proofs.Ytfpbdphdahfgbaa
