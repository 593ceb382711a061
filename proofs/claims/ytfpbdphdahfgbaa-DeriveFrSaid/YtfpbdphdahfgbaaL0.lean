/- What all statements of layer 12 begin with. -/
import Derived.Test.YtfpbdphdahfgbaaO6
namespace Go.Proofs.Ytfpbdphdahfgbaa
open Go Go.RowKit Go.Proofs.Ytfpbdphdahfgbaa.Fw

def wEv : Ev := ⟨0, 2, 0, 0, false, false, false⟩
def s0 : Six := ⟨[], [], [], [], [], []⟩
theorem sh1 : placesE [wEv, wEv] = [0] := by
  have h : locsE [wEv, wEv] = [0, 0] := by
    rw [locsE, show locsTo [wEv, wEv] [wEv, wEv].length = [0, 0] from by decide]
    exact List.mergeSort_of_pairwise (by simp)
  rw [placesE, h]; decide
theorem sh2 : allE [wEv, wEv] = [[2#32, 0#32], [0#32, 1#32]] := by
  rw [allE, sh1]
  have : (waysTo [wEv, wEv] 1) = some [[2#32, 0#32], [0#32, 1#32]] := by
    rw [waysTo, sh1]
    decide +kernel
  rw [show [(0 : Int)].length = 1 from rfl, this]; rfl
theorem sh3 : hasR [2#32, 0#32] 0 1 = true := by decide
theorem sh4 : lastOf [2#32, 0#32] (writesE [wEv, wEv] 0) = 1 := by decide
theorem sh5 : fitsE [wEv, wEv] [0#32, 1#32] = true := by decide +kernel

set_option maxHeartbeats 4000000 in
theorem shown12_calls  : PCalls Try.prog 11 [] (.val (bv true)) := by
  refine PCalls.of_body Try.func11 rfl rfl Try.ntmps11 Try.results11 ?_
  simp only [go_sem, List.replicate]
  refine WpA.seq fun Kx1 hKx1 => ?_
  refine WpA.reg fun all hall => ?_
  repeat ((first | refine aOps_nil ?_ | refine aOps_a rfl rfl rfl ?_); try simp only [go_sem])
  repeat ((first | refine aOps_nil ?_ | refine aOps_a rfl rfl rfl ?_); try simp only [go_sem])
  (apply hKx1; (try clear hKx1 Kx1); try simp only [go_sem])
  refine WpA.seq fun Kx2 hKx2 => ?_
  refine WpA.reg fun all hall => ?_
  refine aOps_s rfl rfl (QK.build (l := [(0, 1), (1, 1), (2, 1), (3, 1), (4, 1), (5, 1), (6, 1)]) rfl Try.underlying25 (by kernel_rfl) ti25 rfl ?_)
  try simp only [go_sem]
  refine aOps_s rfl rfl (QK.build (l := [(0, 1), (1, 1), (2, 1), (3, 1), (4, 1), (5, 1), (6, 1)]) rfl Try.underlying25 (by kernel_rfl) ti25 rfl ?_)
  try simp only [go_sem]
  refine aOps_s rfl rfl (QK.lit rfl Try.underlying22 ti25 rfl rfl ?_)
  try simp only [go_sem]
  refine aOps_s rfl rfl (QK.build (l := [(0, 1), (1, 1), (2, 1), (3, 1), (4, 1), (5, 1), (6, 1)]) rfl Try.underlying30 (by kernel_rfl) ti30 rfl ?_)
  try simp only [go_sem]
  refine aOps_s rfl rfl (QK.alloc rfl ti30 (by kernel_rfl) rfl ?_)
  try simp only [go_sem]
  refine aOps_n rfl (aOp.set rfl rfl rfl rfl ?_ ti30 ?_)
  · exact ⟨rfl, (by first | rfl | (simp only [go_sem]; done) | (simp []; done) | (simp []; omega) | omega)⟩
  try simp only [go_sem]
  repeat ((first | refine aOps_nil ?_ | refine aOps_a rfl rfl rfl ?_); try simp only [go_sem])
  (apply hKx2; (try clear hKx2 Kx2); try simp only [go_sem])
  refine WpA.seq fun Kx3 hKx3 => ?_
  refine WpA.reg fun all hall => ?_
  repeat ((first | refine aOps_nil ?_ | refine aOps_a rfl rfl rfl ?_); try simp only [go_sem])
  refine aOps_s rfl rfl (QK.call rfl rfl rfl (call_calls [wEv, wEv] s0 (by simp)) (by repeat' (first | exact ConvL.nil | refine ConvL.cons ?_ ?_ | first | exact Conv.pv _ | exact Conv.imm_bor _ | exact Conv.bor _ | exact Conv.tight_imm _ | exact Conv.tight_bor _ | exact Conv.nil_imm | exact Conv.nil_bor | exact Conv.tight _ | exact Conv.at _ | exact Conv.row _ _ _ _ _ _ rfl (by first | rfl | (simp only [go_sem]; done) | (simp []; done) | (simp []; omega) | omega) | exact Conv.bat _ _ _ _ _ rfl rfl | exact Conv.aggp _ _ rfl | refine Conv.fnL _ ?_ | exact Conv.any _)) ?_)
  try simp only [go_sem]
  rw [sh2]
  repeat ((first | refine aOps_nil ?_ | refine aOps_a rfl rfl rfl ?_); try simp only [go_sem])
  repeat ((first | refine aOps_nil ?_ | refine aOps_a rfl rfl rfl ?_); try simp only [go_sem])
  (apply hKx3; (try clear hKx3 Kx3); try simp only [go_sem])
  refine WpA.seq fun Kx4 hKx4 => ?_
  refine WpA.regD (0 + 1 + 1 + 1 + 1 + 1 + 1 + 1 + 1 + 1 + 1 + 1 + 1 + 1 + 1 + 1 + 1 + 1 + 1 + 1 + 1 + 1 + 1) mixed (by kernel_rfl) fun all hall => ?_
  repeat ((first | refine aOps_nil ?_ | refine aOps_a rfl rfl rfl ?_); try simp only [go_sem])
  refine aOps_split (d := 12) rfl (fun hg3_3 => ?_) (fun hg3_3 => ?_) <;> (try simp only [decide_eq_true_eq, decide_eq_false_iff_not] at hg3_3) <;> try simp only [go_sem]
  · skip
    (refine aOps_ya rfl rfl rfl (by rw [hall]; rfl) rfl ?_; try simp only [go_sem])
    refine aOps_y rfl rfl (by rw [hall]; rfl) rfl (QK.at rfl Try.underlying32 ti27 rfl (by first | exact .inl rfl | exact .inr (.inl rfl) | exact .inr (.inr rfl)) rfl (encW_get (l := [[2#32, 0#32], [0#32, 1#32]]) (k := 0) (by simp)) rfl ?_)
    try simp only [go_sem]
    (refine aOps_ya rfl rfl rfl (by rw [hall]; rfl) rfl ?_; try simp only [go_sem])
    refine aOps_y rfl rfl (by rw [hall]; rfl) rfl (QK.call rfl rfl rfl (has_calls [2#32, 0#32] 0 1) (by repeat' (first | exact ConvL.nil | refine ConvL.cons ?_ ?_ | first | exact Conv.pv _ | exact Conv.imm_bor _ | exact Conv.bor _ | exact Conv.tight_imm _ | exact Conv.tight_bor _ | exact Conv.nil_imm | exact Conv.nil_bor | exact Conv.tight _ | exact Conv.at _ | exact Conv.row _ _ _ _ _ _ rfl (by first | rfl | (simp only [go_sem]; done) | (simp []; done) | (simp []; omega) | omega) | exact Conv.bat _ _ _ _ _ rfl rfl | exact Conv.aggp _ _ rfl | refine Conv.fnL _ ?_ | exact Conv.any _)) ?_)
    try simp only [go_sem]
    rw [sh3]
    repeat ((first | refine aOps_nil ?_ | refine aOps_a rfl rfl rfl ?_); try simp only [go_sem])
    refine aOps_split (d := 18) rfl (fun hg3_9 => ?_) (fun hg3_9 => ?_) <;> (try simp only [decide_eq_true_eq, decide_eq_false_iff_not] at hg3_9) <;> try simp only [go_sem]
    · skip
      (refine aOps_ya rfl rfl rfl (by rw [hall]; rfl) rfl ?_; try simp only [go_sem])
      (refine aOps_ya rfl rfl rfl (by rw [hall]; rfl) rfl ?_; try simp only [go_sem])
      refine aOps_y rfl rfl (by rw [hall]; rfl) rfl (QK.at rfl Try.underlying32 ti27 rfl (by first | exact .inl rfl | exact .inr (.inl rfl) | exact .inr (.inr rfl)) rfl (encW_get (l := [[2#32, 0#32], [0#32, 1#32]]) (k := 0) (by simp)) rfl ?_)
      try simp only [go_sem]
      (refine aOps_ya rfl rfl rfl (by rw [hall]; rfl) rfl ?_; try simp only [go_sem])
      refine aOps_y rfl rfl (by rw [hall]; rfl) rfl (QK.call rfl rfl rfl (last_calls [wEv, wEv] s0 [2#32, 0#32] 0 (by simp)) (by repeat' (first | exact ConvL.nil | refine ConvL.cons ?_ ?_ | first | exact Conv.pv _ | exact Conv.imm_bor _ | exact Conv.bor _ | exact Conv.tight_imm _ | exact Conv.tight_bor _ | exact Conv.nil_imm | exact Conv.nil_bor | exact Conv.tight _ | exact Conv.at _ | exact Conv.row _ _ _ _ _ _ rfl (by first | rfl | (simp only [go_sem]; done) | (simp []; done) | (simp []; omega) | omega) | exact Conv.bat _ _ _ _ _ rfl rfl | exact Conv.aggp _ _ rfl | refine Conv.fnL _ ?_ | exact Conv.any _)) ?_)
      try simp only [go_sem]
      rw [sh4]
      (refine aOps_ya rfl rfl rfl (by rw [hall]; rfl) rfl ?_; try simp only [go_sem])
      repeat ((first | refine aOps_nil ?_ | refine aOps_a rfl rfl rfl ?_); try simp only [go_sem])
      refine aOps_split (d := 26) rfl (fun hg3_17 => ?_) (fun hg3_17 => ?_) <;> (try simp only [decide_eq_true_eq, decide_eq_false_iff_not] at hg3_17) <;> try simp only [go_sem]
      · skip
        (refine aOps_ya rfl rfl rfl (by rw [hall]; rfl) rfl ?_; try simp only [go_sem])
        (refine aOps_ya rfl rfl rfl (by rw [hall]; rfl) rfl ?_; try simp only [go_sem])
        refine aOps_y rfl rfl (by rw [hall]; rfl) rfl (QK.at rfl Try.underlying32 ti27 rfl (by first | exact .inl rfl | exact .inr (.inl rfl) | exact .inr (.inr rfl)) rfl (encW_get (l := [[2#32, 0#32], [0#32, 1#32]]) (k := 1) (by simp)) rfl ?_)
        try simp only [go_sem]
        (refine aOps_ya rfl rfl rfl (by rw [hall]; rfl) rfl ?_; try simp only [go_sem])
        refine aOps_y rfl rfl (by rw [hall]; rfl) rfl (QK.call rfl rfl rfl (fits_calls [wEv, wEv] s0 [0#32, 1#32] (by simp)) (by repeat' (first | exact ConvL.nil | refine ConvL.cons ?_ ?_ | first | exact Conv.pv _ | exact Conv.imm_bor _ | exact Conv.bor _ | exact Conv.tight_imm _ | exact Conv.tight_bor _ | exact Conv.nil_imm | exact Conv.nil_bor | exact Conv.tight _ | exact Conv.at _ | exact Conv.row _ _ _ _ _ _ rfl (by first | rfl | (simp only [go_sem]; done) | (simp []; done) | (simp []; omega) | omega) | exact Conv.bat _ _ _ _ _ rfl rfl | exact Conv.aggp _ _ rfl | refine Conv.fnL _ ?_ | exact Conv.any _)) ?_)
        try simp only [go_sem]
        rw [sh5]
        repeat ((first | refine aOps_nil ?_ | refine aOps_a rfl rfl rfl ?_); try simp only [go_sem])
        repeat ((first | refine aOps_nil ?_ | refine aOps_a rfl rfl rfl ?_); try simp only [go_sem])
        (apply hKx4; (try clear hKx4 Kx4); try simp only [go_sem])
        (refine WpA.ret ?_; try simp only [go_sem])
        exact RetQ.val (.pv _)
      · skip
        exact absurd hg3_17 (by decide)
    · skip
      exact absurd hg3_9 (by decide)
  · skip
    exact absurd hg3_3 (by decide)

set_option maxHeartbeats 4000000 in
theorem made12_calls (l : List Ev) : PCalls Try.prog 12 [.pv (.imm (encE l))] (.val (exA l s0)) := by
  refine PCalls.of_bodyG Try.func12 rfl rfl Try.ntmps12 Try.results12 ?_
  simp only [go_sem, List.replicate]
  refine WpA.seq fun Kx1 hKx1 => ?_
  refine WpA.reg fun all hall => ?_
  refine aOps_s rfl rfl (QK.alloc rfl ti30 (by kernel_rfl) rfl ?_)
  try simp only [go_sem]
  repeat ((first | refine aOps_nil ?_ | refine aOps_a rfl rfl rfl ?_); try simp only [go_sem])
  (apply hKx1; (try clear hKx1 Kx1); try simp only [go_sem])
  refine WpA.seq fun Kx2 hKx2 => ?_
  refine WpA.reg fun all hall => ?_
  repeat ((first | refine aOps_nil ?_ | refine aOps_a rfl rfl rfl ?_); try simp only [go_sem])
  refine aOps_s rfl rfl (QK.build (l := [(0, 1), (1, 1), (2, 1), (3, 1), (4, 1), (5, 1), (6, 1)]) rfl Try.underlying30 (by kernel_rfl) ti30 rfl ?_)
  try simp only [go_sem]
  refine aOps_n rfl (aOp.set rfl rfl rfl rfl ?_ ti30 ?_)
  · exact ⟨rfl, (by first | rfl | (simp only [go_sem]; done) | (simp []; done) | (simp []; omega) | omega)⟩
  try simp only [go_sem]
  repeat ((first | refine aOps_nil ?_ | refine aOps_a rfl rfl rfl ?_); try simp only [go_sem])
  (apply hKx2; (try clear hKx2 Kx2); try simp only [go_sem])
  (refine WpA.ret ?_; try simp only [go_sem])
  exact ⟨_, ⟨0, _, _, rfl, rfl, by kernel_rfl, _, _, ti30, Out.aggL (ds := [.pv (.imm (encE l)), .pv (.imm []), .pv (.imm []), .pv (.imm []), .pv (.imm []), .pv (.imm []), .pv (.imm [])]) (by repeat' (first | exact OutL.nil | refine OutL.cons ?_ ?_ | exact Out.pv _ | exact Out.nil | exact Out.tight _)) rfl⟩, rfl⟩

def fewE (l : List Ev) : Bool := decide (l.length ≤ 24 ∧ (locsTo l l.length).length ≤ 7)

set_option maxHeartbeats 4000000 in
theorem few_calls (l : List Ev) (hl : l.length < 9223372036854775808) : PCalls Try.prog 17 [.pv (.imm (encE l))] (.val (bv (fewE l))) := by
  refine PCalls.of_body Try.func17 rfl rfl Try.ntmps17 Try.results17 ?_
  simp only [go_sem, List.replicate]
  refine WpA.seq fun Kx1 hKx1 => ?_
  refine WpA.reg fun all hall => ?_
  repeat ((first | refine aOps_nil ?_ | refine aOps_a rfl rfl rfl ?_); try simp only [go_sem])
  repeat ((first | refine aOps_nil ?_ | refine aOps_a rfl rfl rfl ?_); try simp only [go_sem])
  (apply hKx1; (try clear hKx1 Kx1); try simp only [go_sem])
  refine WpA.seq fun Kx2 hKx2 => ?_
  refine WpA.reg fun all hall => ?_
  repeat ((first | refine aOps_nil ?_ | refine aOps_a rfl rfl rfl ?_); try simp only [go_sem])
  repeat ((first | refine aOps_nil ?_ | refine aOps_a rfl rfl rfl ?_); try simp only [go_sem])
  (apply hKx2; (try clear hKx2 Kx2); try simp only [go_sem])
  refine WpA.seq fun Kx3 hKx3 => ?_
  refine WpA.seq fun Kx4 hKx4 => ?_
  refine WpA.reg fun all hall => ?_
  repeat ((first | refine aOps_nil ?_ | refine aOps_a rfl rfl rfl ?_); try simp only [go_sem])
  repeat ((first | refine aOps_nil ?_ | refine aOps_a rfl rfl rfl ?_); try simp only [go_sem])
  (apply hKx4; (try clear hKx4 Kx4); try simp only [go_sem])
  refine WpA.block ?_
  refine WpA.iter (fun (k : Nat) => k ≤ l.length) (fun (k : Nat) => tpl 26 [(0, .pv (.imm (encE l))), (3, iv (locsTo l k).length), (4, iv k)]) (fun (k : Nat) => []) (fun (k : Nat) => l.length - k) 0 (by omega) (by ((try simp only [tpl, List.foldl_cons, List.foldl_nil, List.replicate, List.set_cons_zero, List.set_cons_succ]); repeat (first | exact trivial | refine ⟨.inr rfl, ?_⟩ | refine ⟨.inl rfl, ?_⟩))) rfl ?_
  rintro k hp0
  simp only [tpl, List.foldl_cons, List.foldl_nil, List.replicate, List.set_cons_zero, List.set_cons_succ]
  refine WpA.seq fun Kx5 hKx5 => ?_
  refine WpA.seq fun Kx6 hKx6 => ?_
  refine WpA.reg fun all hall => ?_
  repeat ((first | refine aOps_nil ?_ | refine aOps_a rfl rfl rfl ?_); try simp only [go_sem])
  repeat ((first | refine aOps_nil ?_ | refine aOps_a rfl rfl rfl ?_); try simp only [go_sem])
  (apply hKx6; (try clear hKx6 Kx6); try simp only [go_sem])
  (refine WpA.cond rfl (fun hb8 => ?_) (fun hb8 => ?_) <;> try simp only [decide_eq_true_eq, decide_eq_false_iff_not, Bool.not_eq_true', Bool.not_eq_false'] at hb8)
  · skip
    have hk : k < l.length := by omega
    have hres := locsTo_succ l hk
    have hb := locsTo_len l k
    (refine WpA.skip ?_; try simp only [go_sem])
    (apply hKx5; (try clear hKx5 Kx5); try simp only [go_sem])
    refine WpA.seq fun Kx7 hKx7 => ?_
    refine WpA.block ?_
    refine WpA.seq fun Kx8 hKx8 => ?_
    refine WpA.reg fun all hall => ?_
    repeat ((first | refine aOps_nil ?_ | refine aOps_a rfl rfl rfl ?_); try simp only [go_sem])
    refine aOps_s rfl rfl (QK.at rfl Try.underlying22 ti25 rfl (by first | exact .inl rfl | exact .inr (.inl rfl) | exact .inr (.inr rfl)) rfl (encE_get hk) rfl ?_)
    try simp only [go_sem]
    repeat ((first | refine aOps_nil ?_ | refine aOps_a rfl rfl rfl ?_); try simp only [go_sem])
    repeat ((first | refine aOps_nil ?_ | refine aOps_a rfl rfl rfl ?_); try simp only [go_sem])
    (apply hKx8; (try clear hKx8 Kx8); try simp only [go_sem])
    (refine WpA.cond rfl (fun hb16 => ?_) (fun hb16 => ?_) <;> try simp only [decide_eq_true_eq, decide_eq_false_iff_not, Bool.not_eq_true', Bool.not_eq_false'] at hb16)
    · skip
      rw [if_pos hb16] at hres
      have hn : (locsTo l (k + 1)).length = (locsTo l k).length + 1 := by rw [hres]; simp
      refine WpA.reg fun all hall => ?_
      repeat ((first | refine aOps_nil ?_ | refine aOps_a rfl rfl rfl ?_); try simp only [go_sem])
      repeat ((first | refine aOps_nil ?_ | refine aOps_a rfl rfl rfl ?_); try simp only [go_sem])
      rw [wi1 _ (by omega)]
      (apply hKx7; (try clear hKx7 Kx7); try simp only [go_sem])
      refine WpA.reg fun all hall => ?_
      repeat ((first | refine aOps_nil ?_ | refine aOps_a rfl rfl rfl ?_); try simp only [go_sem])
      repeat ((first | refine aOps_nil ?_ | refine aOps_a rfl rfl rfl ?_); try simp only [go_sem])
      rw [wi1 k (by omega)]
      exact ⟨k + 1, ⟨hk, by omega⟩, (by rw [hn]; ((try simp only [tpl, List.foldl_cons, List.foldl_nil, List.replicate, List.set_cons_zero, List.set_cons_succ]); repeat (first | exact trivial | refine ⟨.inr rfl, ?_⟩ | refine ⟨.inl rfl, ?_⟩))), rfl⟩
    · skip
      rw [if_neg (by rw [hb16]; decide)] at hres
      have hn : (locsTo l (k + 1)).length = (locsTo l k).length := by rw [hres]; simp
      (refine WpA.skip ?_; try simp only [go_sem])
      (apply hKx7; (try clear hKx7 Kx7); try simp only [go_sem])
      refine WpA.reg fun all hall => ?_
      repeat ((first | refine aOps_nil ?_ | refine aOps_a rfl rfl rfl ?_); try simp only [go_sem])
      repeat ((first | refine aOps_nil ?_ | refine aOps_a rfl rfl rfl ?_); try simp only [go_sem])
      rw [wi1 k (by omega)]
      exact ⟨k + 1, ⟨hk, by omega⟩, (by rw [hn]; ((try simp only [tpl, List.foldl_cons, List.foldl_nil, List.replicate, List.set_cons_zero, List.set_cons_succ]); repeat (first | exact trivial | refine ⟨.inr rfl, ?_⟩ | refine ⟨.inl rfl, ?_⟩))), rfl⟩
  · skip
    have hk : k = l.length := by omega
    subst hk
    (refine WpA.exit ?_; try simp only [go_sem])
    (apply hKx3; (try clear hKx3 Kx3); try simp only [go_sem])
    refine WpA.seq fun Kx9 hKx9 => ?_
    refine WpA.reg fun all hall => ?_
    repeat ((first | refine aOps_nil ?_ | refine aOps_a rfl rfl rfl ?_); try simp only [go_sem])
    refine aOps_split (d := 22) rfl (fun hg7_3 => ?_) (fun hg7_3 => ?_) <;> (try simp only [decide_eq_true_eq, decide_eq_false_iff_not] at hg7_3) <;> try simp only [go_sem]
    · skip
      (refine aOps_ya rfl rfl rfl (by rw [hall]; rfl) rfl ?_; try simp only [go_sem])
      (refine aOps_ya rfl rfl rfl (by rw [hall]; rfl) rfl ?_; try simp only [go_sem])
      repeat ((first | refine aOps_nil ?_ | refine aOps_a rfl rfl rfl ?_); try simp only [go_sem])
      repeat ((first | refine aOps_nil ?_ | refine aOps_a rfl rfl rfl ?_); try simp only [go_sem])
      (apply hKx9; (try clear hKx9 Kx9); try simp only [go_sem])
      (refine WpA.ret ?_; try simp only [go_sem])
      exact ret_b rfl (by rw [fewE]; first | (rw [decide_eq_decide]; omega) | (symm; rw [decide_eq_false_iff_not]; omega))
    · skip
      (refine aOps_z rfl (by rw [hall]; rfl) rfl ?_; try simp only [go_sem])
      (refine aOps_z rfl (by rw [hall]; rfl) rfl ?_; try simp only [go_sem])
      repeat ((first | refine aOps_nil ?_ | refine aOps_a rfl rfl rfl ?_); try simp only [go_sem])
      repeat ((first | refine aOps_nil ?_ | refine aOps_a rfl rfl rfl ?_); try simp only [go_sem])
      (apply hKx9; (try clear hKx9 Kx9); try simp only [go_sem])
      (refine WpA.ret ?_; try simp only [go_sem])
      exact ret_b rfl (by rw [fewE]; first | (rw [decide_eq_decide]; omega) | (symm; rw [decide_eq_false_iff_not]; omega))
end Go.Proofs.Ytfpbdphdahfgbaa
