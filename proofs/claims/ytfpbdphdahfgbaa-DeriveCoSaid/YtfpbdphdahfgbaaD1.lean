/- What goes by memory. -/
import Derived.Test.YtfpbdphdahfgbaaS2
namespace Go.Proofs.Ytfpbdphdahfgbaa
open Go Go.RowKit Go.Proofs.Ytfpbdphdahfgbaa.Fw

set_option maxHeartbeats 4000000 in
theorem behind1_calls (x : Ev) (loc : Int) : PCalls Try.prog 90 [evA x, .at [.val (.int .i64 loc)]] (.val (bv (isW loc x))) := by
  refine PCalls.of_body Try.func90 rfl rfl Try.ntmps90 Try.results90 ?_
  simp only [go_sem, List.replicate]
  refine WpA.seq fun Kx1 hKx1 => ?_
  refine WpA.reg fun all hall => ?_
  repeat ((first | refine aOps_nil ?_ | refine aOps_a rfl rfl rfl ?_); try simp only [go_sem])
  repeat ((first | refine aOps_nil ?_ | refine aOps_a rfl rfl rfl ?_); try simp only [go_sem])
  (apply hKx1; (try clear hKx1 Kx1); try simp only [go_sem])
  refine WpA.seq fun Kx2 hKx2 => ?_
  refine WpA.reg fun all hall => ?_
  repeat ((first | refine aOps_nil ?_ | refine aOps_a rfl rfl rfl ?_); try simp only [go_sem])
  refine aOps_split (d := 7) rfl (fun hg1_3 => ?_) (fun hg1_3 => ?_) <;> (try simp only [decide_eq_true_eq, decide_eq_false_iff_not] at hg1_3) <;> try simp only [go_sem]
  · skip
    (refine aOps_ya rfl rfl rfl (by rw [hall]; rfl) rfl ?_; try simp only [go_sem])
    (refine aOps_ya rfl rfl rfl (by rw [hall]; rfl) rfl ?_; try simp only [go_sem])
    (refine aOps_ya rfl rfl rfl (by rw [hall]; rfl) rfl ?_; try simp only [go_sem])
    (refine aOps_ya rfl rfl rfl (by rw [hall]; rfl) rfl ?_; try simp only [go_sem])
    repeat ((first | refine aOps_nil ?_ | refine aOps_a rfl rfl rfl ?_); try simp only [go_sem])
    repeat ((first | refine aOps_nil ?_ | refine aOps_a rfl rfl rfl ?_); try simp only [go_sem])
    (apply hKx2; (try clear hKx2 Kx2); try simp only [go_sem])
    (refine WpA.ret ?_; try simp only [go_sem])
    exact ret_b rfl (by simp [isW, *])
  · skip
    (refine aOps_z rfl (by rw [hall]; rfl) rfl ?_; try simp only [go_sem])
    (refine aOps_z rfl (by rw [hall]; rfl) rfl ?_; try simp only [go_sem])
    (refine aOps_z rfl (by rw [hall]; rfl) rfl ?_; try simp only [go_sem])
    (refine aOps_z rfl (by rw [hall]; rfl) rfl ?_; try simp only [go_sem])
    repeat ((first | refine aOps_nil ?_ | refine aOps_a rfl rfl rfl ?_); try simp only [go_sem])
    repeat ((first | refine aOps_nil ?_ | refine aOps_a rfl rfl rfl ?_); try simp only [go_sem])
    (apply hKx2; (try clear hKx2 Kx2); try simp only [go_sem])
    (refine WpA.ret ?_; try simp only [go_sem])
    exact ret_b rfl (by simp [isW, *])

/-- What a relation leads to, by bits. -/
def hasTo (co : List (BitVec 32)) (w : Int) : Nat → BitVec 32
  | 0 => 0#32
  | k + 1 => if hasR co w k then hasTo co w k ||| 1#32 <<< k else hasTo co w k
/-- What comes behind what a read reads. -/
def behindE (l : List Ev) (r : Nat) (w : Int) (co : List (BitVec 32)) : BitVec 32 :=
  if w = -1 then maskE (isW (l.getD r default).loc) l else if 0 ≤ w ∧ w < l.length ∧ (l.getD w.toNat default).kind = 2 then hasTo co w l.length else 0#32

set_option maxHeartbeats 4000000 in
theorem behind_calls (l : List Ev) (s : Six) (r : Nat) (w : Int) (co : List (BitVec 32)) (hl : l.length ≤ 32) (hr : r < l.length) : PCalls Try.prog 64 [exA l s, iv r, iv w, .pv (.imm (encU co))] (.val (uv (behindE l r w co).toNat)) := by
  refine PCalls.of_body Try.func64 rfl rfl Try.ntmps64 Try.results64 ?_
  simp only [go_sem, List.replicate]
  refine WpA.seq fun Kx1 hKx1 => ?_
  refine WpA.reg fun all hall => ?_
  repeat ((first | refine aOps_nil ?_ | refine aOps_a rfl rfl rfl ?_); try simp only [go_sem])
  repeat ((first | refine aOps_nil ?_ | refine aOps_a rfl rfl rfl ?_); try simp only [go_sem])
  (apply hKx1; (try clear hKx1 Kx1); try simp only [go_sem])
  refine WpA.seq fun Kx2 hKx2 => ?_
  refine WpA.block ?_
  refine WpA.seq fun Kx3 hKx3 => ?_
  refine WpA.reg fun all hall => ?_
  repeat ((first | refine aOps_nil ?_ | refine aOps_a rfl rfl rfl ?_); try simp only [go_sem])
  repeat ((first | refine aOps_nil ?_ | refine aOps_a rfl rfl rfl ?_); try simp only [go_sem])
  (apply hKx3; (try clear hKx3 Kx3); try simp only [go_sem])
  (refine WpA.cond rfl (fun hb12 => ?_) (fun hb12 => ?_) <;> try simp only [decide_eq_true_eq, decide_eq_false_iff_not, Bool.not_eq_true', Bool.not_eq_false'] at hb12)
  · skip
    have hw1 : w = -1 := by simpa using hb12
    refine WpA.seq fun Kx4 hKx4 => ?_
    refine WpA.reg fun all hall => ?_
    repeat ((first | refine aOps_nil ?_ | refine aOps_a rfl rfl rfl ?_); try simp only [go_sem])
    refine aOps_s rfl rfl (QK.at rfl Try.underlying22 ti25 rfl (by first | exact .inl rfl | exact .inr (.inl rfl) | exact .inr (.inr rfl)) rfl (encE_get hr) rfl ?_)
    try simp only [go_sem]
    repeat ((first | refine aOps_nil ?_ | refine aOps_a rfl rfl rfl ?_); try simp only [go_sem])
    refine aOps_s rfl rfl (QK.alloc rfl ti3 (by kernel_rfl) rfl ?_)
    try simp only [go_sem]
    refine aOps_n rfl (aOp.set rfl rfl rfl rfl ?_ ti3 ?_)
    · exact ⟨rfl, (by first | rfl | (simp only [go_sem]; done) | (simp []; done) | (simp []; omega) | omega)⟩
    try simp only [go_sem]
    repeat ((first | refine aOps_nil ?_ | refine aOps_a rfl rfl rfl ?_); try simp only [go_sem])
    (apply hKx4; (try clear hKx4 Kx4); try simp only [go_sem])
    refine WpA.seq fun Kx5 hKx5 => ?_
    refine WpA.reg fun all hall => ?_
    repeat ((first | refine aOps_nil ?_ | refine aOps_a rfl rfl rfl ?_); try simp only [go_sem])
    refine aOps_s rfl rfl (QK.call rfl rfl rfl (mask_calls l s hl 90 _ [.at [.val (.int .i64 l[r].loc)]] (isW l[r].loc) (ltA_fn1 _ _) (conv_fn1 _ _) (conv1_at _) (callF_fn _ _) (fun x => behind1_calls x l[r].loc)) (by repeat' (first | exact ConvL.nil | refine ConvL.cons ?_ ?_ | first | exact Conv.pv _ | exact Conv.imm_bor _ | exact Conv.bor _ | exact Conv.tight_imm _ | exact Conv.tight_bor _ | exact Conv.nil_imm | exact Conv.nil_bor | exact Conv.tight _ | exact Conv.at _ | exact Conv.row _ _ _ _ _ _ rfl (by first | rfl | (simp only [go_sem]; done) | (simp []; done) | (simp []; omega) | omega) | exact Conv.bat _ _ _ _ _ rfl rfl | exact Conv.aggp _ _ rfl | refine Conv.fnL _ ?_ | exact Conv.any _)) ?_)
    try simp only [go_sem]
    repeat ((first | refine aOps_nil ?_ | refine aOps_a rfl rfl rfl ?_); try simp only [go_sem])
    repeat ((first | refine aOps_nil ?_ | refine aOps_a rfl rfl rfl ?_); try simp only [go_sem])
    (apply hKx5; (try clear hKx5 Kx5); try simp only [go_sem])
    (refine WpA.ret ?_; try simp only [go_sem])
    exact ret_u rfl (by rw [behindE, if_pos hw1]; simp [hr])
  · skip
    have hw1 : ¬ w = -1 := by simpa using hb12
    refine WpA.seq fun Kx6 hKx6 => ?_
    refine WpA.reg fun all hall => ?_
    repeat ((first | refine aOps_nil ?_ | refine aOps_a rfl rfl rfl ?_); try simp only [go_sem])
    refine aOps_split (d := 27) rfl (fun hg4_2 => ?_) (fun hg4_2 => ?_) <;> (try simp only [decide_eq_true_eq, decide_eq_false_iff_not] at hg4_2) <;> try simp only [go_sem]
    · skip
      (refine aOps_z rfl (by rw [hall]; rfl) rfl ?_; try simp only [go_sem])
      (refine aOps_z rfl (by rw [hall]; rfl) rfl ?_; try simp only [go_sem])
      (refine aOps_z rfl (by rw [hall]; rfl) rfl ?_; try simp only [go_sem])
      (refine aOps_z rfl (by rw [hall]; rfl) rfl ?_; try simp only [go_sem])
      (refine aOps_z rfl (by rw [hall]; rfl) rfl ?_; try simp only [go_sem])
      repeat ((first | refine aOps_nil ?_ | refine aOps_a rfl rfl rfl ?_); try simp only [go_sem])
      (refine aOps_z rfl (by rw [hall]; rfl) rfl ?_; try simp only [go_sem])
      (refine aOps_z rfl (by rw [hall]; rfl) rfl ?_; try simp only [go_sem])
      (refine aOps_z rfl (by rw [hall]; rfl) rfl ?_; try simp only [go_sem])
      (refine aOps_z rfl (by rw [hall]; rfl) rfl ?_; try simp only [go_sem])
      (refine aOps_z rfl (by rw [hall]; rfl) rfl ?_; try simp only [go_sem])
      (refine aOps_z rfl (by rw [hall]; rfl) rfl ?_; try simp only [go_sem])
      (refine aOps_z rfl (by rw [hall]; rfl) rfl ?_; try simp only [go_sem])
      repeat ((first | refine aOps_nil ?_ | refine aOps_a rfl rfl rfl ?_); try simp only [go_sem])
      repeat ((first | refine aOps_nil ?_ | refine aOps_a rfl rfl rfl ?_); try simp only [go_sem])
      (apply hKx6; (try clear hKx6 Kx6); try simp only [go_sem])
      (refine WpA.cond rfl (fun hb24 => ?_) (fun hb24 => ?_) <;> try simp only [decide_eq_true_eq, decide_eq_false_iff_not, Bool.not_eq_true', Bool.not_eq_false'] at hb24)
      · skip
        refine WpA.seq fun Kx7 hKx7 => ?_
        refine WpA.reg fun all hall => ?_
        repeat ((first | refine aOps_nil ?_ | refine aOps_a rfl rfl rfl ?_); try simp only [go_sem])
        repeat ((first | refine aOps_nil ?_ | refine aOps_a rfl rfl rfl ?_); try simp only [go_sem])
        (apply hKx7; (try clear hKx7 Kx7); try simp only [go_sem])
        (refine WpA.ret ?_; try simp only [go_sem])
        exact ret_u rfl (by
          rw [behindE, if_neg hw1, if_neg]; rfl
          rintro ⟨h1, h2, h3⟩
          first
            | omega
            | (simp [hj] at h3; simp [h3] at hb24))
      · skip
        exact absurd hb24 (by decide)
    · skip
      (refine aOps_ya rfl rfl rfl (by rw [hall]; rfl) rfl ?_; try simp only [go_sem])
      (refine aOps_ya rfl rfl rfl (by rw [hall]; rfl) rfl ?_; try simp only [go_sem])
      (refine aOps_ya rfl rfl rfl (by rw [hall]; rfl) rfl ?_; try simp only [go_sem])
      (refine aOps_ya rfl rfl rfl (by rw [hall]; rfl) rfl ?_; try simp only [go_sem])
      (refine aOps_ya rfl rfl rfl (by rw [hall]; rfl) rfl ?_; try simp only [go_sem])
      repeat ((first | refine aOps_nil ?_ | refine aOps_a rfl rfl rfl ?_); try simp only [go_sem])
      refine aOps_split (d := 34) rfl (fun hg4_9 => ?_) (fun hg4_9 => ?_) <;> (try simp only [decide_eq_true_eq, decide_eq_false_iff_not] at hg4_9) <;> try simp only [go_sem]
      · skip
        (refine aOps_z rfl (by rw [hall]; rfl) rfl ?_; try simp only [go_sem])
        (refine aOps_z rfl (by rw [hall]; rfl) rfl ?_; try simp only [go_sem])
        (refine aOps_z rfl (by rw [hall]; rfl) rfl ?_; try simp only [go_sem])
        (refine aOps_z rfl (by rw [hall]; rfl) rfl ?_; try simp only [go_sem])
        (refine aOps_z rfl (by rw [hall]; rfl) rfl ?_; try simp only [go_sem])
        (refine aOps_z rfl (by rw [hall]; rfl) rfl ?_; try simp only [go_sem])
        (refine aOps_z rfl (by rw [hall]; rfl) rfl ?_; try simp only [go_sem])
        repeat ((first | refine aOps_nil ?_ | refine aOps_a rfl rfl rfl ?_); try simp only [go_sem])
        repeat ((first | refine aOps_nil ?_ | refine aOps_a rfl rfl rfl ?_); try simp only [go_sem])
        (apply hKx6; (try clear hKx6 Kx6); try simp only [go_sem])
        (refine WpA.cond rfl (fun hb24 => ?_) (fun hb24 => ?_) <;> try simp only [decide_eq_true_eq, decide_eq_false_iff_not, Bool.not_eq_true', Bool.not_eq_false'] at hb24)
        · skip
          refine WpA.seq fun Kx8 hKx8 => ?_
          refine WpA.reg fun all hall => ?_
          repeat ((first | refine aOps_nil ?_ | refine aOps_a rfl rfl rfl ?_); try simp only [go_sem])
          repeat ((first | refine aOps_nil ?_ | refine aOps_a rfl rfl rfl ?_); try simp only [go_sem])
          (apply hKx8; (try clear hKx8 Kx8); try simp only [go_sem])
          (refine WpA.ret ?_; try simp only [go_sem])
          exact ret_u rfl (by
            rw [behindE, if_neg hw1, if_neg]; rfl
            rintro ⟨h1, h2, h3⟩
            first
              | omega
              | (simp [hj] at h3; simp [h3] at hb24))
        · skip
          exact absurd hb24 (by decide)
      · skip
        have hlt : 0 ≤ w ∧ w < l.length := by first | exact ⟨by omega, by omega⟩ | exact absurd hg4_9 (by decide)
        obtain ⟨j, rfl⟩ := Int.eq_ofNat_of_zero_le hlt.1
        have hj : j < l.length := by omega
        (refine aOps_ya rfl rfl rfl (by rw [hall]; rfl) rfl ?_; try simp only [go_sem])
        (refine aOps_ya rfl rfl rfl (by rw [hall]; rfl) rfl ?_; try simp only [go_sem])
        (refine aOps_ya rfl rfl rfl (by rw [hall]; rfl) rfl ?_; try simp only [go_sem])
        refine aOps_y rfl rfl (by rw [hall]; rfl) rfl (QK.at rfl Try.underlying22 ti25 rfl (by first | exact .inl rfl | exact .inr (.inl rfl) | exact .inr (.inr rfl)) rfl (encE_get hj) rfl ?_)
        try simp only [go_sem]
        (refine aOps_ya rfl rfl rfl (by rw [hall]; rfl) rfl ?_; try simp only [go_sem])
        (refine aOps_ya rfl rfl rfl (by rw [hall]; rfl) rfl ?_; try simp only [go_sem])
        (refine aOps_ya rfl rfl rfl (by rw [hall]; rfl) rfl ?_; try simp only [go_sem])
        repeat ((first | refine aOps_nil ?_ | refine aOps_a rfl rfl rfl ?_); try simp only [go_sem])
        repeat ((first | refine aOps_nil ?_ | refine aOps_a rfl rfl rfl ?_); try simp only [go_sem])
        (apply hKx6; (try clear hKx6 Kx6); try simp only [go_sem])
        (refine WpA.cond rfl (fun hb24 => ?_) (fun hb24 => ?_) <;> try simp only [decide_eq_true_eq, decide_eq_false_iff_not, Bool.not_eq_true', Bool.not_eq_false'] at hb24)
        · skip
          refine WpA.seq fun Kx9 hKx9 => ?_
          refine WpA.reg fun all hall => ?_
          repeat ((first | refine aOps_nil ?_ | refine aOps_a rfl rfl rfl ?_); try simp only [go_sem])
          repeat ((first | refine aOps_nil ?_ | refine aOps_a rfl rfl rfl ?_); try simp only [go_sem])
          (apply hKx9; (try clear hKx9 Kx9); try simp only [go_sem])
          (refine WpA.ret ?_; try simp only [go_sem])
          exact ret_u rfl (by
            rw [behindE, if_neg hw1, if_neg]; rfl
            rintro ⟨h1, h2, h3⟩
            first
              | omega
              | (simp [hj] at h3; simp [h3] at hb24))
        · skip
          have hk2 : l[j].kind = 2 := by simpa using hb24
          have hres : behindE l r j co = hasTo co j l.length := by rw [behindE, if_neg hw1, if_pos ⟨by omega, by omega, by simpa [hj] using hk2⟩]
          (refine WpA.skip ?_; try simp only [go_sem])
          (apply hKx2; (try clear hKx2 Kx2); try simp only [go_sem])
          refine WpA.seq fun Kx10 hKx10 => ?_
          refine WpA.reg fun all hall => ?_
          repeat ((first | refine aOps_nil ?_ | refine aOps_a rfl rfl rfl ?_); try simp only [go_sem])
          repeat ((first | refine aOps_nil ?_ | refine aOps_a rfl rfl rfl ?_); try simp only [go_sem])
          (apply hKx10; (try clear hKx10 Kx10); try simp only [go_sem])
          refine WpA.seq fun Kx11 hKx11 => ?_
          refine WpA.seq fun Kx12 hKx12 => ?_
          refine WpA.reg fun all hall => ?_
          repeat ((first | refine aOps_nil ?_ | refine aOps_a rfl rfl rfl ?_); try simp only [go_sem])
          repeat ((first | refine aOps_nil ?_ | refine aOps_a rfl rfl rfl ?_); try simp only [go_sem])
          (apply hKx12; (try clear hKx12 Kx12); try simp only [go_sem])
          refine WpA.block ?_
          refine WpA.iter (fun (k : Nat) => k ≤ l.length) (fun (k : Nat) => tpl 60 [(2, iv j), (3, .pv (.imm (encU co))), (10, uv (hasTo co j k).toNat), (45, iv l.length), (46, iv k)]) (fun (k : Nat) => [.box 30 (exC l s)]) (fun (k : Nat) => l.length - k) 0 (by omega) (by ((try simp only [tpl, List.foldl_cons, List.foldl_nil, List.replicate, List.set_cons_zero, List.set_cons_succ]); repeat (first | exact trivial | refine ⟨.inr rfl, ?_⟩ | refine ⟨.inl rfl, ?_⟩))) rfl ?_
          rintro k hp1
          simp only [tpl, List.foldl_cons, List.foldl_nil, List.replicate, List.set_cons_zero, List.set_cons_succ]
          refine WpA.seq fun Kx13 hKx13 => ?_
          refine WpA.reg fun all hall => ?_
          repeat ((first | refine aOps_nil ?_ | refine aOps_a rfl rfl rfl ?_); try simp only [go_sem])
          repeat ((first | refine aOps_nil ?_ | refine aOps_a rfl rfl rfl ?_); try simp only [go_sem])
          (apply hKx13; (try clear hKx13 Kx13); try simp only [go_sem])
          refine WpA.seq fun Kx14 hKx14 => ?_
          (refine WpA.cond rfl (fun hb47 => ?_) (fun hb47 => ?_) <;> try simp only [decide_eq_true_eq, decide_eq_false_iff_not, Bool.not_eq_true', Bool.not_eq_false'] at hb47)
          · skip
            have hk : k < l.length := by omega
            have hn : hasTo co j (k + 1) = if hasR co j k then hasTo co j k ||| 1#32 <<< k else hasTo co j k := rfl
            (refine WpA.skip ?_; try simp only [go_sem])
            (apply hKx14; (try clear hKx14 Kx14); try simp only [go_sem])
            refine WpA.seq fun Kx15 hKx15 => ?_
            refine WpA.block ?_
            refine WpA.seq fun Kx16 hKx16 => ?_
            refine WpA.reg fun all hall => ?_
            repeat ((first | refine aOps_nil ?_ | refine aOps_a rfl rfl rfl ?_); try simp only [go_sem])
            repeat ((first | refine aOps_nil ?_ | refine aOps_a rfl rfl rfl ?_); try simp only [go_sem])
            (apply hKx16; (try clear hKx16 Kx16); try simp only [go_sem])
            refine WpA.seq fun Kx17 hKx17 => ?_
            refine WpA.reg fun all hall => ?_
            repeat ((first | refine aOps_nil ?_ | refine aOps_a rfl rfl rfl ?_); try simp only [go_sem])
            refine aOps_s rfl rfl (QK.call rfl rfl rfl (has_calls co j k) (by repeat' (first | exact ConvL.nil | refine ConvL.cons ?_ ?_ | first | exact Conv.pv _ | exact Conv.imm_bor _ | exact Conv.bor _ | exact Conv.tight_imm _ | exact Conv.tight_bor _ | exact Conv.nil_imm | exact Conv.nil_bor | exact Conv.tight _ | exact Conv.at _ | exact Conv.row _ _ _ _ _ _ rfl (by first | rfl | (simp only [go_sem]; done) | (simp []; done) | (simp []; omega) | omega) | exact Conv.bat _ _ _ _ _ rfl rfl | exact Conv.aggp _ _ rfl | refine Conv.fnL _ ?_ | exact Conv.any _)) ?_)
            try simp only [go_sem]
            repeat ((first | refine aOps_nil ?_ | refine aOps_a rfl rfl rfl ?_); try simp only [go_sem])
            (apply hKx17; (try clear hKx17 Kx17); try simp only [go_sem])
            (refine WpA.cond rfl (fun hb52 => ?_) (fun hb52 => ?_) <;> try simp only [decide_eq_true_eq, decide_eq_false_iff_not, Bool.not_eq_true', Bool.not_eq_false'] at hb52)
            · skip
              rw [if_pos hb52] at hn
              refine WpA.reg fun all hall => ?_
              ((first | refine aOps_nil ?_ | refine aOps_a rfl rfl rfl ?_); try simp only [go_sem])
              ((first | refine aOps_nil ?_ | refine aOps_a rfl rfl rfl ?_); try simp only [go_sem])
              ((first | refine aOps_nil ?_ | refine aOps_a rfl rfl rfl ?_); try simp only [go_sem])
              simp only [wu k (by omega)]
              ((first | refine aOps_nil ?_ | refine aOps_a rfl rfl rfl ?_); try simp only [go_sem])
              simp only [Int.toNat_natCast, shl1 k (by omega)]
              repeat ((first | refine aOps_nil ?_ | refine aOps_a rfl rfl rfl ?_); try simp only [go_sem])
              repeat ((first | refine aOps_nil ?_ | refine aOps_a rfl rfl rfl ?_); try simp only [go_sem])
              (apply hKx15; (try clear hKx15 Kx15); try simp only [go_sem])
              refine WpA.reg fun all hall => ?_
              repeat ((first | refine aOps_nil ?_ | refine aOps_a rfl rfl rfl ?_); try simp only [go_sem])
              repeat ((first | refine aOps_nil ?_ | refine aOps_a rfl rfl rfl ?_); try simp only [go_sem])
              rw [wi1 k (by omega)]
              exact ⟨k + 1, ⟨hk, by omega⟩, (by rw [hn]; ((try simp only [tpl, List.foldl_cons, List.foldl_nil, List.replicate, List.set_cons_zero, List.set_cons_succ]); repeat (first | exact trivial | refine ⟨.inr rfl, ?_⟩ | refine ⟨.inl rfl, ?_⟩))), rfl⟩
            · skip
              rw [if_neg (by simp [hb52])] at hn
              (refine WpA.skip ?_; try simp only [go_sem])
              (apply hKx15; (try clear hKx15 Kx15); try simp only [go_sem])
              refine WpA.reg fun all hall => ?_
              repeat ((first | refine aOps_nil ?_ | refine aOps_a rfl rfl rfl ?_); try simp only [go_sem])
              repeat ((first | refine aOps_nil ?_ | refine aOps_a rfl rfl rfl ?_); try simp only [go_sem])
              rw [wi1 k (by omega)]
              exact ⟨k + 1, ⟨hk, by omega⟩, (by rw [hn]; ((try simp only [tpl, List.foldl_cons, List.foldl_nil, List.replicate, List.set_cons_zero, List.set_cons_succ]); repeat (first | exact trivial | refine ⟨.inr rfl, ?_⟩ | refine ⟨.inl rfl, ?_⟩))), rfl⟩
          · skip
            (refine WpA.exit ?_; try simp only [go_sem])
            (apply hKx11; (try clear hKx11 Kx11); try simp only [go_sem])
            refine WpA.seq fun Kx18 hKx18 => ?_
            refine WpA.reg fun all hall => ?_
            repeat ((first | refine aOps_nil ?_ | refine aOps_a rfl rfl rfl ?_); try simp only [go_sem])
            repeat ((first | refine aOps_nil ?_ | refine aOps_a rfl rfl rfl ?_); try simp only [go_sem])
            (apply hKx18; (try clear hKx18 Kx18); try simp only [go_sem])
            (refine WpA.ret ?_; try simp only [go_sem])
            have h1 : k = l.length := by omega
            subst h1
            exact ret_u rfl (by rw [hres])

def frTo (l : List Ev) (a : List Int) (co : List (BitVec 32)) : Nat → List (BitVec 32)
  | 0 => newR l.length
  | k + 1 => orR (frTo l a co k) (crossR l.length (1#32 <<< k) (behindE l k (a.getD k 0) co &&& ~~~(1#32 <<< k)))
def frE (l : List Ev) (a : List Int) (co : List (BitVec 32)) : List (BitVec 32) := frTo l a co l.length

set_option maxHeartbeats 4000000 in
theorem fr_calls (l : List Ev) (s : Six) (a : List Int) (co : List (BitVec 32)) (hl : l.length ≤ 32) (ha : a.length = l.length) : PCalls Try.prog 34 [exA l s, .pv (.imm (encZ a)), .pv (.imm (encU co))] (.val (.pv (.imm (encU (frE l a co))))) := by
  refine PCalls.of_body Try.func34 rfl rfl Try.ntmps34 Try.results34 ?_
  simp only [go_sem, List.replicate]
  refine WpA.seq fun Kx1 hKx1 => ?_
  refine WpA.reg fun all hall => ?_
  repeat ((first | refine aOps_nil ?_ | refine aOps_a rfl rfl rfl ?_); try simp only [go_sem])
  repeat ((first | refine aOps_nil ?_ | refine aOps_a rfl rfl rfl ?_); try simp only [go_sem])
  (apply hKx1; (try clear hKx1 Kx1); try simp only [go_sem])
  refine WpA.seq fun Kx2 hKx2 => ?_
  refine WpA.reg fun all hall => ?_
  repeat ((first | refine aOps_nil ?_ | refine aOps_a rfl rfl rfl ?_); try simp only [go_sem])
  repeat ((first | refine aOps_nil ?_ | refine aOps_a rfl rfl rfl ?_); try simp only [go_sem])
  (apply hKx2; (try clear hKx2 Kx2); try simp only [go_sem])
  refine WpA.seq fun Kx3 hKx3 => ?_
  refine WpA.reg fun all hall => ?_
  repeat ((first | refine aOps_nil ?_ | refine aOps_a rfl rfl rfl ?_); try simp only [go_sem])
  refine aOps_s rfl rfl (QK.call rfl rfl rfl (new_imm l.length (by omega)) (by repeat' (first | exact ConvL.nil | refine ConvL.cons ?_ ?_ | first | exact Conv.pv _ | exact Conv.imm_bor _ | exact Conv.bor _ | exact Conv.tight_imm _ | exact Conv.tight_bor _ | exact Conv.nil_imm | exact Conv.nil_bor | exact Conv.tight _ | exact Conv.at _ | exact Conv.row _ _ _ _ _ _ rfl (by first | rfl | (simp only [go_sem]; done) | (simp []; done) | (simp []; omega) | omega) | exact Conv.bat _ _ _ _ _ rfl rfl | exact Conv.aggp _ _ rfl | refine Conv.fnL _ ?_ | exact Conv.any _)) ?_)
  try simp only [go_sem]
  repeat ((first | refine aOps_nil ?_ | refine aOps_a rfl rfl rfl ?_); try simp only [go_sem])
  repeat ((first | refine aOps_nil ?_ | refine aOps_a rfl rfl rfl ?_); try simp only [go_sem])
  (apply hKx3; (try clear hKx3 Kx3); try simp only [go_sem])
  refine WpA.seq fun Kx4 hKx4 => ?_
  refine WpA.seq fun Kx5 hKx5 => ?_
  refine WpA.reg fun all hall => ?_
  ((first | refine aOps_nil ?_ | refine aOps_a rfl rfl rfl ?_); try simp only [go_sem])
  ((first | refine aOps_nil ?_ | refine aOps_a rfl rfl rfl ?_); try simp only [go_sem])
  ((first | refine aOps_nil ?_ | refine aOps_a rfl rfl rfl ?_); try simp only [go_sem])
  ((first | refine aOps_nil ?_ | refine aOps_a rfl rfl rfl ?_); try simp only [go_sem])
  rw [show (if (l.length : Int) < (a.length : Int) then (l.length : Int) else (a.length : Int)) = (l.length : Int) from by rw [ha]; simp]
  repeat ((first | refine aOps_nil ?_ | refine aOps_a rfl rfl rfl ?_); try simp only [go_sem])
  repeat ((first | refine aOps_nil ?_ | refine aOps_a rfl rfl rfl ?_); try simp only [go_sem])
  (apply hKx5; (try clear hKx5 Kx5); try simp only [go_sem])
  refine WpA.block ?_
  refine WpA.iter (fun (k : Nat) => k ≤ l.length) (fun (k : Nat) => tpl 43 [(1, .pv (.imm (encZ a))), (2, .pv (.imm (encU co))), (3, .bat 0 0), (7, iv l.length), (8, .pv (.imm (encU (frTo l a co k)))), (19, iv l.length), (20, iv k)]) (fun (k : Nat) => [.box 30 (exC l s)]) (fun (k : Nat) => l.length - k) 0 (by omega) (by ((try simp only [tpl, List.foldl_cons, List.foldl_nil, List.replicate, List.set_cons_zero, List.set_cons_succ]); repeat (first | exact trivial | refine ⟨.inr rfl, ?_⟩ | refine ⟨.inl rfl, ?_⟩))) rfl ?_
  rintro k hp0
  simp only [tpl, List.foldl_cons, List.foldl_nil, List.replicate, List.set_cons_zero, List.set_cons_succ]
  refine WpA.seq fun Kx6 hKx6 => ?_
  refine WpA.reg fun all hall => ?_
  repeat ((first | refine aOps_nil ?_ | refine aOps_a rfl rfl rfl ?_); try simp only [go_sem])
  repeat ((first | refine aOps_nil ?_ | refine aOps_a rfl rfl rfl ?_); try simp only [go_sem])
  (apply hKx6; (try clear hKx6 Kx6); try simp only [go_sem])
  refine WpA.seq fun Kx7 hKx7 => ?_
  (refine WpA.cond rfl (fun hb21 => ?_) (fun hb21 => ?_) <;> try simp only [decide_eq_true_eq, decide_eq_false_iff_not, Bool.not_eq_true', Bool.not_eq_false'] at hb21)
  · skip
    have hk : k < l.length := by omega
    have hka : k < a.length := by omega
    have hn : frTo l a co (k + 1) = orR (frTo l a co k) (crossR l.length (1#32 <<< k) (behindE l k a[k] co &&& ~~~(1#32 <<< k))) := by rw [frTo]; simp [hka]
    (refine WpA.skip ?_; try simp only [go_sem])
    (apply hKx7; (try clear hKx7 Kx7); try simp only [go_sem])
    refine WpA.seq fun Kx8 hKx8 => ?_
    refine WpA.block ?_
    refine WpA.seq fun Kx9 hKx9 => ?_
    refine WpA.reg fun all hall => ?_
    repeat ((first | refine aOps_nil ?_ | refine aOps_a rfl rfl rfl ?_); try simp only [go_sem])
    repeat ((first | refine aOps_nil ?_ | refine aOps_a rfl rfl rfl ?_); try simp only [go_sem])
    (apply hKx9; (try clear hKx9 Kx9); try simp only [go_sem])
    refine WpA.seq fun Kx10 hKx10 => ?_
    refine WpA.reg fun all hall => ?_
    ((first | refine aOps_nil ?_ | refine aOps_a rfl rfl rfl ?_); try simp only [go_sem])
    ((first | refine aOps_nil ?_ | refine aOps_a rfl rfl rfl ?_); try simp only [go_sem])
    simp only [wu k (by omega)]
    ((first | refine aOps_nil ?_ | refine aOps_a rfl rfl rfl ?_); try simp only [go_sem])
    simp only [Int.toNat_natCast, shl1 k (by omega)]
    repeat ((first | refine aOps_nil ?_ | refine aOps_a rfl rfl rfl ?_); try simp only [go_sem])
    repeat ((first | refine aOps_nil ?_ | refine aOps_a rfl rfl rfl ?_); try simp only [go_sem])
    (apply hKx10; (try clear hKx10 Kx10); try simp only [go_sem])
    refine WpA.regD (0 + 1 + 1 + 1 + 1 + 1 + 1 + 1 + 1 + 1 + 1 + 1 + 1 + 1 + 1) mixed (by kernel_rfl) fun all hall => ?_
    repeat ((first | refine aOps_nil ?_ | refine aOps_a rfl rfl rfl ?_); try simp only [go_sem])
    refine aOps_s rfl rfl (QK.at rfl Try.underlying39 ti3 rfl (by first | exact .inl rfl | exact .inr (.inl rfl) | exact .inr (.inr rfl)) rfl (encZ_get hka) rfl ?_)
    try simp only [go_sem]
    repeat ((first | refine aOps_nil ?_ | refine aOps_a rfl rfl rfl ?_); try simp only [go_sem])
    refine aOps_s rfl rfl (QK.call rfl rfl rfl (behind_calls l s k a[k] co hl hk) (by repeat' (first | exact ConvL.nil | refine ConvL.cons ?_ ?_ | first | exact Conv.pv _ | exact Conv.imm_bor _ | exact Conv.bor _ | exact Conv.tight_imm _ | exact Conv.tight_bor _ | exact Conv.nil_imm | exact Conv.nil_bor | exact Conv.tight _ | exact Conv.at _ | exact Conv.row _ _ _ _ _ _ rfl (by first | rfl | (simp only [go_sem]; done) | (simp []; done) | (simp []; omega) | omega) | exact Conv.bat _ _ _ _ _ rfl rfl | exact Conv.aggp _ _ rfl | refine Conv.fnL _ ?_ | exact Conv.any _)) ?_)
    try simp only [go_sem]
    repeat ((first | refine aOps_nil ?_ | refine aOps_a rfl rfl rfl ?_); try simp only [go_sem])
    refine aOps_s rfl rfl (QK.call rfl rfl rfl (cross_calls l.length (by omega) _ _) (by repeat' (first | exact ConvL.nil | refine ConvL.cons ?_ ?_ | first | exact Conv.pv _ | exact Conv.imm_bor _ | exact Conv.bor _ | exact Conv.tight_imm _ | exact Conv.tight_bor _ | exact Conv.nil_imm | exact Conv.nil_bor | exact Conv.tight _ | exact Conv.at _ | exact Conv.row _ _ _ _ _ _ rfl (by first | rfl | (simp only [go_sem]; done) | (simp []; done) | (simp []; omega) | omega) | exact Conv.bat _ _ _ _ _ rfl rfl | exact Conv.aggp _ _ rfl | refine Conv.fnL _ ?_ | exact Conv.any _)) ?_)
    try simp only [go_sem]
    refine aOps_s rfl rfl (QK.call rfl rfl rfl (or_calls _ _) (by repeat' (first | exact ConvL.nil | refine ConvL.cons ?_ ?_ | first | exact Conv.pv _ | exact Conv.imm_bor _ | exact Conv.bor _ | exact Conv.tight_imm _ | exact Conv.tight_bor _ | exact Conv.nil_imm | exact Conv.nil_bor | exact Conv.tight _ | exact Conv.at _ | exact Conv.row _ _ _ _ _ _ rfl (by first | rfl | (simp only [go_sem]; done) | (simp []; done) | (simp []; omega) | omega) | exact Conv.bat _ _ _ _ _ rfl rfl | exact Conv.aggp _ _ rfl | refine Conv.fnL _ ?_ | exact Conv.any _)) ?_)
    try simp only [go_sem]
    repeat ((first | refine aOps_nil ?_ | refine aOps_a rfl rfl rfl ?_); try simp only [go_sem])
    repeat ((first | refine aOps_nil ?_ | refine aOps_a rfl rfl rfl ?_); try simp only [go_sem])
    (apply hKx8; (try clear hKx8 Kx8); try simp only [go_sem])
    refine WpA.reg fun all hall => ?_
    repeat ((first | refine aOps_nil ?_ | refine aOps_a rfl rfl rfl ?_); try simp only [go_sem])
    repeat ((first | refine aOps_nil ?_ | refine aOps_a rfl rfl rfl ?_); try simp only [go_sem])
    rw [wi1 k (by omega)]
    exact ⟨k + 1, ⟨hk, by omega⟩, (by rw [hn]; ((try simp only [tpl, List.foldl_cons, List.foldl_nil, List.replicate, List.set_cons_zero, List.set_cons_succ]); repeat (first | exact trivial | refine ⟨.inr rfl, ?_⟩ | refine ⟨.inl rfl, ?_⟩))), rfl⟩
  · skip
    (refine WpA.exit ?_; try simp only [go_sem])
    (apply hKx4; (try clear hKx4 Kx4); try simp only [go_sem])
    refine WpA.seq fun Kx11 hKx11 => ?_
    refine WpA.reg fun all hall => ?_
    repeat ((first | refine aOps_nil ?_ | refine aOps_a rfl rfl rfl ?_); try simp only [go_sem])
    repeat ((first | refine aOps_nil ?_ | refine aOps_a rfl rfl rfl ?_); try simp only [go_sem])
    (apply hKx11; (try clear hKx11 Kx11); try simp only [go_sem])
    (refine WpA.ret ?_; try simp only [go_sem])
    have h1 : k = l.length := by omega
    subst h1
    exact RetQ.val (.pv _)

set_option maxHeartbeats 4000000 in
theorem within_calls (l : List Ev) (s : Six) (r : List (BitVec 32)) (hl : l.length < 9223372036854775807) : PCalls Try.prog 43 [exA l s, .pv (.imm (encU r))] (.val (.pv (.imm (encU (andR r (pairsE innerE l)))))) := by
  refine PCalls.of_body Try.func43 rfl rfl Try.ntmps43 Try.results43 ?_
  simp only [go_sem, List.replicate]
  refine WpA.seq fun Kx1 hKx1 => ?_
  refine WpA.reg fun all hall => ?_
  repeat ((first | refine aOps_nil ?_ | refine aOps_a rfl rfl rfl ?_); try simp only [go_sem])
  repeat ((first | refine aOps_nil ?_ | refine aOps_a rfl rfl rfl ?_); try simp only [go_sem])
  (apply hKx1; (try clear hKx1 Kx1); try simp only [go_sem])
  refine WpA.seq fun Kx2 hKx2 => ?_
  refine WpA.reg fun all hall => ?_
  repeat ((first | refine aOps_nil ?_ | refine aOps_a rfl rfl rfl ?_); try simp only [go_sem])
  refine aOps_s rfl rfl (QK.call rfl rfl rfl (inner_calls l s hl) (by repeat' (first | exact ConvL.nil | refine ConvL.cons ?_ ?_ | first | exact Conv.pv _ | exact Conv.imm_bor _ | exact Conv.bor _ | exact Conv.tight_imm _ | exact Conv.tight_bor _ | exact Conv.nil_imm | exact Conv.nil_bor | exact Conv.tight _ | exact Conv.at _ | exact Conv.row _ _ _ _ _ _ rfl (by first | rfl | (simp only [go_sem]; done) | (simp []; done) | (simp []; omega) | omega) | exact Conv.bat _ _ _ _ _ rfl rfl | exact Conv.aggp _ _ rfl | refine Conv.fnL _ ?_ | exact Conv.any _)) ?_)
  try simp only [go_sem]
  refine aOps_s rfl rfl (QK.call rfl rfl rfl (and_calls _ _) (by repeat' (first | exact ConvL.nil | refine ConvL.cons ?_ ?_ | first | exact Conv.pv _ | exact Conv.imm_bor _ | exact Conv.bor _ | exact Conv.tight_imm _ | exact Conv.tight_bor _ | exact Conv.nil_imm | exact Conv.nil_bor | exact Conv.tight _ | exact Conv.at _ | exact Conv.row _ _ _ _ _ _ rfl (by first | rfl | (simp only [go_sem]; done) | (simp []; done) | (simp []; omega) | omega) | exact Conv.bat _ _ _ _ _ rfl rfl | exact Conv.aggp _ _ rfl | refine Conv.fnL _ ?_ | exact Conv.any _)) ?_)
  try simp only [go_sem]
  repeat ((first | refine aOps_nil ?_ | refine aOps_a rfl rfl rfl ?_); try simp only [go_sem])
  repeat ((first | refine aOps_nil ?_ | refine aOps_a rfl rfl rfl ?_); try simp only [go_sem])
  (apply hKx2; (try clear hKx2 Kx2); try simp only [go_sem])
  (refine WpA.ret ?_; try simp only [go_sem])
  exact RetQ.val (.pv _)

def outerStep (l : List Ev) (r : List (BitVec 32)) (p : Nat × Nat) : List (BitVec 32) := if (l.getD p.1 default).thread = (l.getD p.2 default).thread then r else putR r p.1 p.2
def outerE (l : List Ev) (r : List (BitVec 32)) : List (BitVec 32) := if r.length = l.length then (pairsR r).foldl (outerStep l) (newR l.length) else []

set_option maxHeartbeats 4000000 in
theorem outer_calls (l : List Ev) (s : Six) (r : List (BitVec 32)) (hl : l.length ≤ 32) : PCalls Try.prog 68 [exA l s, .pv (.imm (encU r))] (.val (.pv (.imm (encU (outerE l r))))) := by
  refine PCalls.of_body Try.func68 rfl rfl Try.ntmps68 Try.results68 ?_
  simp only [go_sem, List.replicate]
  refine WpA.seq fun Kx1 hKx1 => ?_
  refine WpA.reg fun all hall => ?_
  repeat ((first | refine aOps_nil ?_ | refine aOps_a rfl rfl rfl ?_); try simp only [go_sem])
  repeat ((first | refine aOps_nil ?_ | refine aOps_a rfl rfl rfl ?_); try simp only [go_sem])
  (apply hKx1; (try clear hKx1 Kx1); try simp only [go_sem])
  refine WpA.seq fun Kx2 hKx2 => ?_
  refine WpA.reg fun all hall => ?_
  repeat ((first | refine aOps_nil ?_ | refine aOps_a rfl rfl rfl ?_); try simp only [go_sem])
  repeat ((first | refine aOps_nil ?_ | refine aOps_a rfl rfl rfl ?_); try simp only [go_sem])
  (apply hKx2; (try clear hKx2 Kx2); try simp only [go_sem])
  refine WpA.seq fun Kx3 hKx3 => ?_
  refine WpA.reg fun all hall => ?_
  repeat ((first | refine aOps_nil ?_ | refine aOps_a rfl rfl rfl ?_); try simp only [go_sem])
  refine aOps_s rfl rfl (QK.call rfl rfl rfl (new_imm l.length (by omega)) (by repeat' (first | exact ConvL.nil | refine ConvL.cons ?_ ?_ | first | exact Conv.pv _ | exact Conv.imm_bor _ | exact Conv.bor _ | exact Conv.tight_imm _ | exact Conv.tight_bor _ | exact Conv.nil_imm | exact Conv.nil_bor | exact Conv.tight _ | exact Conv.at _ | exact Conv.row _ _ _ _ _ _ rfl (by first | rfl | (simp only [go_sem]; done) | (simp []; done) | (simp []; omega) | omega) | exact Conv.bat _ _ _ _ _ rfl rfl | exact Conv.aggp _ _ rfl | refine Conv.fnL _ ?_ | exact Conv.any _)) ?_)
  try simp only [go_sem]
  repeat ((first | refine aOps_nil ?_ | refine aOps_a rfl rfl rfl ?_); try simp only [go_sem])
  repeat ((first | refine aOps_nil ?_ | refine aOps_a rfl rfl rfl ?_); try simp only [go_sem])
  (apply hKx3; (try clear hKx3 Kx3); try simp only [go_sem])
  refine WpA.seq fun Kx4 hKx4 => ?_
  refine WpA.seq fun Kx5 hKx5 => ?_
  refine WpA.reg fun all hall => ?_
  repeat ((first | refine aOps_nil ?_ | refine aOps_a rfl rfl rfl ?_); try simp only [go_sem])
  repeat ((first | refine aOps_nil ?_ | refine aOps_a rfl rfl rfl ?_); try simp only [go_sem])
  (apply hKx5; (try clear hKx5 Kx5); try simp only [go_sem])
  (refine WpA.cond rfl (fun hb17 => ?_) (fun hb17 => ?_) <;> try simp only [decide_eq_true_eq, decide_eq_false_iff_not, Bool.not_eq_true', Bool.not_eq_false'] at hb17)
  · skip
    refine WpA.seq fun Kx6 hKx6 => ?_
    refine WpA.reg fun all hall => ?_
    refine aOps_s rfl rfl (QK.lit rfl Try.underlying27 ti76 rfl rfl ?_)
    try simp only [go_sem]
    repeat ((first | refine aOps_nil ?_ | refine aOps_a rfl rfl rfl ?_); try simp only [go_sem])
    repeat ((first | refine aOps_nil ?_ | refine aOps_a rfl rfl rfl ?_); try simp only [go_sem])
    (apply hKx6; (try clear hKx6 Kx6); try simp only [go_sem])
    (refine WpA.ret ?_; try simp only [go_sem])
    rw [outerE, if_neg (by simp at hb17; omega)]
    exact RetQ.val (.tight _)
  · skip
    have hrl : r.length = l.length := by simp at hb17; omega
    (refine WpA.skip ?_; try simp only [go_sem])
    (apply hKx4; (try clear hKx4 Kx4); try simp only [go_sem])
    refine WpA.seq fun Kx7 hKx7 => ?_
    refine WpA.seq fun Kx8 hKx8 => ?_
    refine WpA.reg fun all hall => ?_
    repeat ((first | refine aOps_nil ?_ | refine aOps_a rfl rfl rfl ?_); try simp only [go_sem])
    refine aOps_s rfl rfl (QK.call rfl rfl rfl (pairs_calls r) (by repeat' (first | exact ConvL.nil | refine ConvL.cons ?_ ?_ | first | exact Conv.pv _ | exact Conv.imm_bor _ | exact Conv.bor _ | exact Conv.tight_imm _ | exact Conv.tight_bor _ | exact Conv.nil_imm | exact Conv.nil_bor | exact Conv.tight _ | exact Conv.at _ | exact Conv.row _ _ _ _ _ _ rfl (by first | rfl | (simp only [go_sem]; done) | (simp []; done) | (simp []; omega) | omega) | exact Conv.bat _ _ _ _ _ rfl rfl | exact Conv.aggp _ _ rfl | refine Conv.fnL _ ?_ | exact Conv.any _)) ?_)
    try simp only [go_sem]
    repeat ((first | refine aOps_nil ?_ | refine aOps_a rfl rfl rfl ?_); try simp only [go_sem])
    repeat ((first | refine aOps_nil ?_ | refine aOps_a rfl rfl rfl ?_); try simp only [go_sem])
    (apply hKx8; (try clear hKx8 Kx8); try simp only [go_sem])
    refine WpA.block ?_
    have hpl := pairsR_len r
    refine WpA.iter (fun (k : Nat) => k ≤ (pairsR r).length) (fun (k : Nat) => tpl 49 [(2, .bat 0 0), (6, .pv (.imm (encU (((pairsR r).take k).foldl (outerStep l) (newR l.length))))), (20, .pv (.imm (encP (pairsR r)))), (21, iv (pairsR r).length), (22, iv k)]) (fun (k : Nat) => [.box 30 (exC l s)]) (fun (k : Nat) => (pairsR r).length - k) 0 (by omega) (by ((try simp only [tpl, List.foldl_cons, List.foldl_nil, List.replicate, List.set_cons_zero, List.set_cons_succ]); repeat (first | exact trivial | refine ⟨.inr rfl, ?_⟩ | refine ⟨.inl rfl, ?_⟩))) rfl ?_
    rintro k hp0
    simp only [tpl, List.foldl_cons, List.foldl_nil, List.replicate, List.set_cons_zero, List.set_cons_succ]
    refine WpA.seq fun Kx9 hKx9 => ?_
    refine WpA.reg fun all hall => ?_
    repeat ((first | refine aOps_nil ?_ | refine aOps_a rfl rfl rfl ?_); try simp only [go_sem])
    repeat ((first | refine aOps_nil ?_ | refine aOps_a rfl rfl rfl ?_); try simp only [go_sem])
    (apply hKx9; (try clear hKx9 Kx9); try simp only [go_sem])
    refine WpA.seq fun Kx10 hKx10 => ?_
    (refine WpA.cond rfl (fun hb23 => ?_) (fun hb23 => ?_) <;> try simp only [decide_eq_true_eq, decide_eq_false_iff_not, Bool.not_eq_true', Bool.not_eq_false'] at hb23)
    · skip
      have hk : k < (pairsR r).length := by omega
      obtain ⟨h1, h2, _⟩ := pairsTo_mem (List.getElem_mem hk)
      have hcl := cleanR_pos h1
      rw [hcl.2] at h1
      have hres : ((pairsR r).take (k + 1)).foldl (outerStep l) (newR l.length) = outerStep l (((pairsR r).take k).foldl (outerStep l) (newR l.length)) (pairsR r)[k] := foldl_take _ _ _ _ hk
      have hget := encP_get hk
      generalize (pairsR r)[k] = q at h1 h2 hres hget
      have hq1 : q.1 < l.length := by omega
      have hq2 : q.2 < l.length := by omega
      simp only [outerStep, List.getD_eq_getElem?_getD, List.getElem?_eq_getElem hq1, List.getElem?_eq_getElem hq2, Option.getD_some] at hres
      (refine WpA.skip ?_; try simp only [go_sem])
      (apply hKx10; (try clear hKx10 Kx10); try simp only [go_sem])
      refine WpA.seq fun Kx11 hKx11 => ?_
      refine WpA.block ?_
      refine WpA.seq fun Kx12 hKx12 => ?_
      refine WpA.reg fun all hall => ?_
      refine aOps_s rfl rfl (QK.at rfl Try.underlying64 ti66 rfl (by first | exact .inl rfl | exact .inr (.inl rfl) | exact .inr (.inr rfl)) rfl hget rfl ?_)
      try simp only [go_sem]
      repeat ((first | refine aOps_nil ?_ | refine aOps_a rfl rfl rfl ?_); try simp only [go_sem])
      refine aOps_s rfl rfl (QK.alloc rfl ti66 (by kernel_rfl) rfl ?_)
      try simp only [go_sem]
      refine aOps_n rfl (aOp.set rfl rfl rfl rfl ?_ ti66 ?_)
      · exact ⟨rfl, (by first | rfl | (simp only [go_sem]; done) | (simp []; done) | (simp []; omega) | omega)⟩
      try simp only [go_sem]
      repeat ((first | refine aOps_nil ?_ | refine aOps_a rfl rfl rfl ?_); try simp only [go_sem])
      (apply hKx12; (try clear hKx12 Kx12); try simp only [go_sem])
      refine WpA.seq fun Kx13 hKx13 => ?_
      refine WpA.regD (0 + 1 + 1 + 1 + 1 + 1 + 1 + 1 + 1 + 1 + 1 + 1 + 1 + 1 + 1) mixed (by kernel_rfl) fun all hall => ?_
      repeat ((first | refine aOps_nil ?_ | refine aOps_a rfl rfl rfl ?_); try simp only [go_sem])
      refine aOps_s rfl rfl (QK.ibat (i := 0) rfl Try.underlying66 ti3 rfl rfl (by decide) ?_)
      try simp only [go_sem]
      repeat ((first | refine aOps_nil ?_ | refine aOps_a rfl rfl rfl ?_); try simp only [go_sem])
      refine aOps_s rfl rfl (QK.at rfl Try.underlying22 ti25 rfl (by first | exact .inl rfl | exact .inr (.inl rfl) | exact .inr (.inr rfl)) rfl (encE_get hq1) rfl ?_)
      try simp only [go_sem]
      repeat ((first | refine aOps_nil ?_ | refine aOps_a rfl rfl rfl ?_); try simp only [go_sem])
      refine aOps_s rfl rfl (QK.ibat (i := 1) rfl Try.underlying66 ti3 rfl rfl (by decide) ?_)
      try simp only [go_sem]
      repeat ((first | refine aOps_nil ?_ | refine aOps_a rfl rfl rfl ?_); try simp only [go_sem])
      refine aOps_s rfl rfl (QK.at rfl Try.underlying22 ti25 rfl (by first | exact .inl rfl | exact .inr (.inl rfl) | exact .inr (.inr rfl)) rfl (encE_get hq2) rfl ?_)
      try simp only [go_sem]
      repeat ((first | refine aOps_nil ?_ | refine aOps_a rfl rfl rfl ?_); try simp only [go_sem])
      repeat ((first | refine aOps_nil ?_ | refine aOps_a rfl rfl rfl ?_); try simp only [go_sem])
      (apply hKx13; (try clear hKx13 Kx13); try simp only [go_sem])
      (refine WpA.cond rfl (fun hb40 => ?_) (fun hb40 => ?_) <;> try simp only [decide_eq_true_eq, decide_eq_false_iff_not, Bool.not_eq_true', Bool.not_eq_false'] at hb40)
      · skip
        rw [if_neg (by simpa using hb40)] at hres
        refine WpA.reg fun all hall => ?_
        repeat ((first | refine aOps_nil ?_ | refine aOps_a rfl rfl rfl ?_); try simp only [go_sem])
        refine aOps_s rfl rfl (QK.ibat (i := 0) rfl Try.underlying66 ti3 rfl rfl (by decide) ?_)
        try simp only [go_sem]
        repeat ((first | refine aOps_nil ?_ | refine aOps_a rfl rfl rfl ?_); try simp only [go_sem])
        refine aOps_s rfl rfl (QK.ibat (i := 1) rfl Try.underlying66 ti3 rfl rfl (by decide) ?_)
        try simp only [go_sem]
        repeat ((first | refine aOps_nil ?_ | refine aOps_a rfl rfl rfl ?_); try simp only [go_sem])
        refine aOps_s rfl rfl (QK.call rfl rfl rfl (put_imm _ _ _) (by repeat' (first | exact ConvL.nil | refine ConvL.cons ?_ ?_ | first | exact Conv.pv _ | exact Conv.imm_bor _ | exact Conv.bor _ | exact Conv.tight_imm _ | exact Conv.tight_bor _ | exact Conv.nil_imm | exact Conv.nil_bor | exact Conv.tight _ | exact Conv.at _ | exact Conv.row _ _ _ _ _ _ rfl (by first | rfl | (simp only [go_sem]; done) | (simp []; done) | (simp []; omega) | omega) | exact Conv.bat _ _ _ _ _ rfl rfl | exact Conv.aggp _ _ rfl | refine Conv.fnL _ ?_ | exact Conv.any _)) ?_)
        try simp only [go_sem]
        repeat ((first | refine aOps_nil ?_ | refine aOps_a rfl rfl rfl ?_); try simp only [go_sem])
        repeat ((first | refine aOps_nil ?_ | refine aOps_a rfl rfl rfl ?_); try simp only [go_sem])
        (apply hKx11; (try clear hKx11 Kx11); try simp only [go_sem])
        refine WpA.cut 1 (by decide) (by first | rfl | simp only [go_sem]) ?_
        try simp only [go_sem]
        refine WpA.reg fun all hall => ?_
        repeat ((first | refine aOps_nil ?_ | refine aOps_a rfl rfl rfl ?_); try simp only [go_sem])
        repeat ((first | refine aOps_nil ?_ | refine aOps_a rfl rfl rfl ?_); try simp only [go_sem])
        rw [wi1 k (by omega)]
        exact ⟨k + 1, ⟨hk, by omega⟩, (by rw [hres]; ((try simp only [tpl, List.foldl_cons, List.foldl_nil, List.replicate, List.set_cons_zero, List.set_cons_succ]); repeat (first | exact trivial | refine ⟨.inr rfl, ?_⟩ | refine ⟨.inl rfl, ?_⟩))), rfl⟩
      · skip
        rw [if_pos (by simpa using hb40)] at hres
        (refine WpA.skip ?_; try simp only [go_sem])
        (apply hKx11; (try clear hKx11 Kx11); try simp only [go_sem])
        refine WpA.cut 1 (by decide) (by first | rfl | simp only [go_sem]) ?_
        try simp only [go_sem]
        refine WpA.reg fun all hall => ?_
        repeat ((first | refine aOps_nil ?_ | refine aOps_a rfl rfl rfl ?_); try simp only [go_sem])
        repeat ((first | refine aOps_nil ?_ | refine aOps_a rfl rfl rfl ?_); try simp only [go_sem])
        rw [wi1 k (by omega)]
        exact ⟨k + 1, ⟨hk, by omega⟩, (by rw [hres]; ((try simp only [tpl, List.foldl_cons, List.foldl_nil, List.replicate, List.set_cons_zero, List.set_cons_succ]); repeat (first | exact trivial | refine ⟨.inr rfl, ?_⟩ | refine ⟨.inl rfl, ?_⟩))), rfl⟩
    · skip
      (refine WpA.exit ?_; try simp only [go_sem])
      (apply hKx7; (try clear hKx7 Kx7); try simp only [go_sem])
      refine WpA.seq fun Kx14 hKx14 => ?_
      refine WpA.reg fun all hall => ?_
      repeat ((first | refine aOps_nil ?_ | refine aOps_a rfl rfl rfl ?_); try simp only [go_sem])
      repeat ((first | refine aOps_nil ?_ | refine aOps_a rfl rfl rfl ?_); try simp only [go_sem])
      (apply hKx14; (try clear hKx14 Kx14); try simp only [go_sem])
      (refine WpA.ret ?_; try simp only [go_sem])
      have h1 : k = (pairsR r).length := by omega
      subst h1
      rw [outerE, if_pos hrl, List.take_of_length_le (Nat.le_refl _)]
      exact RetQ.val (.pv _)

def unionE (n : Nat) (rs : List (List (BitVec 32))) : List (BitVec 32) := rs.foldl orR (newR n)
set_option maxHeartbeats 4000000 in
theorem union_calls (n : Nat) (rs : List (List (BitVec 32))) (hn : n ≤ 32) (hrs : rs.length ≤ 1000) : PCalls Try.prog 69 [iv n, .pv (.imm (encW rs))] (.val (.pv (.imm (encU (unionE n rs))))) := by
  refine PCalls.of_body Try.func69 rfl rfl Try.ntmps69 Try.results69 ?_
  simp only [go_sem, List.replicate]
  refine WpA.seq fun Kx1 hKx1 => ?_
  refine WpA.reg fun all hall => ?_
  repeat ((first | refine aOps_nil ?_ | refine aOps_a rfl rfl rfl ?_); try simp only [go_sem])
  repeat ((first | refine aOps_nil ?_ | refine aOps_a rfl rfl rfl ?_); try simp only [go_sem])
  (apply hKx1; (try clear hKx1 Kx1); try simp only [go_sem])
  refine WpA.seq fun Kx2 hKx2 => ?_
  refine WpA.reg fun all hall => ?_
  repeat ((first | refine aOps_nil ?_ | refine aOps_a rfl rfl rfl ?_); try simp only [go_sem])
  refine aOps_s rfl rfl (QK.call rfl rfl rfl (new_imm n (by omega)) (by repeat' (first | exact ConvL.nil | refine ConvL.cons ?_ ?_ | first | exact Conv.pv _ | exact Conv.imm_bor _ | exact Conv.bor _ | exact Conv.tight_imm _ | exact Conv.tight_bor _ | exact Conv.nil_imm | exact Conv.nil_bor | exact Conv.tight _ | exact Conv.at _ | exact Conv.row _ _ _ _ _ _ rfl (by first | rfl | (simp only [go_sem]; done) | (simp []; done) | (simp []; omega) | omega) | exact Conv.bat _ _ _ _ _ rfl rfl | exact Conv.aggp _ _ rfl | refine Conv.fnL _ ?_ | exact Conv.any _)) ?_)
  try simp only [go_sem]
  repeat ((first | refine aOps_nil ?_ | refine aOps_a rfl rfl rfl ?_); try simp only [go_sem])
  repeat ((first | refine aOps_nil ?_ | refine aOps_a rfl rfl rfl ?_); try simp only [go_sem])
  (apply hKx2; (try clear hKx2 Kx2); try simp only [go_sem])
  refine WpA.seq fun Kx3 hKx3 => ?_
  refine WpA.seq fun Kx4 hKx4 => ?_
  refine WpA.reg fun all hall => ?_
  repeat ((first | refine aOps_nil ?_ | refine aOps_a rfl rfl rfl ?_); try simp only [go_sem])
  repeat ((first | refine aOps_nil ?_ | refine aOps_a rfl rfl rfl ?_); try simp only [go_sem])
  (apply hKx4; (try clear hKx4 Kx4); try simp only [go_sem])
  refine WpA.block ?_
  refine WpA.iter (fun (k : Nat) => k ≤ rs.length) (fun (k : Nat) => tpl 21 [(5, .pv (.imm (encU ((rs.take k).foldl orR (newR n))))), (10, .pv (.imm (encW rs))), (11, iv rs.length), (12, iv k)]) (fun (k : Nat) => []) (fun (k : Nat) => rs.length - k) 0 (by omega) (by ((try simp only [tpl, List.foldl_cons, List.foldl_nil, List.replicate, List.set_cons_zero, List.set_cons_succ]); repeat (first | exact trivial | refine ⟨.inr rfl, ?_⟩ | refine ⟨.inl rfl, ?_⟩))) rfl ?_
  rintro k hp0
  simp only [tpl, List.foldl_cons, List.foldl_nil, List.replicate, List.set_cons_zero, List.set_cons_succ]
  refine WpA.seq fun Kx5 hKx5 => ?_
  refine WpA.reg fun all hall => ?_
  repeat ((first | refine aOps_nil ?_ | refine aOps_a rfl rfl rfl ?_); try simp only [go_sem])
  repeat ((first | refine aOps_nil ?_ | refine aOps_a rfl rfl rfl ?_); try simp only [go_sem])
  (apply hKx5; (try clear hKx5 Kx5); try simp only [go_sem])
  refine WpA.seq fun Kx6 hKx6 => ?_
  (refine WpA.cond rfl (fun hb13 => ?_) (fun hb13 => ?_) <;> try simp only [decide_eq_true_eq, decide_eq_false_iff_not, Bool.not_eq_true', Bool.not_eq_false'] at hb13)
  · skip
    have hk : k < rs.length := by omega
    have hres : (rs.take (k + 1)).foldl orR (newR n) = orR ((rs.take k).foldl orR (newR n)) rs[k] := foldl_take _ _ _ _ hk
    (refine WpA.skip ?_; try simp only [go_sem])
    (apply hKx6; (try clear hKx6 Kx6); try simp only [go_sem])
    refine WpA.seq fun Kx7 hKx7 => ?_
    refine WpA.block ?_
    refine WpA.seq fun Kx8 hKx8 => ?_
    refine WpA.reg fun all hall => ?_
    refine aOps_s rfl rfl (QK.at rfl Try.underlying32 ti27 rfl (by first | exact .inl rfl | exact .inr (.inl rfl) | exact .inr (.inr rfl)) rfl (encW_get hk) rfl ?_)
    try simp only [go_sem]
    repeat ((first | refine aOps_nil ?_ | refine aOps_a rfl rfl rfl ?_); try simp only [go_sem])
    repeat ((first | refine aOps_nil ?_ | refine aOps_a rfl rfl rfl ?_); try simp only [go_sem])
    (apply hKx8; (try clear hKx8 Kx8); try simp only [go_sem])
    refine WpA.reg fun all hall => ?_
    repeat ((first | refine aOps_nil ?_ | refine aOps_a rfl rfl rfl ?_); try simp only [go_sem])
    refine aOps_s rfl rfl (QK.call rfl rfl rfl (or_calls _ _) (by repeat' (first | exact ConvL.nil | refine ConvL.cons ?_ ?_ | first | exact Conv.pv _ | exact Conv.imm_bor _ | exact Conv.bor _ | exact Conv.tight_imm _ | exact Conv.tight_bor _ | exact Conv.nil_imm | exact Conv.nil_bor | exact Conv.tight _ | exact Conv.at _ | exact Conv.row _ _ _ _ _ _ rfl (by first | rfl | (simp only [go_sem]; done) | (simp []; done) | (simp []; omega) | omega) | exact Conv.bat _ _ _ _ _ rfl rfl | exact Conv.aggp _ _ rfl | refine Conv.fnL _ ?_ | exact Conv.any _)) ?_)
    try simp only [go_sem]
    repeat ((first | refine aOps_nil ?_ | refine aOps_a rfl rfl rfl ?_); try simp only [go_sem])
    repeat ((first | refine aOps_nil ?_ | refine aOps_a rfl rfl rfl ?_); try simp only [go_sem])
    (apply hKx7; (try clear hKx7 Kx7); try simp only [go_sem])
    refine WpA.reg fun all hall => ?_
    repeat ((first | refine aOps_nil ?_ | refine aOps_a rfl rfl rfl ?_); try simp only [go_sem])
    repeat ((first | refine aOps_nil ?_ | refine aOps_a rfl rfl rfl ?_); try simp only [go_sem])
    rw [wi1 k (by omega)]
    exact ⟨k + 1, ⟨hk, by omega⟩, (by rw [hres]; ((try simp only [tpl, List.foldl_cons, List.foldl_nil, List.replicate, List.set_cons_zero, List.set_cons_succ]); repeat (first | exact trivial | refine ⟨.inr rfl, ?_⟩ | refine ⟨.inl rfl, ?_⟩))), rfl⟩
  · skip
    (refine WpA.exit ?_; try simp only [go_sem])
    (apply hKx3; (try clear hKx3 Kx3); try simp only [go_sem])
    refine WpA.seq fun Kx9 hKx9 => ?_
    refine WpA.reg fun all hall => ?_
    repeat ((first | refine aOps_nil ?_ | refine aOps_a rfl rfl rfl ?_); try simp only [go_sem])
    repeat ((first | refine aOps_nil ?_ | refine aOps_a rfl rfl rfl ?_); try simp only [go_sem])
    (apply hKx9; (try clear hKx9 Kx9); try simp only [go_sem])
    (refine WpA.ret ?_; try simp only [go_sem])
    have h1 : k = rs.length := by omega
    subst h1
    rw [List.take_of_length_le (Nat.le_refl _)]
    exact RetQ.val (.pv _)

def rfE (l : List Ev) (a : List Int) : List (BitVec 32) := (a.zipIdx).foldl (fun r p => putR r p.1 p.2) (newR l.length)
def comE (l : List Ev) (a : List Int) (co : List (BitVec 32)) : List (BitVec 32) := unionE l.length [rfE l a, co, frE l a co]
set_option maxHeartbeats 4000000 in
theorem com_calls (l : List Ev) (s : Six) (a : List Int) (co : List (BitVec 32)) (hl : l.length ≤ 32) (ha : a.length = l.length) : PCalls Try.prog 39 [exA l s, .pv (.imm (encZ a)), .pv (.imm (encU co))] (.val (.pv (.imm (encU (comE l a co))))) := by
  refine PCalls.of_body Try.func39 rfl rfl Try.ntmps39 Try.results39 ?_
  simp only [go_sem, List.replicate]
  refine WpA.seq fun Kx1 hKx1 => ?_
  refine WpA.reg fun all hall => ?_
  repeat ((first | refine aOps_nil ?_ | refine aOps_a rfl rfl rfl ?_); try simp only [go_sem])
  repeat ((first | refine aOps_nil ?_ | refine aOps_a rfl rfl rfl ?_); try simp only [go_sem])
  (apply hKx1; (try clear hKx1 Kx1); try simp only [go_sem])
  refine WpA.seq fun Kx2 hKx2 => ?_
  refine WpA.regD (0 + 1 + 1 + 1 + 1 + 1 + 1 + 1 + 1 + 1 + 1 + 1 + 1) mixed (by kernel_rfl) fun all hall => ?_
  repeat ((first | refine aOps_nil ?_ | refine aOps_a rfl rfl rfl ?_); try simp only [go_sem])
  refine aOps_s rfl rfl (QK.call rfl rfl rfl (rf_calls l s a (by omega) (by omega)) (by repeat' (first | exact ConvL.nil | refine ConvL.cons ?_ ?_ | first | exact Conv.pv _ | exact Conv.imm_bor _ | exact Conv.bor _ | exact Conv.tight_imm _ | exact Conv.tight_bor _ | exact Conv.nil_imm | exact Conv.nil_bor | exact Conv.tight _ | exact Conv.at _ | exact Conv.row _ _ _ _ _ _ rfl (by first | rfl | (simp only [go_sem]; done) | (simp []; done) | (simp []; omega) | omega) | exact Conv.bat _ _ _ _ _ rfl rfl | exact Conv.aggp _ _ rfl | refine Conv.fnL _ ?_ | exact Conv.any _)) ?_)
  try simp only [go_sem]
  repeat ((first | refine aOps_nil ?_ | refine aOps_a rfl rfl rfl ?_); try simp only [go_sem])
  refine aOps_s rfl rfl (QK.call rfl rfl rfl (fr_calls l s a co hl ha) (by repeat' (first | exact ConvL.nil | refine ConvL.cons ?_ ?_ | first | exact Conv.pv _ | exact Conv.imm_bor _ | exact Conv.bor _ | exact Conv.tight_imm _ | exact Conv.tight_bor _ | exact Conv.nil_imm | exact Conv.nil_bor | exact Conv.tight _ | exact Conv.at _ | exact Conv.row _ _ _ _ _ _ rfl (by first | rfl | (simp only [go_sem]; done) | (simp []; done) | (simp []; omega) | omega) | exact Conv.bat _ _ _ _ _ rfl rfl | exact Conv.aggp _ _ rfl | refine Conv.fnL _ ?_ | exact Conv.any _)) ?_)
  try simp only [go_sem]
  refine aOps_s rfl rfl (QK.lit rfl Try.underlying32 ti27 rfl rfl ?_)
  try simp only [go_sem]
  refine aOps_s rfl rfl (QK.call rfl rfl rfl (union_calls l.length [rfE l a, co, frE l a co] hl (by simp)) (.cons (.pv _) (.cons (.tight_imm (encW [rfE l a, co, frE l a co])) .nil)) ?_)
  try simp only [go_sem]
  repeat ((first | refine aOps_nil ?_ | refine aOps_a rfl rfl rfl ?_); try simp only [go_sem])
  repeat ((first | refine aOps_nil ?_ | refine aOps_a rfl rfl rfl ?_); try simp only [go_sem])
  (apply hKx2; (try clear hKx2 Kx2); try simp only [go_sem])
  (refine WpA.ret ?_; try simp only [go_sem])
  exact RetQ.val (.pv _)
set_option maxHeartbeats 4000000 in
theorem obs_calls (l : List Ev) (s : Six) (a : List Int) (co : List (BitVec 32)) (hl : l.length ≤ 32) (ha : a.length = l.length) : PCalls Try.prog 38 [exA l s, .pv (.imm (encZ a)), .pv (.imm (encU co))] (.val (.pv (.imm (encU (outerE l (comE l a co)))))) := by
  refine PCalls.of_body Try.func38 rfl rfl Try.ntmps38 Try.results38 ?_
  simp only [go_sem, List.replicate]
  refine WpA.seq fun Kx1 hKx1 => ?_
  refine WpA.reg fun all hall => ?_
  repeat ((first | refine aOps_nil ?_ | refine aOps_a rfl rfl rfl ?_); try simp only [go_sem])
  repeat ((first | refine aOps_nil ?_ | refine aOps_a rfl rfl rfl ?_); try simp only [go_sem])
  (apply hKx1; (try clear hKx1 Kx1); try simp only [go_sem])
  refine WpA.seq fun Kx2 hKx2 => ?_
  refine WpA.regD (0 + 1 + 1 + 1 + 1 + 1) mixed (by kernel_rfl) fun all hall => ?_
  repeat ((first | refine aOps_nil ?_ | refine aOps_a rfl rfl rfl ?_); try simp only [go_sem])
  refine aOps_s rfl rfl (QK.call rfl rfl rfl (com_calls l s a co hl ha) (by repeat' (first | exact ConvL.nil | refine ConvL.cons ?_ ?_ | first | exact Conv.pv _ | exact Conv.imm_bor _ | exact Conv.bor _ | exact Conv.tight_imm _ | exact Conv.tight_bor _ | exact Conv.nil_imm | exact Conv.nil_bor | exact Conv.tight _ | exact Conv.at _ | exact Conv.row _ _ _ _ _ _ rfl (by first | rfl | (simp only [go_sem]; done) | (simp []; done) | (simp []; omega) | omega) | exact Conv.bat _ _ _ _ _ rfl rfl | exact Conv.aggp _ _ rfl | refine Conv.fnL _ ?_ | exact Conv.any _)) ?_)
  try simp only [go_sem]
  refine aOps_s rfl rfl (QK.call rfl rfl rfl (outer_calls l s _ hl) (by repeat' (first | exact ConvL.nil | refine ConvL.cons ?_ ?_ | first | exact Conv.pv _ | exact Conv.imm_bor _ | exact Conv.bor _ | exact Conv.tight_imm _ | exact Conv.tight_bor _ | exact Conv.nil_imm | exact Conv.nil_bor | exact Conv.tight _ | exact Conv.at _ | exact Conv.row _ _ _ _ _ _ rfl (by first | rfl | (simp only [go_sem]; done) | (simp []; done) | (simp []; omega) | omega) | exact Conv.bat _ _ _ _ _ rfl rfl | exact Conv.aggp _ _ rfl | refine Conv.fnL _ ?_ | exact Conv.any _)) ?_)
  try simp only [go_sem]
  repeat ((first | refine aOps_nil ?_ | refine aOps_a rfl rfl rfl ?_); try simp only [go_sem])
  repeat ((first | refine aOps_nil ?_ | refine aOps_a rfl rfl rfl ?_); try simp only [go_sem])
  (apply hKx2; (try clear hKx2 Kx2); try simp only [go_sem])
  (refine WpA.ret ?_; try simp only [go_sem])
  exact RetQ.val (.pv _)
end Go.Proofs.Ytfpbdphdahfgbaa
