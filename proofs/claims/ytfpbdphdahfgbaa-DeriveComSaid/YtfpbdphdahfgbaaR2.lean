/- Relations, second part. -/
import Derived.Test.YtfpbdphdahfgbaaR1
namespace Go.Proofs.Ytfpbdphdahfgbaa
open Go Go.RowKit Go.Proofs.Ytfpbdphdahfgbaa.Fw

theorem upto_step {P : Nat → Prop} {k : Nat} (h : ∀ i, i < k → P i) (hk : P k) : ∀ i, i < k + 1 → P i := fun i hi => by
  rcases Nat.lt_succ_iff_lt_or_eq.1 hi with h1 | h1
  · exact h i h1
  · subst h1; exact hk

def sameR (a b : List (BitVec 32)) : Bool := decide (cleanR a = cleanR b)

theorem take_ne {a b : List (BitVec 32)} {k : Nat} (ha : k < a.length) (hb : k < b.length) (h : ¬ a[k] = b[k]) : a ≠ b := by
  rintro rfl; exact h rfl
theorem take_eq {a b : List (BitVec 32)} {k : Nat} (ha : k < a.length) (hb : k < b.length) (ht : a.take k = b.take k) (h : a[k] = b[k]) : a.take (k + 1) = b.take (k + 1) := by
  rw [List.take_add_one, List.take_add_one, ht, List.getElem?_eq_getElem ha, List.getElem?_eq_getElem hb, h]
theorem toNat_ne {x y : BitVec 32} (h : ((x.toNat : Int) != (y.toNat : Int)) = true) : ¬ x = y := by rintro rfl; simp at h
theorem toNat_eq {x y : BitVec 32} (h : ((x.toNat : Int) != (y.toNat : Int)) = false) : x = y := by
  simp at h; exact BitVec.eq_of_toNat_eq (by omega)

set_option maxHeartbeats 4000000 in
theorem equalR_calls (a b : List (BitVec 32)) (hla : a.length < 9223372036854775807) : PCalls Try.prog 48 [.bor (encU a), .bor (encU b)] (.val (bv (decide (a = b)))) := by
  refine PCalls.of_body Try.func48 rfl rfl Try.ntmps48 Try.results48 ?_
  simp only [go_sem, List.replicate]
  refine WpA.seq fun Kx1 hKx1 => ?_
  refine WpA.reg fun all hall => ?_
  repeat ((first | refine aOps_nil ?_ | refine aOps_a rfl rfl rfl ?_); try simp only [go_sem])
  repeat ((first | refine aOps_nil ?_ | refine aOps_a rfl rfl rfl ?_); try simp only [go_sem])
  (apply hKx1; (try clear hKx1 Kx1); try simp only [go_sem])
  refine WpA.seq fun Kx2 hKx2 => ?_
  refine WpA.seq fun Kx3 hKx3 => ?_
  refine WpA.reg fun all hall => ?_
  repeat ((first | refine aOps_nil ?_ | refine aOps_a rfl rfl rfl ?_); try simp only [go_sem])
  repeat ((first | refine aOps_nil ?_ | refine aOps_a rfl rfl rfl ?_); try simp only [go_sem])
  (apply hKx3; (try clear hKx3 Kx3); try simp only [go_sem])
  (refine WpA.cond rfl (fun hb10 => ?_) (fun hb10 => ?_) <;> try simp only [decide_eq_true_eq, decide_eq_false_iff_not, Bool.not_eq_true', Bool.not_eq_false'] at hb10)
  · skip
    have hab : a ≠ b := by rintro rfl; simp at hb10
    refine WpA.seq fun Kx4 hKx4 => ?_
    refine WpA.reg fun all hall => ?_
    repeat ((first | refine aOps_nil ?_ | refine aOps_a rfl rfl rfl ?_); try simp only [go_sem])
    repeat ((first | refine aOps_nil ?_ | refine aOps_a rfl rfl rfl ?_); try simp only [go_sem])
    (apply hKx4; (try clear hKx4 Kx4); try simp only [go_sem])
    (refine WpA.ret ?_; try simp only [go_sem])
    exact ret_b rfl (by simp [hab])
  · skip
    have hab : a.length = b.length := by simp at hb10; omega
    (refine WpA.skip ?_; try simp only [go_sem])
    (apply hKx2; (try clear hKx2 Kx2); try simp only [go_sem])
    refine WpA.seq fun Kx5 hKx5 => ?_
    refine WpA.seq fun Kx6 hKx6 => ?_
    refine WpA.reg fun all hall => ?_
    repeat ((first | refine aOps_nil ?_ | refine aOps_a rfl rfl rfl ?_); try simp only [go_sem])
    repeat ((first | refine aOps_nil ?_ | refine aOps_a rfl rfl rfl ?_); try simp only [go_sem])
    (apply hKx6; (try clear hKx6 Kx6); try simp only [go_sem])
    refine WpA.block ?_
    refine WpA.iter (fun (k : Nat) => k ≤ a.length ∧ a.take k = b.take k) (fun (k : Nat) => tpl 26 [(0, .bor (encU a)), (1, .bor (encU b)), (12, iv a.length), (13, iv k)]) (fun (k : Nat) => []) (fun (k : Nat) => a.length - k) 0 (by simp) (by ((try simp only [tpl, List.foldl_cons, List.foldl_nil, List.replicate, List.set_cons_zero, List.set_cons_succ]); repeat (first | exact trivial | refine ⟨.inr rfl, ?_⟩ | refine ⟨.inl rfl, ?_⟩))) rfl ?_
    rintro k hp0
    simp only [tpl, List.foldl_cons, List.foldl_nil, List.replicate, List.set_cons_zero, List.set_cons_succ]
    refine WpA.seq fun Kx7 hKx7 => ?_
    refine WpA.reg fun all hall => ?_
    repeat ((first | refine aOps_nil ?_ | refine aOps_a rfl rfl rfl ?_); try simp only [go_sem])
    repeat ((first | refine aOps_nil ?_ | refine aOps_a rfl rfl rfl ?_); try simp only [go_sem])
    (apply hKx7; (try clear hKx7 Kx7); try simp only [go_sem])
    refine WpA.seq fun Kx8 hKx8 => ?_
    (refine WpA.cond rfl (fun hb14 => ?_) (fun hb14 => ?_) <;> try simp only [decide_eq_true_eq, decide_eq_false_iff_not, Bool.not_eq_true', Bool.not_eq_false'] at hb14)
    · skip
      have hk : k < a.length := by omega
      (refine WpA.skip ?_; try simp only [go_sem])
      (apply hKx8; (try clear hKx8 Kx8); try simp only [go_sem])
      refine WpA.seq fun Kx9 hKx9 => ?_
      refine WpA.block ?_
      refine WpA.seq fun Kx10 hKx10 => ?_
      refine WpA.reg fun all hall => ?_
      repeat ((first | refine aOps_nil ?_ | refine aOps_a rfl rfl rfl ?_); try simp only [go_sem])
      repeat ((first | refine aOps_nil ?_ | refine aOps_a rfl rfl rfl ?_); try simp only [go_sem])
      (apply hKx10; (try clear hKx10 Kx10); try simp only [go_sem])
      refine WpA.seq fun Kx11 hKx11 => ?_
      refine WpA.regD (0 + 1 + 1 + 1 + 1 + 1 + 1 + 1 + 1) mixed (by kernel_rfl) fun all hall => ?_
      repeat ((first | refine aOps_nil ?_ | refine aOps_a rfl rfl rfl ?_); try simp only [go_sem])
      refine aOps_s rfl rfl (QK.at rfl Try.underlying27 ti76 rfl (by first | exact .inl rfl | exact .inr (.inl rfl) | exact .inr (.inr rfl)) rfl (encU_get hk) rfl ?_)
      try simp only [go_sem]
      repeat ((first | refine aOps_nil ?_ | refine aOps_a rfl rfl rfl ?_); try simp only [go_sem])
      refine aOps_s rfl rfl (QK.at rfl Try.underlying27 ti76 rfl (by first | exact .inl rfl | exact .inr (.inl rfl) | exact .inr (.inr rfl)) rfl (encU_get (show k < b.length by omega)) rfl ?_)
      try simp only [go_sem]
      repeat ((first | refine aOps_nil ?_ | refine aOps_a rfl rfl rfl ?_); try simp only [go_sem])
      repeat ((first | refine aOps_nil ?_ | refine aOps_a rfl rfl rfl ?_); try simp only [go_sem])
      (apply hKx11; (try clear hKx11 Kx11); try simp only [go_sem])
      (refine WpA.cond rfl (fun hb24 => ?_) (fun hb24 => ?_) <;> try simp only [decide_eq_true_eq, decide_eq_false_iff_not, Bool.not_eq_true', Bool.not_eq_false'] at hb24)
      · skip
        refine WpA.seq fun Kx12 hKx12 => ?_
        refine WpA.reg fun all hall => ?_
        repeat ((first | refine aOps_nil ?_ | refine aOps_a rfl rfl rfl ?_); try simp only [go_sem])
        repeat ((first | refine aOps_nil ?_ | refine aOps_a rfl rfl rfl ?_); try simp only [go_sem])
        (apply hKx12; (try clear hKx12 Kx12); try simp only [go_sem])
        (refine WpA.ret ?_; try simp only [go_sem])
        exact ret_b rfl (by simp [take_ne hk (by omega) (toNat_ne hb24)])
      · skip
        (refine WpA.skip ?_; try simp only [go_sem])
        (apply hKx9; (try clear hKx9 Kx9); try simp only [go_sem])
        refine WpA.reg fun all hall => ?_
        repeat ((first | refine aOps_nil ?_ | refine aOps_a rfl rfl rfl ?_); try simp only [go_sem])
        repeat ((first | refine aOps_nil ?_ | refine aOps_a rfl rfl rfl ?_); try simp only [go_sem])
        rw [wi1 k (by omega)]
        exact ⟨k + 1, ⟨hk, take_eq hk (by omega) hp0.2 (toNat_eq hb24), by omega⟩, (by ((try simp only [tpl, List.foldl_cons, List.foldl_nil, List.replicate, List.set_cons_zero, List.set_cons_succ]); repeat (first | exact trivial | refine ⟨.inr rfl, ?_⟩ | refine ⟨.inl rfl, ?_⟩))), rfl⟩
    · skip
      (refine WpA.exit ?_; try simp only [go_sem])
      (apply hKx5; (try clear hKx5 Kx5); try simp only [go_sem])
      refine WpA.seq fun Kx13 hKx13 => ?_
      refine WpA.reg fun all hall => ?_
      repeat ((first | refine aOps_nil ?_ | refine aOps_a rfl rfl rfl ?_); try simp only [go_sem])
      repeat ((first | refine aOps_nil ?_ | refine aOps_a rfl rfl rfl ?_); try simp only [go_sem])
      (apply hKx13; (try clear hKx13 Kx13); try simp only [go_sem])
      (refine WpA.ret ?_; try simp only [go_sem])
      have h1 : k = a.length := by omega
      have h2 := hp0.2
      rw [List.take_of_length_le (by omega), List.take_of_length_le (by omega)] at h2
      exact ret_b rfl (by simp [h2])

theorem encU_fit (l : List (BitVec 32)) (h : l.length ≤ 32) : l.length < 9223372036854775807 := by omega

set_option maxHeartbeats 4000000 in
theorem same_calls (a b : List (BitVec 32)) : PCalls Try.prog 14 [.bor (encU a), .bor (encU b)] (.val (bv (sameR a b))) := by
  refine PCalls.of_body Try.func14 rfl rfl Try.ntmps14 Try.results14 ?_
  simp only [go_sem, List.replicate]
  refine WpA.seq fun Kx1 hKx1 => ?_
  refine WpA.reg fun all hall => ?_
  repeat ((first | refine aOps_nil ?_ | refine aOps_a rfl rfl rfl ?_); try simp only [go_sem])
  repeat ((first | refine aOps_nil ?_ | refine aOps_a rfl rfl rfl ?_); try simp only [go_sem])
  (apply hKx1; (try clear hKx1 Kx1); try simp only [go_sem])
  refine WpA.seq fun Kx2 hKx2 => ?_
  refine WpA.reg fun all hall => ?_
  repeat ((first | refine aOps_nil ?_ | refine aOps_a rfl rfl rfl ?_); try simp only [go_sem])
  refine aOps_s rfl rfl (QK.call rfl rfl rfl (clean_imm a) (by repeat' (first | exact ConvL.nil | refine ConvL.cons ?_ ?_ | first | exact Conv.pv _ | exact Conv.imm_bor _ | exact Conv.bor _ | exact Conv.tight_imm _ | exact Conv.tight_bor _ | exact Conv.nil_imm | exact Conv.nil_bor | exact Conv.tight _ | exact Conv.at _ | exact Conv.row _ _ _ _ _ _ rfl (by first | rfl | (simp only [go_sem]; done) | (simp []; done) | (simp []; omega) | omega) | exact Conv.bat _ _ _ _ _ rfl rfl | exact Conv.aggp _ _ rfl | refine Conv.fnL _ ?_ | exact Conv.any _)) ?_)
  try simp only [go_sem]
  repeat ((first | refine aOps_nil ?_ | refine aOps_a rfl rfl rfl ?_); try simp only [go_sem])
  refine aOps_s rfl rfl (QK.call rfl rfl rfl (clean_imm b) (by repeat' (first | exact ConvL.nil | refine ConvL.cons ?_ ?_ | first | exact Conv.pv _ | exact Conv.imm_bor _ | exact Conv.bor _ | exact Conv.tight_imm _ | exact Conv.tight_bor _ | exact Conv.nil_imm | exact Conv.nil_bor | exact Conv.tight _ | exact Conv.at _ | exact Conv.row _ _ _ _ _ _ rfl (by first | rfl | (simp only [go_sem]; done) | (simp []; done) | (simp []; omega) | omega) | exact Conv.bat _ _ _ _ _ rfl rfl | exact Conv.aggp _ _ rfl | refine Conv.fnL _ ?_ | exact Conv.any _)) ?_)
  try simp only [go_sem]
  refine aOps_s rfl rfl (QK.call rfl rfl rfl (equalR_calls (cleanR a) (cleanR b) (encU_fit _ (cleanR_len a))) (by repeat' (first | exact ConvL.nil | refine ConvL.cons ?_ ?_ | first | exact Conv.pv _ | exact Conv.imm_bor _ | exact Conv.bor _ | exact Conv.tight_imm _ | exact Conv.tight_bor _ | exact Conv.nil_imm | exact Conv.nil_bor | exact Conv.tight _ | exact Conv.at _ | exact Conv.row _ _ _ _ _ _ rfl (by first | rfl | (simp only [go_sem]; done) | (simp []; done) | (simp []; omega) | omega) | exact Conv.bat _ _ _ _ _ rfl rfl | exact Conv.aggp _ _ rfl | refine Conv.fnL _ ?_ | exact Conv.any _)) ?_)
  try simp only [go_sem]
  repeat ((first | refine aOps_nil ?_ | refine aOps_a rfl rfl rfl ?_); try simp only [go_sem])
  repeat ((first | refine aOps_nil ?_ | refine aOps_a rfl rfl rfl ?_); try simp only [go_sem])
  (apply hKx2; (try clear hKx2 Kx2); try simp only [go_sem])
  (refine WpA.ret ?_; try simp only [go_sem])
  exact RetQ.val (.pv _)

def orR (a b : List (BitVec 32)) : List (BitVec 32) := bothR (· ||| ·) a b
def andR (a b : List (BitVec 32)) : List (BitVec 32) := bothR (· &&& ·) a b

theorem conv_cv (p : PV) (H : List Blk) : Conv H (.pv p) (.pv p) := .pv p
theorem conv_nil (H : List Blk) (x y : AV) (hx : ConvL H [x] [x]) (hy : ConvL H [y] [y]) : ConvL H ([x, y] ++ []) ([x, y] ++ []) := by
  cases hx with | cons h _ => exact .cons h hy
theorem callF_c (g : FuncId) (ρ : Operand → AV) (o : Operand) (xs : Array Operand) (h : ρ o = .pv (.val (.func (.func g) #[] #[]))) : CallF ρ o xs = some (g, xs.toList.map ρ ++ []) := by simp [CallF, h]

set_option maxHeartbeats 4000000 in
theorem or_calls (a b : List (BitVec 32)) : PCalls Try.prog 42 [.bor (encU a), .bor (encU b)] (.val (.pv (.imm (encU (orR a b))))) := by
  refine PCalls.of_body Try.func42 rfl rfl Try.ntmps42 Try.results42 ?_
  simp only [go_sem, List.replicate]
  refine WpA.seq fun Kx1 hKx1 => ?_
  refine WpA.reg fun all hall => ?_
  repeat ((first | refine aOps_nil ?_ | refine aOps_a rfl rfl rfl ?_); try simp only [go_sem])
  repeat ((first | refine aOps_nil ?_ | refine aOps_a rfl rfl rfl ?_); try simp only [go_sem])
  (apply hKx1; (try clear hKx1 Kx1); try simp only [go_sem])
  refine WpA.seq fun Kx2 hKx2 => ?_
  refine WpA.reg fun all hall => ?_
  repeat ((first | refine aOps_nil ?_ | refine aOps_a rfl rfl rfl ?_); try simp only [go_sem])
  refine aOps_s rfl rfl (QK.call rfl rfl rfl (both_calls a b 74 _ [] (· ||| ·) (conv_cv _) conv_nil (callF_c _) or1_calls).imm (by repeat' (first | exact ConvL.nil | refine ConvL.cons ?_ ?_ | first | exact Conv.pv _ | exact Conv.imm_bor _ | exact Conv.bor _ | exact Conv.tight_imm _ | exact Conv.tight_bor _ | exact Conv.nil_imm | exact Conv.nil_bor | exact Conv.tight _ | exact Conv.at _ | exact Conv.row _ _ _ _ _ _ rfl (by first | rfl | (simp only [go_sem]; done) | (simp []; done) | (simp []; omega) | omega) | exact Conv.bat _ _ _ _ _ rfl rfl | exact Conv.aggp _ _ rfl | refine Conv.fnL _ ?_ | exact Conv.any _)) ?_)
  try simp only [go_sem]
  repeat ((first | refine aOps_nil ?_ | refine aOps_a rfl rfl rfl ?_); try simp only [go_sem])
  repeat ((first | refine aOps_nil ?_ | refine aOps_a rfl rfl rfl ?_); try simp only [go_sem])
  (apply hKx2; (try clear hKx2 Kx2); try simp only [go_sem])
  (refine WpA.ret ?_; try simp only [go_sem])
  exact RetQ.val (.pv _)
set_option maxHeartbeats 4000000 in
theorem and_calls (a b : List (BitVec 32)) : PCalls Try.prog 36 [.bor (encU a), .bor (encU b)] (.val (.pv (.imm (encU (andR a b))))) := by
  refine PCalls.of_body Try.func36 rfl rfl Try.ntmps36 Try.results36 ?_
  simp only [go_sem, List.replicate]
  refine WpA.seq fun Kx1 hKx1 => ?_
  refine WpA.reg fun all hall => ?_
  repeat ((first | refine aOps_nil ?_ | refine aOps_a rfl rfl rfl ?_); try simp only [go_sem])
  repeat ((first | refine aOps_nil ?_ | refine aOps_a rfl rfl rfl ?_); try simp only [go_sem])
  (apply hKx1; (try clear hKx1 Kx1); try simp only [go_sem])
  refine WpA.seq fun Kx2 hKx2 => ?_
  refine WpA.reg fun all hall => ?_
  repeat ((first | refine aOps_nil ?_ | refine aOps_a rfl rfl rfl ?_); try simp only [go_sem])
  refine aOps_s rfl rfl (QK.call rfl rfl rfl (both_calls a b 66 _ [] (· &&& ·) (conv_cv _) conv_nil (callF_c _) and1_calls).imm (by repeat' (first | exact ConvL.nil | refine ConvL.cons ?_ ?_ | first | exact Conv.pv _ | exact Conv.imm_bor _ | exact Conv.bor _ | exact Conv.tight_imm _ | exact Conv.tight_bor _ | exact Conv.nil_imm | exact Conv.nil_bor | exact Conv.tight _ | exact Conv.at _ | exact Conv.row _ _ _ _ _ _ rfl (by first | rfl | (simp only [go_sem]; done) | (simp []; done) | (simp []; omega) | omega) | exact Conv.bat _ _ _ _ _ rfl rfl | exact Conv.aggp _ _ rfl | refine Conv.fnL _ ?_ | exact Conv.any _)) ?_)
  try simp only [go_sem]
  repeat ((first | refine aOps_nil ?_ | refine aOps_a rfl rfl rfl ?_); try simp only [go_sem])
  repeat ((first | refine aOps_nil ?_ | refine aOps_a rfl rfl rfl ?_); try simp only [go_sem])
  (apply hKx2; (try clear hKx2 Kx2); try simp only [go_sem])
  (refine WpA.ret ?_; try simp only [go_sem])
  exact RetQ.val (.pv _)

def pairsOf (x : BitVec 32) (i n : Nat) : List (Nat × Nat) := ((List.range n).filter fun k => bit x k).map fun k => (i, k)
def pairsTo (a : List (BitVec 32)) (i : Nat) : List (Nat × Nat) := (List.range i).flatMap fun i => pairsOf ((cleanR a).getD i 0#32) i a.length
def pairsR (a : List (BitVec 32)) : List (Nat × Nat) := pairsTo a (cleanR a).length

theorem pairsOf_len (x : BitVec 32) (i n : Nat) : (pairsOf x i n).length ≤ n := by
  rw [pairsOf, List.length_map]
  exact Nat.le_trans (List.length_filter_le _ _) (by simp)
theorem pairsOf_succ (x : BitVec 32) (i n : Nat) : pairsOf x i (n + 1) = pairsOf x i n ++ if bit x n then [(i, n)] else [] := by
  simp only [pairsOf, List.range_succ, List.filter_append, List.map_append]
  congr 1
  by_cases h : bit x n <;> simp [h]
theorem pairsTo_succ (a : List (BitVec 32)) (i : Nat) : pairsTo a (i + 1) = pairsTo a i ++ pairsOf ((cleanR a).getD i 0#32) i a.length := by simp [pairsTo, List.range_succ]
theorem pairsTo_len (a : List (BitVec 32)) (i : Nat) : (pairsTo a i).length ≤ i * a.length := by
  induction i with
  | zero => simp [pairsTo]
  | succ i ih =>
    rw [pairsTo_succ, List.length_append, Nat.succ_mul]
    have := pairsOf_len ((cleanR a).getD i 0#32) i a.length
    omega
theorem cleanR_pos {a : List (BitVec 32)} {k : Nat} (h : k < (cleanR a).length) : a.length ≤ 32 ∧ (cleanR a).length = a.length := by
  by_cases h1 : 32 < a.length
  · rw [cleanR, if_pos h1] at h; simp at h
  · exact ⟨by omega, cleanR_lens a (by omega)⟩

set_option maxHeartbeats 4000000 in
theorem pairs_calls (a : List (BitVec 32)) : PCalls Try.prog 35 [.bor (encU a)] (.val (.pv (.imm (encP (pairsR a))))) := by
  refine PCalls.of_body Try.func35 rfl rfl Try.ntmps35 Try.results35 ?_
  simp only [go_sem, List.replicate]
  have hl := cleanR_len a
  refine WpA.seq fun Kx1 hKx1 => ?_
  refine WpA.reg fun all hall => ?_
  repeat ((first | refine aOps_nil ?_ | refine aOps_a rfl rfl rfl ?_); try simp only [go_sem])
  repeat ((first | refine aOps_nil ?_ | refine aOps_a rfl rfl rfl ?_); try simp only [go_sem])
  (apply hKx1; (try clear hKx1 Kx1); try simp only [go_sem])
  refine WpA.seq fun Kx2 hKx2 => ?_
  refine WpA.reg fun all hall => ?_
  repeat ((first | refine aOps_nil ?_ | refine aOps_a rfl rfl rfl ?_); try simp only [go_sem])
  repeat ((first | refine aOps_nil ?_ | refine aOps_a rfl rfl rfl ?_); try simp only [go_sem])
  (apply hKx2; (try clear hKx2 Kx2); try simp only [go_sem])
  refine WpA.seq fun Kx3 hKx3 => ?_
  refine WpA.seq fun Kx4 hKx4 => ?_
  refine WpA.reg fun all hall => ?_
  repeat ((first | refine aOps_nil ?_ | refine aOps_a rfl rfl rfl ?_); try simp only [go_sem])
  refine aOps_s rfl rfl (QK.call rfl rfl rfl (clean_imm a) (by repeat' (first | exact ConvL.nil | refine ConvL.cons ?_ ?_ | first | exact Conv.pv _ | exact Conv.imm_bor _ | exact Conv.bor _ | exact Conv.tight_imm _ | exact Conv.tight_bor _ | exact Conv.nil_imm | exact Conv.nil_bor | exact Conv.tight _ | exact Conv.at _ | exact Conv.row _ _ _ _ _ _ rfl (by first | rfl | (simp only [go_sem]; done) | (simp []; done) | (simp []; omega) | omega) | exact Conv.bat _ _ _ _ _ rfl rfl | exact Conv.aggp _ _ rfl | refine Conv.fnL _ ?_ | exact Conv.any _)) ?_)
  try simp only [go_sem]
  repeat ((first | refine aOps_nil ?_ | refine aOps_a rfl rfl rfl ?_); try simp only [go_sem])
  repeat ((first | refine aOps_nil ?_ | refine aOps_a rfl rfl rfl ?_); try simp only [go_sem])
  (apply hKx4; (try clear hKx4 Kx4); try simp only [go_sem])
  refine WpA.block ?_
  refine WpA.view 3 66 (sz := 2) (by decide) rfl ?_
  try simp only [go_sem]
  refine WpA.iter (fun (k : Nat) => k ≤ (cleanR a).length) (fun (k : Nat) => tpl 35 [(0, .bor (encU a)), (3, .row 0 (pairsTo a k).length), (8, .pv (.imm (encU (cleanR a)))), (9, iv (cleanR a).length), (10, iv k)]) (fun (k : Nat) => [.row false 66 2 (encP (pairsTo a k))]) (fun (k : Nat) => (cleanR a).length - k) 0 (by omega) (by ((try simp only [tpl, List.foldl_cons, List.foldl_nil, List.replicate, List.set_cons_zero, List.set_cons_succ]); repeat (first | exact trivial | refine ⟨.inr rfl, ?_⟩ | refine ⟨.inl rfl, ?_⟩))) rfl ?_
  rintro k hp0
  simp only [tpl, List.foldl_cons, List.foldl_nil, List.replicate, List.set_cons_zero, List.set_cons_succ]
  refine WpA.seq fun Kx5 hKx5 => ?_
  refine WpA.reg fun all hall => ?_
  repeat ((first | refine aOps_nil ?_ | refine aOps_a rfl rfl rfl ?_); try simp only [go_sem])
  repeat ((first | refine aOps_nil ?_ | refine aOps_a rfl rfl rfl ?_); try simp only [go_sem])
  (apply hKx5; (try clear hKx5 Kx5); try simp only [go_sem])
  refine WpA.seq fun Kx6 hKx6 => ?_
  (refine WpA.cond rfl (fun hb11 => ?_) (fun hb11 => ?_) <;> try simp only [decide_eq_true_eq, decide_eq_false_iff_not, Bool.not_eq_true', Bool.not_eq_false'] at hb11)
  · skip
    have hk : k < (cleanR a).length := by omega
    have hn : pairsTo a (k + 1) = pairsTo a k ++ pairsOf (cleanR a)[k] k a.length := by rw [pairsTo_succ]; simp [hk]
    obtain ⟨hc, hca⟩ := cleanR_pos hk
    (refine WpA.skip ?_; try simp only [go_sem])
    (apply hKx6; (try clear hKx6 Kx6); try simp only [go_sem])
    refine WpA.seq fun Kx7 hKx7 => ?_
    refine WpA.block ?_
    refine WpA.seq fun Kx8 hKx8 => ?_
    refine WpA.reg fun all hall => ?_
    repeat ((first | refine aOps_nil ?_ | refine aOps_a rfl rfl rfl ?_); try simp only [go_sem])
    refine aOps_s rfl rfl (QK.at rfl Try.underlying27 ti76 rfl (by first | exact .inl rfl | exact .inr (.inl rfl) | exact .inr (.inr rfl)) rfl (encU_get hk) rfl ?_)
    try simp only [go_sem]
    repeat ((first | refine aOps_nil ?_ | refine aOps_a rfl rfl rfl ?_); try simp only [go_sem])
    repeat ((first | refine aOps_nil ?_ | refine aOps_a rfl rfl rfl ?_); try simp only [go_sem])
    (apply hKx8; (try clear hKx8 Kx8); try simp only [go_sem])
    refine WpA.seq fun Kx9 hKx9 => ?_
    refine WpA.reg fun all hall => ?_
    repeat ((first | refine aOps_nil ?_ | refine aOps_a rfl rfl rfl ?_); try simp only [go_sem])
    repeat ((first | refine aOps_nil ?_ | refine aOps_a rfl rfl rfl ?_); try simp only [go_sem])
    (apply hKx9; (try clear hKx9 Kx9); try simp only [go_sem])
    refine WpA.block ?_
    refine WpA.iter (fun (j : Nat) => j ≤ a.length) (fun (j : Nat) => tpl 35 [(0, .bor (encU a)), (3, .row 0 (pairsTo a k ++ pairsOf (cleanR a)[k] k j).length), (4, iv k), (5, uv (cleanR a)[k].toNat), (8, .pv (.imm (encU (cleanR a)))), (9, iv (cleanR a).length), (10, iv k), (16, iv a.length), (17, iv j)]) (fun (j : Nat) => [.row false 66 2 (encP (pairsTo a k ++ pairsOf (cleanR a)[k] k j))]) (fun (j : Nat) => a.length - j) 0 (by omega) (by simp only [show pairsOf (cleanR a)[k] k 0 = [] from rfl, List.append_nil]; ((try simp only [tpl, List.foldl_cons, List.foldl_nil, List.replicate, List.set_cons_zero, List.set_cons_succ]); repeat (first | exact trivial | refine ⟨.inr rfl, ?_⟩ | refine ⟨.inl rfl, ?_⟩))) (by simp [pairsOf]) ?_
    rintro j hp2
    simp only [tpl, List.foldl_cons, List.foldl_nil, List.replicate, List.set_cons_zero, List.set_cons_succ]
    refine WpA.seq fun Kx10 hKx10 => ?_
    refine WpA.reg fun all hall => ?_
    repeat ((first | refine aOps_nil ?_ | refine aOps_a rfl rfl rfl ?_); try simp only [go_sem])
    repeat ((first | refine aOps_nil ?_ | refine aOps_a rfl rfl rfl ?_); try simp only [go_sem])
    (apply hKx10; (try clear hKx10 Kx10); try simp only [go_sem])
    refine WpA.seq fun Kx11 hKx11 => ?_
    (refine WpA.cond rfl (fun hb18 => ?_) (fun hb18 => ?_) <;> try simp only [decide_eq_true_eq, decide_eq_false_iff_not, Bool.not_eq_true', Bool.not_eq_false'] at hb18)
    · skip
      have hj : j < a.length := by omega
      have hb1 := pairsTo_len a k
      have hb2 := pairsOf_len (cleanR a)[k] k j
      have hb3 : k * a.length ≤ 32 * 32 := Nat.mul_le_mul (by omega) hc
      (refine WpA.skip ?_; try simp only [go_sem])
      (apply hKx11; (try clear hKx11 Kx11); try simp only [go_sem])
      refine WpA.seq fun Kx12 hKx12 => ?_
      refine WpA.block ?_
      refine WpA.seq fun Kx13 hKx13 => ?_
      refine WpA.reg fun all hall => ?_
      repeat ((first | refine aOps_nil ?_ | refine aOps_a rfl rfl rfl ?_); try simp only [go_sem])
      repeat ((first | refine aOps_nil ?_ | refine aOps_a rfl rfl rfl ?_); try simp only [go_sem])
      (apply hKx13; (try clear hKx13 Kx13); try simp only [go_sem])
      refine WpA.seq fun Kx14 hKx14 => ?_
      refine WpA.reg fun all hall => ?_
      ((first | refine aOps_nil ?_ | refine aOps_a rfl rfl rfl ?_); try simp only [go_sem])
      ((first | refine aOps_nil ?_ | refine aOps_a rfl rfl rfl ?_); try simp only [go_sem])
      ((first | refine aOps_nil ?_ | refine aOps_a rfl rfl rfl ?_); try simp only [go_sem])
      simp only [wu j (by omega)]
      ((first | refine aOps_nil ?_ | refine aOps_a rfl rfl rfl ?_); try simp only [go_sem])
      simp only [Int.toNat_natCast, shr32 _ j (by omega)]
      repeat ((first | refine aOps_nil ?_ | refine aOps_a rfl rfl rfl ?_); try simp only [go_sem])
      repeat ((first | refine aOps_nil ?_ | refine aOps_a rfl rfl rfl ?_); try simp only [go_sem])
      (apply hKx14; (try clear hKx14 Kx14); try simp only [go_sem])
      (refine WpA.cond rfl (fun hb25 => ?_) (fun hb25 => ?_) <;> try simp only [decide_eq_true_eq, decide_eq_false_iff_not, Bool.not_eq_true', Bool.not_eq_false'] at hb25)
      · skip
        refine WpA.reg fun all hall => ?_
        repeat ((first | refine aOps_nil ?_ | refine aOps_a rfl rfl rfl ?_); try simp only [go_sem])
        refine aOps_s rfl rfl (QK.buildArr rfl Try.underlying66 ti3 ti66 rfl ?_)
        try simp only [go_sem]
        refine aOps_s rfl rfl (QK.lit rfl Try.underlying64 ti66 rfl rfl ?_)
        try simp only [go_sem]
        refine aOps_n rfl (aOp.app rfl rfl rfl (by first | rfl | (simp only [go_sem]; done) | (simp []; done) | (simp []; omega) | omega) rfl (by simp [eI, eN, eU]) Try.underlying64 ti66 rfl (by simp only [List.length_append, List.length_cons, List.length_nil]; omega) ?_ (by decide))
        try simp only [go_sem]
        repeat ((first | refine aOps_nil ?_ | refine aOps_a rfl rfl rfl ?_); try simp only [go_sem])
        repeat ((first | refine aOps_nil ?_ | refine aOps_a rfl rfl rfl ?_); try simp only [go_sem])
        (apply hKx12; (try clear hKx12 Kx12); try simp only [go_sem])
        refine WpA.reg fun all hall => ?_
        repeat ((first | refine aOps_nil ?_ | refine aOps_a rfl rfl rfl ?_); try simp only [go_sem])
        repeat ((first | refine aOps_nil ?_ | refine aOps_a rfl rfl rfl ?_); try simp only [go_sem])
        rw [wi1 j (by omega)]
        exact ⟨j + 1, ⟨hj, by omega⟩, (by rw [pairsOf_succ, hb25]; simp only [if_true, if_false, Bool.false_eq_true, List.append_nil, ← List.append_assoc, List.length_append, List.length_cons, List.length_nil]; ((try simp only [tpl, List.foldl_cons, List.foldl_nil, List.replicate, List.set_cons_zero, List.set_cons_succ]); repeat (first | exact trivial | refine ⟨.inr rfl, ?_⟩ | refine ⟨.inl rfl, ?_⟩))), (by rw [pairsOf_succ, hb25]; simp [encP, eP])⟩
      · skip
        (refine WpA.skip ?_; try simp only [go_sem])
        (apply hKx12; (try clear hKx12 Kx12); try simp only [go_sem])
        refine WpA.reg fun all hall => ?_
        repeat ((first | refine aOps_nil ?_ | refine aOps_a rfl rfl rfl ?_); try simp only [go_sem])
        repeat ((first | refine aOps_nil ?_ | refine aOps_a rfl rfl rfl ?_); try simp only [go_sem])
        rw [wi1 j (by omega)]
        exact ⟨j + 1, ⟨hj, by omega⟩, (by rw [pairsOf_succ, hb25]; simp only [if_true, if_false, Bool.false_eq_true, List.append_nil, ← List.append_assoc, List.length_append, List.length_cons, List.length_nil]; ((try simp only [tpl, List.foldl_cons, List.foldl_nil, List.replicate, List.set_cons_zero, List.set_cons_succ]); repeat (first | exact trivial | refine ⟨.inr rfl, ?_⟩ | refine ⟨.inl rfl, ?_⟩))), (by rw [pairsOf_succ, hb25]; simp [encP, eP])⟩
    · skip
      have hj : j = a.length := by omega
      subst hj
      (refine WpA.exit ?_; try simp only [go_sem])
      (apply hKx7; (try clear hKx7 Kx7); try simp only [go_sem])
      refine WpA.reg fun all hall => ?_
      repeat ((first | refine aOps_nil ?_ | refine aOps_a rfl rfl rfl ?_); try simp only [go_sem])
      repeat ((first | refine aOps_nil ?_ | refine aOps_a rfl rfl rfl ?_); try simp only [go_sem])
      rw [wi1 k (by omega)]
      exact ⟨k + 1, ⟨hk, by omega⟩, (by rw [hn, List.length_append]; ((try simp only [tpl, List.foldl_cons, List.foldl_nil, List.replicate, List.set_cons_zero, List.set_cons_succ]); repeat (first | exact trivial | refine ⟨.inr rfl, ?_⟩ | refine ⟨.inl rfl, ?_⟩))), (by rw [hn])⟩
  · skip
    (refine WpA.exit ?_; try simp only [go_sem])
    (apply hKx3; (try clear hKx3 Kx3); try simp only [go_sem])
    refine WpA.seq fun Kx15 hKx15 => ?_
    refine WpA.reg fun all hall => ?_
    repeat ((first | refine aOps_nil ?_ | refine aOps_a rfl rfl rfl ?_); try simp only [go_sem])
    repeat ((first | refine aOps_nil ?_ | refine aOps_a rfl rfl rfl ?_); try simp only [go_sem])
    (apply hKx15; (try clear hKx15 Kx15); try simp only [go_sem])
    (refine WpA.ret ?_; try simp only [go_sem])
    have h1 : k = (cleanR a).length := by omega
    subst h1
    rw [show pairsR a = pairsTo a (cleanR a).length from rfl]
    exact RetQ.val (.row _ _ _ _ _ _ rfl (by first | rfl | (simp only [go_sem]; done) | (simp []; done) | (simp []; omega) | omega))

/-- One round of the closure: what 'j' leads to, for 'i'. -/
def plusIn (x : List (BitVec 32)) (j i : Nat) : List (BitVec 32) := if bit (x.getD i 0#32) j then x.set i (x.getD i 0#32 ||| x.getD j 0#32) else x
def plusRow (x : List (BitVec 32)) (j n : Nat) : List (BitVec 32) := (List.range n).foldl (fun x i => plusIn x j i) x
def plusTo (x : List (BitVec 32)) (n m : Nat) : List (BitVec 32) := (List.range m).foldl (fun x j => plusRow x j n) x
def plusR (a : List (BitVec 32)) : List (BitVec 32) := plusTo (cleanR a) (cleanR a).length (cleanR a).length

theorem plusIn_len (x : List (BitVec 32)) (j i : Nat) : (plusIn x j i).length = x.length := by unfold plusIn; split <;> simp
theorem plusRow_succ (x : List (BitVec 32)) (j n : Nat) : plusRow x j (n + 1) = plusIn (plusRow x j n) j n := by simp [plusRow, List.range_succ]
theorem plusRow_len (x : List (BitVec 32)) (j n : Nat) : (plusRow x j n).length = x.length := by
  induction n with
  | zero => rfl
  | succ n ih => rw [plusRow_succ, plusIn_len, ih]
theorem plusTo_succ (x : List (BitVec 32)) (n m : Nat) : plusTo x n (m + 1) = plusRow (plusTo x n m) m n := by simp [plusTo, List.range_succ]
theorem plusTo_len (x : List (BitVec 32)) (n m : Nat) : (plusTo x n m).length = x.length := by
  induction m with
  | zero => rfl
  | succ n ih => rw [plusTo_succ, plusRow_len, ih]

set_option maxHeartbeats 4000000 in
theorem plus_calls (a : List (BitVec 32)) : PCalls Try.prog 52 [.bor (encU a)] (.row 76 1 (encU (plusR a))) := by
  refine PCalls.of_body Try.func52 rfl rfl Try.ntmps52 Try.results52 ?_
  simp only [go_sem, List.replicate]
  have hl := cleanR_len a
  refine WpA.seq fun Kx1 hKx1 => ?_
  refine WpA.reg fun all hall => ?_
  repeat ((first | refine aOps_nil ?_ | refine aOps_a rfl rfl rfl ?_); try simp only [go_sem])
  repeat ((first | refine aOps_nil ?_ | refine aOps_a rfl rfl rfl ?_); try simp only [go_sem])
  (apply hKx1; (try clear hKx1 Kx1); try simp only [go_sem])
  refine WpA.seq fun Kx2 hKx2 => ?_
  refine WpA.reg fun all hall => ?_
  repeat ((first | refine aOps_nil ?_ | refine aOps_a rfl rfl rfl ?_); try simp only [go_sem])
  refine aOps_s rfl rfl (QK.call rfl rfl rfl (clean_calls a) (by repeat' (first | exact ConvL.nil | refine ConvL.cons ?_ ?_ | first | exact Conv.pv _ | exact Conv.imm_bor _ | exact Conv.bor _ | exact Conv.tight_imm _ | exact Conv.tight_bor _ | exact Conv.nil_imm | exact Conv.nil_bor | exact Conv.tight _ | exact Conv.at _ | exact Conv.row _ _ _ _ _ _ rfl (by first | rfl | (simp only [go_sem]; done) | (simp []; done) | (simp []; omega) | omega) | exact Conv.bat _ _ _ _ _ rfl rfl | exact Conv.aggp _ _ rfl | refine Conv.fnL _ ?_ | exact Conv.any _)) ?_)
  try simp only [go_sem]
  repeat ((first | refine aOps_nil ?_ | refine aOps_a rfl rfl rfl ?_); try simp only [go_sem])
  repeat ((first | refine aOps_nil ?_ | refine aOps_a rfl rfl rfl ?_); try simp only [go_sem])
  (apply hKx2; (try clear hKx2 Kx2); try simp only [go_sem])
  refine WpA.seq fun Kx3 hKx3 => ?_
  refine WpA.seq fun Kx4 hKx4 => ?_
  refine WpA.reg fun all hall => ?_
  repeat ((first | refine aOps_nil ?_ | refine aOps_a rfl rfl rfl ?_); try simp only [go_sem])
  repeat ((first | refine aOps_nil ?_ | refine aOps_a rfl rfl rfl ?_); try simp only [go_sem])
  (apply hKx4; (try clear hKx4 Kx4); try simp only [go_sem])
  refine WpA.block ?_
  refine WpA.iter (fun (j : Nat) => j ≤ (cleanR a).length) (fun (j : Nat) => tpl 40 [(3, .row 0 (cleanR a).length), (9, iv (cleanR a).length), (10, iv j)]) (fun (j : Nat) => [.row false 76 1 (encU (plusTo (cleanR a) (cleanR a).length j))]) (fun (j : Nat) => (cleanR a).length - j) 0 (by omega) (by ((try simp only [tpl, List.foldl_cons, List.foldl_nil, List.replicate, List.set_cons_zero, List.set_cons_succ]); repeat (first | exact trivial | refine ⟨.inr rfl, ?_⟩ | refine ⟨.inl rfl, ?_⟩))) rfl ?_
  rintro j hp0
  simp only [tpl, List.foldl_cons, List.foldl_nil, List.replicate, List.set_cons_zero, List.set_cons_succ]
  refine WpA.seq fun Kx5 hKx5 => ?_
  refine WpA.reg fun all hall => ?_
  repeat ((first | refine aOps_nil ?_ | refine aOps_a rfl rfl rfl ?_); try simp only [go_sem])
  repeat ((first | refine aOps_nil ?_ | refine aOps_a rfl rfl rfl ?_); try simp only [go_sem])
  (apply hKx5; (try clear hKx5 Kx5); try simp only [go_sem])
  refine WpA.seq fun Kx6 hKx6 => ?_
  (refine WpA.cond rfl (fun hb11 => ?_) (fun hb11 => ?_) <;> try simp only [decide_eq_true_eq, decide_eq_false_iff_not, Bool.not_eq_true', Bool.not_eq_false'] at hb11)
  · skip
    have hj : j < (cleanR a).length := by omega
    generalize hx : plusTo (cleanR a) (cleanR a).length j = x
    have hxl : x.length = (cleanR a).length := by rw [← hx, plusTo_len]
    (refine WpA.skip ?_; try simp only [go_sem])
    (apply hKx6; (try clear hKx6 Kx6); try simp only [go_sem])
    refine WpA.seq fun Kx7 hKx7 => ?_
    refine WpA.block ?_
    refine WpA.seq fun Kx8 hKx8 => ?_
    refine WpA.reg fun all hall => ?_
    repeat ((first | refine aOps_nil ?_ | refine aOps_a rfl rfl rfl ?_); try simp only [go_sem])
    repeat ((first | refine aOps_nil ?_ | refine aOps_a rfl rfl rfl ?_); try simp only [go_sem])
    (apply hKx8; (try clear hKx8 Kx8); try simp only [go_sem])
    refine WpA.seq fun Kx9 hKx9 => ?_
    refine WpA.reg fun all hall => ?_
    ((first | refine aOps_nil ?_ | refine aOps_a rfl rfl rfl ?_); try simp only [go_sem])
    ((first | refine aOps_nil ?_ | refine aOps_a rfl rfl rfl ?_); try simp only [go_sem])
    simp only [hxl, go_sem]
    repeat ((first | refine aOps_nil ?_ | refine aOps_a rfl rfl rfl ?_); try simp only [go_sem])
    repeat ((first | refine aOps_nil ?_ | refine aOps_a rfl rfl rfl ?_); try simp only [go_sem])
    (apply hKx9; (try clear hKx9 Kx9); try simp only [go_sem])
    refine WpA.block ?_
    refine WpA.iter (fun (i : Nat) => i ≤ (cleanR a).length) (fun (i : Nat) => tpl 40 [(3, .row 0 (cleanR a).length), (4, iv j), (9, iv (cleanR a).length), (10, iv j), (14, iv (cleanR a).length), (15, iv i)]) (fun (i : Nat) => [.row false 76 1 (encU (plusRow x j i))]) (fun (i : Nat) => (cleanR a).length - i) 0 (by omega) (by ((try simp only [tpl, List.foldl_cons, List.foldl_nil, List.replicate, List.set_cons_zero, List.set_cons_succ]); repeat (first | exact trivial | refine ⟨.inr rfl, ?_⟩ | refine ⟨.inl rfl, ?_⟩))) rfl ?_
    rintro i hp2
    simp only [tpl, List.foldl_cons, List.foldl_nil, List.replicate, List.set_cons_zero, List.set_cons_succ]
    refine WpA.seq fun Kx10 hKx10 => ?_
    refine WpA.reg fun all hall => ?_
    repeat ((first | refine aOps_nil ?_ | refine aOps_a rfl rfl rfl ?_); try simp only [go_sem])
    repeat ((first | refine aOps_nil ?_ | refine aOps_a rfl rfl rfl ?_); try simp only [go_sem])
    (apply hKx10; (try clear hKx10 Kx10); try simp only [go_sem])
    refine WpA.seq fun Kx11 hKx11 => ?_
    (refine WpA.cond rfl (fun hb16 => ?_) (fun hb16 => ?_) <;> try simp only [decide_eq_true_eq, decide_eq_false_iff_not, Bool.not_eq_true', Bool.not_eq_false'] at hb16)
    · skip
      have hi : i < (cleanR a).length := by omega
      have hyl : (plusRow x j i).length = (cleanR a).length := by rw [plusRow_len, hxl]
      have hres := plusRow_succ x j i
      generalize plusRow x j i = y at hyl hres
      (refine WpA.skip ?_; try simp only [go_sem])
      (apply hKx11; (try clear hKx11 Kx11); try simp only [go_sem])
      refine WpA.seq fun Kx12 hKx12 => ?_
      refine WpA.block ?_
      refine WpA.seq fun Kx13 hKx13 => ?_
      refine WpA.reg fun all hall => ?_
      repeat ((first | refine aOps_nil ?_ | refine aOps_a rfl rfl rfl ?_); try simp only [go_sem])
      repeat ((first | refine aOps_nil ?_ | refine aOps_a rfl rfl rfl ?_); try simp only [go_sem])
      (apply hKx13; (try clear hKx13 Kx13); try simp only [go_sem])
      refine WpA.seq fun Kx14 hKx14 => ?_
      refine WpA.reg fun all hall => ?_
      repeat ((first | refine aOps_nil ?_ | refine aOps_a rfl rfl rfl ?_); try simp only [go_sem])
      refine aOps_s rfl rfl (QK.rat rfl Try.underlying27 ti76 rfl rfl (by first | rfl | (simp only [go_sem]; done) | (simp []; done) | (simp []; omega) | omega) rfl hi ?_)
      try simp only [go_sem]
      refine aOps_s rfl rfl (QK.loadRat (off := 0) rfl rfl rfl (by first | rfl | (simp only [go_sem]; done) | (simp []; done) | (simp []; omega) | omega) (by simp) (encU_get (show i < y.length by omega)) (by kernel_rfl) rfl ?_)
      try simp only [go_sem]
      ((first | refine aOps_nil ?_ | refine aOps_a rfl rfl rfl ?_); try simp only [go_sem])
      ((first | refine aOps_nil ?_ | refine aOps_a rfl rfl rfl ?_); try simp only [go_sem])
      simp only [wu j (by omega)]
      ((first | refine aOps_nil ?_ | refine aOps_a rfl rfl rfl ?_); try simp only [go_sem])
      simp only [Int.toNat_natCast, shr32 _ j (by omega)]
      repeat ((first | refine aOps_nil ?_ | refine aOps_a rfl rfl rfl ?_); try simp only [go_sem])
      repeat ((first | refine aOps_nil ?_ | refine aOps_a rfl rfl rfl ?_); try simp only [go_sem])
      (apply hKx14; (try clear hKx14 Kx14); try simp only [go_sem])
      (refine WpA.cond rfl (fun hb26 => ?_) (fun hb26 => ?_) <;> try simp only [decide_eq_true_eq, decide_eq_false_iff_not, Bool.not_eq_true', Bool.not_eq_false'] at hb26)
      · skip
        rw [plusIn, if_pos (by simpa [hyl, hi] using hb26)] at hres
        simp only [List.getD_eq_getElem?_getD, List.getElem?_eq_getElem (show i < y.length by omega), List.getElem?_eq_getElem (show j < y.length by omega), Option.getD_some] at hres
        refine WpA.regD (0 + 1 + 1 + 1 + 1 + 1 + 1 + 1 + 1) mixed (by kernel_rfl) fun all hall => ?_
        repeat ((first | refine aOps_nil ?_ | refine aOps_a rfl rfl rfl ?_); try simp only [go_sem])
        refine aOps_s rfl rfl (QK.rat rfl Try.underlying27 ti76 rfl rfl (by first | rfl | (simp only [go_sem]; done) | (simp []; done) | (simp []; omega) | omega) rfl hi ?_)
        try simp only [go_sem]
        refine aOps_s rfl rfl (QK.loadRat (off := 0) rfl rfl rfl (by first | rfl | (simp only [go_sem]; done) | (simp []; done) | (simp []; omega) | omega) (by simp) (encU_get (show i < y.length by omega)) (by kernel_rfl) rfl ?_)
        try simp only [go_sem]
        repeat ((first | refine aOps_nil ?_ | refine aOps_a rfl rfl rfl ?_); try simp only [go_sem])
        refine aOps_s rfl rfl (QK.rat rfl Try.underlying27 ti76 rfl rfl (by first | rfl | (simp only [go_sem]; done) | (simp []; done) | (simp []; omega) | omega) rfl hj ?_)
        try simp only [go_sem]
        refine aOps_s rfl rfl (QK.loadRat (off := 0) rfl rfl rfl (by first | rfl | (simp only [go_sem]; done) | (simp []; done) | (simp []; omega) | omega) (by simp) (encU_get (show j < y.length by omega)) (by kernel_rfl) rfl ?_)
        try simp only [go_sem]
        repeat ((first | refine aOps_nil ?_ | refine aOps_a rfl rfl rfl ?_); try simp only [go_sem])
        refine aOps_s rfl rfl (QK.rat rfl Try.underlying27 ti76 rfl rfl (by first | rfl | (simp only [go_sem]; done) | (simp []; done) | (simp []; omega) | omega) rfl hi ?_)
        try simp only [go_sem]
        refine aOps_n rfl (aOp.put rfl rfl rfl (by first | rfl | (simp only [go_sem]; done) | (simp []; done) | (simp []; omega) | omega) (Nat.mul_one _).symm hi rfl rfl rfl ti76 ?_)
        try simp only [go_sem]
        repeat ((first | refine aOps_nil ?_ | refine aOps_a rfl rfl rfl ?_); try simp only [go_sem])
        rw [encU_set, ← hres]
        (apply hKx12; (try clear hKx12 Kx12); try simp only [go_sem])
        refine WpA.reg fun all hall => ?_
        repeat ((first | refine aOps_nil ?_ | refine aOps_a rfl rfl rfl ?_); try simp only [go_sem])
        repeat ((first | refine aOps_nil ?_ | refine aOps_a rfl rfl rfl ?_); try simp only [go_sem])
        rw [wi1 i (by omega)]
        exact ⟨i + 1, ⟨hi, by omega⟩, (by ((try simp only [tpl, List.foldl_cons, List.foldl_nil, List.replicate, List.set_cons_zero, List.set_cons_succ]); repeat (first | exact trivial | refine ⟨.inr rfl, ?_⟩ | refine ⟨.inl rfl, ?_⟩))), (by rw [hres])⟩
      · skip
        rw [plusIn, if_neg (by simpa [hyl, hi] using hb26)] at hres
        (refine WpA.skip ?_; try simp only [go_sem])
        (apply hKx12; (try clear hKx12 Kx12); try simp only [go_sem])
        refine WpA.reg fun all hall => ?_
        repeat ((first | refine aOps_nil ?_ | refine aOps_a rfl rfl rfl ?_); try simp only [go_sem])
        repeat ((first | refine aOps_nil ?_ | refine aOps_a rfl rfl rfl ?_); try simp only [go_sem])
        rw [wi1 i (by omega)]
        exact ⟨i + 1, ⟨hi, by omega⟩, (by ((try simp only [tpl, List.foldl_cons, List.foldl_nil, List.replicate, List.set_cons_zero, List.set_cons_succ]); repeat (first | exact trivial | refine ⟨.inr rfl, ?_⟩ | refine ⟨.inl rfl, ?_⟩))), (by rw [hres])⟩
    · skip
      have hi : i = (cleanR a).length := by omega
      subst hi
      (refine WpA.exit ?_; try simp only [go_sem])
      (apply hKx7; (try clear hKx7 Kx7); try simp only [go_sem])
      refine WpA.reg fun all hall => ?_
      repeat ((first | refine aOps_nil ?_ | refine aOps_a rfl rfl rfl ?_); try simp only [go_sem])
      repeat ((first | refine aOps_nil ?_ | refine aOps_a rfl rfl rfl ?_); try simp only [go_sem])
      rw [wi1 j (by omega), ← hx]
      exact ⟨j + 1, ⟨hj, by omega⟩, (by ((try simp only [tpl, List.foldl_cons, List.foldl_nil, List.replicate, List.set_cons_zero, List.set_cons_succ]); repeat (first | exact trivial | refine ⟨.inr rfl, ?_⟩ | refine ⟨.inl rfl, ?_⟩))), (by rw [plusTo_succ])⟩
  · skip
    (refine WpA.exit ?_; try simp only [go_sem])
    (apply hKx3; (try clear hKx3 Kx3); try simp only [go_sem])
    refine WpA.seq fun Kx15 hKx15 => ?_
    refine WpA.reg fun all hall => ?_
    repeat ((first | refine aOps_nil ?_ | refine aOps_a rfl rfl rfl ?_); try simp only [go_sem])
    repeat ((first | refine aOps_nil ?_ | refine aOps_a rfl rfl rfl ?_); try simp only [go_sem])
    (apply hKx15; (try clear hKx15 Kx15); try simp only [go_sem])
    (refine WpA.ret ?_; try simp only [go_sem])
    have h1 : j = (cleanR a).length := by omega
    subst h1
    rw [show plusR a = plusTo (cleanR a) (cleanR a).length (cleanR a).length from rfl]
    exact RetQ.row rfl (by first | rfl | (simp only [go_sem]; done) | (simp [plusTo_len]; done) | (simp [plusTo_len]; omega) | omega) rfl

theorem plus_imm (a : List (BitVec 32)) : PCalls Try.prog 52 [.bor (encU a)] (.val (.pv (.imm (encU (plusR a))))) := (plus_calls a).imm

def acyclicR (a : List (BitVec 32)) : Bool := (List.range (plusR a).length).all fun i => !bit ((plusR a).getD i 0#32) i
theorem plusR_len (a : List (BitVec 32)) : (plusR a).length ≤ 32 := by rw [plusR, plusTo_len]; exact cleanR_len a

set_option maxHeartbeats 4000000 in
theorem acyclic_calls (a : List (BitVec 32)) : PCalls Try.prog 20 [.bor (encU a)] (.val (bv (acyclicR a))) := by
  refine PCalls.of_body Try.func20 rfl rfl Try.ntmps20 Try.results20 ?_
  simp only [go_sem, List.replicate]
  have hl := plusR_len a
  refine WpA.seq fun Kx1 hKx1 => ?_
  refine WpA.reg fun all hall => ?_
  repeat ((first | refine aOps_nil ?_ | refine aOps_a rfl rfl rfl ?_); try simp only [go_sem])
  repeat ((first | refine aOps_nil ?_ | refine aOps_a rfl rfl rfl ?_); try simp only [go_sem])
  (apply hKx1; (try clear hKx1 Kx1); try simp only [go_sem])
  refine WpA.seq fun Kx2 hKx2 => ?_
  refine WpA.seq fun Kx3 hKx3 => ?_
  refine WpA.reg fun all hall => ?_
  repeat ((first | refine aOps_nil ?_ | refine aOps_a rfl rfl rfl ?_); try simp only [go_sem])
  refine aOps_s rfl rfl (QK.call rfl rfl rfl (plus_imm a) (by repeat' (first | exact ConvL.nil | refine ConvL.cons ?_ ?_ | first | exact Conv.pv _ | exact Conv.imm_bor _ | exact Conv.bor _ | exact Conv.tight_imm _ | exact Conv.tight_bor _ | exact Conv.nil_imm | exact Conv.nil_bor | exact Conv.tight _ | exact Conv.at _ | exact Conv.row _ _ _ _ _ _ rfl (by first | rfl | (simp only [go_sem]; done) | (simp []; done) | (simp []; omega) | omega) | exact Conv.bat _ _ _ _ _ rfl rfl | exact Conv.aggp _ _ rfl | refine Conv.fnL _ ?_ | exact Conv.any _)) ?_)
  try simp only [go_sem]
  repeat ((first | refine aOps_nil ?_ | refine aOps_a rfl rfl rfl ?_); try simp only [go_sem])
  repeat ((first | refine aOps_nil ?_ | refine aOps_a rfl rfl rfl ?_); try simp only [go_sem])
  (apply hKx3; (try clear hKx3 Kx3); try simp only [go_sem])
  refine WpA.block ?_
  refine WpA.iter (fun (k : Nat) => k ≤ (plusR a).length ∧ ∀ i, i < k → bit ((plusR a).getD i 0#32) i = false) (fun (k : Nat) => tpl 20 [(6, .pv (.imm (encU (plusR a)))), (7, iv (plusR a).length), (8, iv k)]) (fun (k : Nat) => []) (fun (k : Nat) => (plusR a).length - k) 0 (by simp) (by ((try simp only [tpl, List.foldl_cons, List.foldl_nil, List.replicate, List.set_cons_zero, List.set_cons_succ]); repeat (first | exact trivial | refine ⟨.inr rfl, ?_⟩ | refine ⟨.inl rfl, ?_⟩))) rfl ?_
  rintro k hp0
  simp only [tpl, List.foldl_cons, List.foldl_nil, List.replicate, List.set_cons_zero, List.set_cons_succ]
  refine WpA.seq fun Kx4 hKx4 => ?_
  refine WpA.reg fun all hall => ?_
  repeat ((first | refine aOps_nil ?_ | refine aOps_a rfl rfl rfl ?_); try simp only [go_sem])
  repeat ((first | refine aOps_nil ?_ | refine aOps_a rfl rfl rfl ?_); try simp only [go_sem])
  (apply hKx4; (try clear hKx4 Kx4); try simp only [go_sem])
  refine WpA.seq fun Kx5 hKx5 => ?_
  (refine WpA.cond rfl (fun hb9 => ?_) (fun hb9 => ?_) <;> try simp only [decide_eq_true_eq, decide_eq_false_iff_not, Bool.not_eq_true', Bool.not_eq_false'] at hb9)
  · skip
    have hk : k < (plusR a).length := by omega
    (refine WpA.skip ?_; try simp only [go_sem])
    (apply hKx5; (try clear hKx5 Kx5); try simp only [go_sem])
    refine WpA.seq fun Kx6 hKx6 => ?_
    refine WpA.block ?_
    refine WpA.seq fun Kx7 hKx7 => ?_
    refine WpA.reg fun all hall => ?_
    repeat ((first | refine aOps_nil ?_ | refine aOps_a rfl rfl rfl ?_); try simp only [go_sem])
    refine aOps_s rfl rfl (QK.at rfl Try.underlying27 ti76 rfl (by first | exact .inl rfl | exact .inr (.inl rfl) | exact .inr (.inr rfl)) rfl (encU_get hk) rfl ?_)
    try simp only [go_sem]
    repeat ((first | refine aOps_nil ?_ | refine aOps_a rfl rfl rfl ?_); try simp only [go_sem])
    repeat ((first | refine aOps_nil ?_ | refine aOps_a rfl rfl rfl ?_); try simp only [go_sem])
    (apply hKx7; (try clear hKx7 Kx7); try simp only [go_sem])
    refine WpA.seq fun Kx8 hKx8 => ?_
    refine WpA.reg fun all hall => ?_
    ((first | refine aOps_nil ?_ | refine aOps_a rfl rfl rfl ?_); try simp only [go_sem])
    ((first | refine aOps_nil ?_ | refine aOps_a rfl rfl rfl ?_); try simp only [go_sem])
    ((first | refine aOps_nil ?_ | refine aOps_a rfl rfl rfl ?_); try simp only [go_sem])
    simp only [wu k (by omega)]
    ((first | refine aOps_nil ?_ | refine aOps_a rfl rfl rfl ?_); try simp only [go_sem])
    simp only [Int.toNat_natCast, shr32 _ k (by omega)]
    repeat ((first | refine aOps_nil ?_ | refine aOps_a rfl rfl rfl ?_); try simp only [go_sem])
    repeat ((first | refine aOps_nil ?_ | refine aOps_a rfl rfl rfl ?_); try simp only [go_sem])
    (apply hKx8; (try clear hKx8 Kx8); try simp only [go_sem])
    (refine WpA.cond rfl (fun hb18 => ?_) (fun hb18 => ?_) <;> try simp only [decide_eq_true_eq, decide_eq_false_iff_not, Bool.not_eq_true', Bool.not_eq_false'] at hb18)
    · skip
      refine WpA.seq fun Kx9 hKx9 => ?_
      refine WpA.reg fun all hall => ?_
      repeat ((first | refine aOps_nil ?_ | refine aOps_a rfl rfl rfl ?_); try simp only [go_sem])
      repeat ((first | refine aOps_nil ?_ | refine aOps_a rfl rfl rfl ?_); try simp only [go_sem])
      (apply hKx9; (try clear hKx9 Kx9); try simp only [go_sem])
      (refine WpA.ret ?_; try simp only [go_sem])
      exact ret_b rfl (by symm; rw [acyclicR, List.all_eq_false]; exact ⟨k, by simp [hk], by simp [hk, hb18]⟩)
    · skip
      (refine WpA.skip ?_; try simp only [go_sem])
      (apply hKx6; (try clear hKx6 Kx6); try simp only [go_sem])
      refine WpA.reg fun all hall => ?_
      repeat ((first | refine aOps_nil ?_ | refine aOps_a rfl rfl rfl ?_); try simp only [go_sem])
      repeat ((first | refine aOps_nil ?_ | refine aOps_a rfl rfl rfl ?_); try simp only [go_sem])
      rw [wi1 k (by omega)]
      exact ⟨k + 1, ⟨hk, upto_step hp0.2 (by simpa [hk] using hb18), by omega⟩, (by ((try simp only [tpl, List.foldl_cons, List.foldl_nil, List.replicate, List.set_cons_zero, List.set_cons_succ]); repeat (first | exact trivial | refine ⟨.inr rfl, ?_⟩ | refine ⟨.inl rfl, ?_⟩))), rfl⟩
  · skip
    (refine WpA.exit ?_; try simp only [go_sem])
    (apply hKx2; (try clear hKx2 Kx2); try simp only [go_sem])
    refine WpA.seq fun Kx10 hKx10 => ?_
    refine WpA.reg fun all hall => ?_
    repeat ((first | refine aOps_nil ?_ | refine aOps_a rfl rfl rfl ?_); try simp only [go_sem])
    repeat ((first | refine aOps_nil ?_ | refine aOps_a rfl rfl rfl ?_); try simp only [go_sem])
    (apply hKx10; (try clear hKx10 Kx10); try simp only [go_sem])
    (refine WpA.ret ?_; try simp only [go_sem])
    have h1 : k = (plusR a).length := by omega
    subst h1
    exact ret_b rfl (by symm; rw [acyclicR, List.all_eq_true]; intro i hi; rw [hp0.2 i (by simpa using hi)]; rfl)
end Go.Proofs.Ytfpbdphdahfgbaa
