/- Relations, third part. -/
import Derived.Test.YtfpbdphdahfgbaaR2
namespace Go.Proofs.Ytfpbdphdahfgbaa
open Go Go.RowKit Go.Proofs.Ytfpbdphdahfgbaa.Fw

/-- Row by row, in turn. -/
def mapTo (g : Nat → BitVec 32 → BitVec 32) (x : List (BitVec 32)) (k : Nat) : List (BitVec 32) := (List.range k).foldl (fun x i => x.set i (g i (x.getD i 0#32))) x
theorem mapTo_succ (g : Nat → BitVec 32 → BitVec 32) (x : List (BitVec 32)) (k : Nat) : mapTo g x (k + 1) = (mapTo g x k).set k (g k ((mapTo g x k).getD k 0#32)) := by simp [mapTo, List.range_succ]
theorem mapTo_len (g : Nat → BitVec 32 → BitVec 32) (x : List (BitVec 32)) (k : Nat) : (mapTo g x k).length = x.length := by
  induction k with
  | zero => rfl
  | succ k ih => rw [mapTo_succ, List.length_set, ih]
theorem mapTo_get (g : Nat → BitVec 32 → BitVec 32) (x : List (BitVec 32)) (k i : Nat) (hi : i < x.length) : (mapTo g x k).getD i 0#32 = if i < k then g i (x.getD i 0#32) else x.getD i 0#32 := by
  induction k with
  | zero => simp [mapTo]
  | succ k ih =>
    rw [mapTo_succ]
    by_cases h : k = i
    · subst h
      simp only [Nat.lt_irrefl, if_false] at ih
      rw [ih]
      simp [mapTo_len, hi]
    · simp only [List.getD_eq_getElem?_getD, List.getElem?_set, h, if_false] at ih ⊢
      rw [ih]
      by_cases h1 : i < k
      · simp [h1, show i < k + 1 by omega]
      · simp [h1, show ¬ i < k + 1 by omega]

def onlyG (f t : BitVec 32) (i : Nat) (r : BitVec 32) : BitVec 32 := (if bit f i then r else 0#32) &&& t
def onlyR (a : List (BitVec 32)) (f t : BitVec 32) : List (BitVec 32) := mapTo (onlyG f t) (cleanR a) (cleanR a).length

set_option maxHeartbeats 4000000 in
theorem only_calls (a : List (BitVec 32)) (f t : BitVec 32) : PCalls Try.prog 51 [.bor (encU a), uv f.toNat, uv t.toNat] (.row 76 1 (encU (onlyR a f t))) := by
  refine PCalls.of_body Try.func51 rfl rfl Try.ntmps51 Try.results51 ?_
  simp only [go_sem, List.replicate]
  have hl := cleanR_len a
  refine WpA.seq fun Kx1 hKx1 => ?_
  refine WpA.reg fun all hall => ?_
  repeat ((first | refine aOps_nil ?_ | refine aOps_a rfl rfl rfl ?_); try simp only [go_sem])
  repeat ((first | refine aOps_nil ?_ | refine aOps_a rfl rfl rfl ?_); try simp only [go_sem])
  (apply hKx1; (try clear hKx1 Kx1); try simp only [go_sem])
  refine WpA.seq fun Kx2 hKx2 => ?_
  refine WpA.reg fun all hall => ?_
  repeat ((first | refine aOps_nil ?_ | refine aOps_a rfl rfl rfl ?_); try simp only [go_sem])
  refine aOps_s rfl rfl (QK.call rfl rfl rfl (clean_calls a) (by repeat' (first | exact ConvL.nil | refine ConvL.cons ?_ ?_ | first | exact Conv.pv _ | exact Conv.imm_bor _ | exact Conv.bor _ | exact Conv.tight_imm _ | exact Conv.tight_bor _ | exact Conv.nil_imm | exact Conv.nil_bor | exact Conv.tight _ | exact Conv.at _ | exact Conv.row _ _ _ _ _ _ rfl (by first | rfl | (simp only [go_sem]; done) | (simp []; done) | (simp []; omega) | omega) | exact Conv.bat _ _ _ _ _ rfl rfl | exact Conv.aggp _ _ rfl | refine Conv.fnL _ ?_ | exact Conv.any _)) ?_)
  try simp only [go_sem]
  repeat ((first | refine aOps_nil ?_ | refine aOps_a rfl rfl rfl ?_); try simp only [go_sem])
  repeat ((first | refine aOps_nil ?_ | refine aOps_a rfl rfl rfl ?_); try simp only [go_sem])
  (apply hKx2; (try clear hKx2 Kx2); try simp only [go_sem])
  refine WpA.seq fun Kx3 hKx3 => ?_
  refine WpA.seq fun Kx4 hKx4 => ?_
  refine WpA.reg fun all hall => ?_
  repeat ((first | refine aOps_nil ?_ | refine aOps_a rfl rfl rfl ?_); try simp only [go_sem])
  repeat ((first | refine aOps_nil ?_ | refine aOps_a rfl rfl rfl ?_); try simp only [go_sem])
  (apply hKx4; (try clear hKx4 Kx4); try simp only [go_sem])
  refine WpA.block ?_
  refine WpA.iter (fun (i : Nat) => i ≤ (cleanR a).length) (fun (i : Nat) => tpl 34 [(1, uv f.toNat), (2, uv t.toNat), (7, .row 0 (cleanR a).length), (12, iv (cleanR a).length), (13, iv i)]) (fun (i : Nat) => [.row false 76 1 (encU (mapTo (onlyG f t) (cleanR a) i))]) (fun (i : Nat) => (cleanR a).length - i) 0 (by omega) (by ((try simp only [tpl, List.foldl_cons, List.foldl_nil, List.replicate, List.set_cons_zero, List.set_cons_succ]); repeat (first | exact trivial | refine ⟨.inr rfl, ?_⟩ | refine ⟨.inl rfl, ?_⟩))) rfl ?_
  rintro i hp0
  simp only [tpl, List.foldl_cons, List.foldl_nil, List.replicate, List.set_cons_zero, List.set_cons_succ]
  refine WpA.seq fun Kx5 hKx5 => ?_
  refine WpA.reg fun all hall => ?_
  repeat ((first | refine aOps_nil ?_ | refine aOps_a rfl rfl rfl ?_); try simp only [go_sem])
  repeat ((first | refine aOps_nil ?_ | refine aOps_a rfl rfl rfl ?_); try simp only [go_sem])
  (apply hKx5; (try clear hKx5 Kx5); try simp only [go_sem])
  refine WpA.seq fun Kx6 hKx6 => ?_
  (refine WpA.cond rfl (fun hb14 => ?_) (fun hb14 => ?_) <;> try simp only [decide_eq_true_eq, decide_eq_false_iff_not, Bool.not_eq_true', Bool.not_eq_false'] at hb14)
  · skip
    have hi : i < (cleanR a).length := by omega
    have hyl : (mapTo (onlyG f t) (cleanR a) i).length = (cleanR a).length := mapTo_len _ _ _
    have hres := mapTo_succ (onlyG f t) (cleanR a) i
    generalize mapTo (onlyG f t) (cleanR a) i = y at hyl hres
    have hiy : i < y.length := by omega
    simp only [List.getD_eq_getElem?_getD, List.getElem?_eq_getElem hiy, Option.getD_some, onlyG] at hres
    (refine WpA.skip ?_; try simp only [go_sem])
    (apply hKx6; (try clear hKx6 Kx6); try simp only [go_sem])
    refine WpA.seq fun Kx7 hKx7 => ?_
    refine WpA.block ?_
    refine WpA.seq fun Kx8 hKx8 => ?_
    refine WpA.reg fun all hall => ?_
    repeat ((first | refine aOps_nil ?_ | refine aOps_a rfl rfl rfl ?_); try simp only [go_sem])
    repeat ((first | refine aOps_nil ?_ | refine aOps_a rfl rfl rfl ?_); try simp only [go_sem])
    (apply hKx8; (try clear hKx8 Kx8); try simp only [go_sem])
    refine WpA.seq fun Kx9 hKx9 => ?_
    refine WpA.seq fun Kx10 hKx10 => ?_
    refine WpA.reg fun all hall => ?_
    ((first | refine aOps_nil ?_ | refine aOps_a rfl rfl rfl ?_); try simp only [go_sem])
    ((first | refine aOps_nil ?_ | refine aOps_a rfl rfl rfl ?_); try simp only [go_sem])
    ((first | refine aOps_nil ?_ | refine aOps_a rfl rfl rfl ?_); try simp only [go_sem])
    simp only [wu i (by omega)]
    ((first | refine aOps_nil ?_ | refine aOps_a rfl rfl rfl ?_); try simp only [go_sem])
    simp only [Int.toNat_natCast, shr32 _ i (by omega)]
    repeat ((first | refine aOps_nil ?_ | refine aOps_a rfl rfl rfl ?_); try simp only [go_sem])
    repeat ((first | refine aOps_nil ?_ | refine aOps_a rfl rfl rfl ?_); try simp only [go_sem])
    (apply hKx10; (try clear hKx10 Kx10); try simp only [go_sem])
    (refine WpA.cond rfl (fun hb21 => ?_) (fun hb21 => ?_) <;> try simp only [decide_eq_true_eq, decide_eq_false_iff_not, Bool.not_eq_true', Bool.not_eq_false'] at hb21)
    · skip
      rw [if_neg (by simpa using hb21)] at hres
      obtain ⟨z, hz⟩ : ∃ z, z = 0#32 := ⟨_, rfl⟩
      rw [← hz] at hres
      have hg0 : (encU (y.set i z))[i]? = some (eU z) := encU_at (by simp [hiy])
      refine WpA.reg fun all hall => ?_
      repeat ((first | refine aOps_nil ?_ | refine aOps_a rfl rfl rfl ?_); try simp only [go_sem])
      refine aOps_s rfl rfl (QK.rat rfl Try.underlying27 ti76 rfl rfl (by first | rfl | (simp only [go_sem]; done) | (simp []; done) | (simp []; omega) | omega) rfl hi ?_)
      try simp only [go_sem]
      refine aOps_n rfl (aOp.put rfl rfl rfl (by first | rfl | (simp only [go_sem]; done) | (simp []; done) | (simp []; omega) | omega) (Nat.mul_one _).symm hi rfl rfl rfl ti76 ?_)
      try simp only [go_sem]
      repeat ((first | refine aOps_nil ?_ | refine aOps_a rfl rfl rfl ?_); try simp only [go_sem])
      rw [encU_set0, ← hz]
      (apply hKx9; (try clear hKx9 Kx9); try simp only [go_sem])
      refine WpA.reg fun all hall => ?_
      repeat ((first | refine aOps_nil ?_ | refine aOps_a rfl rfl rfl ?_); try simp only [go_sem])
      refine aOps_s rfl rfl (QK.rat rfl Try.underlying27 ti76 rfl rfl (by first | rfl | (simp only [go_sem]; done) | (simp []; done) | (simp []; omega) | omega) rfl hi ?_)
      try simp only [go_sem]
      refine aOps_s rfl rfl (QK.loadRat (off := 0) rfl rfl rfl (by first | rfl | (simp only [go_sem]; done) | (simp []; done) | (simp []; omega) | omega) (by simp) hg0 (by kernel_rfl) rfl ?_)
      try simp only [go_sem]
      repeat ((first | refine aOps_nil ?_ | refine aOps_a rfl rfl rfl ?_); try simp only [go_sem])
      refine aOps_s rfl rfl (QK.rat rfl Try.underlying27 ti76 rfl rfl (by first | rfl | (simp only [go_sem]; done) | (simp []; done) | (simp []; omega) | omega) rfl hi ?_)
      try simp only [go_sem]
      refine aOps_n rfl (aOp.put rfl rfl rfl (by first | rfl | (simp only [go_sem]; done) | (simp []; done) | (simp []; omega) | omega) (Nat.mul_one _).symm hi rfl rfl rfl ti76 ?_)
      try simp only [go_sem]
      repeat ((first | refine aOps_nil ?_ | refine aOps_a rfl rfl rfl ?_); try simp only [go_sem])
      first | rw [encU_set, List.set_set, ← hres] | rw [encU_set, ← hres]
      (apply hKx7; (try clear hKx7 Kx7); try simp only [go_sem])
      refine WpA.reg fun all hall => ?_
      repeat ((first | refine aOps_nil ?_ | refine aOps_a rfl rfl rfl ?_); try simp only [go_sem])
      repeat ((first | refine aOps_nil ?_ | refine aOps_a rfl rfl rfl ?_); try simp only [go_sem])
      rw [wi1 i (by omega)]
      exact ⟨i + 1, ⟨hi, by omega⟩, (by ((try simp only [tpl, List.foldl_cons, List.foldl_nil, List.replicate, List.set_cons_zero, List.set_cons_succ]); repeat (first | exact trivial | refine ⟨.inr rfl, ?_⟩ | refine ⟨.inl rfl, ?_⟩))), (by rw [hres])⟩
    · skip
      rw [if_pos (by simpa using hb21)] at hres
      have hg0 := encU_get hiy
      (refine WpA.skip ?_; try simp only [go_sem])
      (apply hKx9; (try clear hKx9 Kx9); try simp only [go_sem])
      refine WpA.reg fun all hall => ?_
      repeat ((first | refine aOps_nil ?_ | refine aOps_a rfl rfl rfl ?_); try simp only [go_sem])
      refine aOps_s rfl rfl (QK.rat rfl Try.underlying27 ti76 rfl rfl (by first | rfl | (simp only [go_sem]; done) | (simp []; done) | (simp []; omega) | omega) rfl hi ?_)
      try simp only [go_sem]
      refine aOps_s rfl rfl (QK.loadRat (off := 0) rfl rfl rfl (by first | rfl | (simp only [go_sem]; done) | (simp []; done) | (simp []; omega) | omega) (by simp) hg0 (by kernel_rfl) rfl ?_)
      try simp only [go_sem]
      repeat ((first | refine aOps_nil ?_ | refine aOps_a rfl rfl rfl ?_); try simp only [go_sem])
      refine aOps_s rfl rfl (QK.rat rfl Try.underlying27 ti76 rfl rfl (by first | rfl | (simp only [go_sem]; done) | (simp []; done) | (simp []; omega) | omega) rfl hi ?_)
      try simp only [go_sem]
      refine aOps_n rfl (aOp.put rfl rfl rfl (by first | rfl | (simp only [go_sem]; done) | (simp []; done) | (simp []; omega) | omega) (Nat.mul_one _).symm hi rfl rfl rfl ti76 ?_)
      try simp only [go_sem]
      repeat ((first | refine aOps_nil ?_ | refine aOps_a rfl rfl rfl ?_); try simp only [go_sem])
      first | rw [encU_set, List.set_set, ← hres] | rw [encU_set, ← hres]
      (apply hKx7; (try clear hKx7 Kx7); try simp only [go_sem])
      refine WpA.reg fun all hall => ?_
      repeat ((first | refine aOps_nil ?_ | refine aOps_a rfl rfl rfl ?_); try simp only [go_sem])
      repeat ((first | refine aOps_nil ?_ | refine aOps_a rfl rfl rfl ?_); try simp only [go_sem])
      rw [wi1 i (by omega)]
      exact ⟨i + 1, ⟨hi, by omega⟩, (by ((try simp only [tpl, List.foldl_cons, List.foldl_nil, List.replicate, List.set_cons_zero, List.set_cons_succ]); repeat (first | exact trivial | refine ⟨.inr rfl, ?_⟩ | refine ⟨.inl rfl, ?_⟩))), (by rw [hres])⟩
  · skip
    (refine WpA.exit ?_; try simp only [go_sem])
    (apply hKx3; (try clear hKx3 Kx3); try simp only [go_sem])
    refine WpA.seq fun Kx11 hKx11 => ?_
    refine WpA.reg fun all hall => ?_
    repeat ((first | refine aOps_nil ?_ | refine aOps_a rfl rfl rfl ?_); try simp only [go_sem])
    repeat ((first | refine aOps_nil ?_ | refine aOps_a rfl rfl rfl ?_); try simp only [go_sem])
    (apply hKx11; (try clear hKx11 Kx11); try simp only [go_sem])
    (refine WpA.ret ?_; try simp only [go_sem])
    have h1 : i = (cleanR a).length := by omega
    subst h1
    rw [show onlyR a f t = mapTo (onlyG f t) (cleanR a) (cleanR a).length from rfl]
    exact RetQ.row rfl (by first | rfl | (simp only [go_sem]; done) | (simp [mapTo_len]; done) | (simp [mapTo_len]; omega) | omega) rfl
theorem only_imm (a : List (BitVec 32)) (f t : BitVec 32) : PCalls Try.prog 51 [.bor (encU a), uv f.toNat, uv t.toNat] (.val (.pv (.imm (encU (onlyR a f t))))) := (only_calls a f t).imm

def crossR (n : Nat) (f t : BitVec 32) : List (BitVec 32) := onlyR (mapTo (fun _ _ => allR n) (newR n) (newR n).length) f t
theorem newR_len (n : Nat) : (newR n).length ≤ 32 := by unfold newR; split <;> simp <;> omega
theorem newR_pos {n k : Nat} (h : k < (newR n).length) : n ≤ 32 := by
  unfold newR at h; split at h
  · simp at h
  · omega

set_option maxHeartbeats 4000000 in
theorem cross_calls (n : Nat) (hn : n < 9223372036854775808) (f t : BitVec 32) : PCalls Try.prog 63 [iv n, uv f.toNat, uv t.toNat] (.val (.pv (.imm (encU (crossR n f t))))) := by
  refine PCalls.of_body Try.func63 rfl rfl Try.ntmps63 Try.results63 ?_
  simp only [go_sem, List.replicate]
  have hl := newR_len n
  refine WpA.seq fun Kx1 hKx1 => ?_
  refine WpA.reg fun all hall => ?_
  repeat ((first | refine aOps_nil ?_ | refine aOps_a rfl rfl rfl ?_); try simp only [go_sem])
  repeat ((first | refine aOps_nil ?_ | refine aOps_a rfl rfl rfl ?_); try simp only [go_sem])
  (apply hKx1; (try clear hKx1 Kx1); try simp only [go_sem])
  refine WpA.seq fun Kx2 hKx2 => ?_
  refine WpA.reg fun all hall => ?_
  repeat ((first | refine aOps_nil ?_ | refine aOps_a rfl rfl rfl ?_); try simp only [go_sem])
  refine aOps_s rfl rfl (QK.call rfl rfl rfl (new_calls n hn) (by repeat' (first | exact ConvL.nil | refine ConvL.cons ?_ ?_ | first | exact Conv.pv _ | exact Conv.imm_bor _ | exact Conv.bor _ | exact Conv.tight_imm _ | exact Conv.tight_bor _ | exact Conv.nil_imm | exact Conv.nil_bor | exact Conv.tight _ | exact Conv.at _ | exact Conv.row _ _ _ _ _ _ rfl (by first | rfl | (simp only [go_sem]; done) | (simp []; done) | (simp []; omega) | omega) | exact Conv.bat _ _ _ _ _ rfl rfl | exact Conv.aggp _ _ rfl | refine Conv.fnL _ ?_ | exact Conv.any _)) ?_)
  try simp only [go_sem]
  repeat ((first | refine aOps_nil ?_ | refine aOps_a rfl rfl rfl ?_); try simp only [go_sem])
  repeat ((first | refine aOps_nil ?_ | refine aOps_a rfl rfl rfl ?_); try simp only [go_sem])
  (apply hKx2; (try clear hKx2 Kx2); try simp only [go_sem])
  refine WpA.seq fun Kx3 hKx3 => ?_
  refine WpA.seq fun Kx4 hKx4 => ?_
  refine WpA.reg fun all hall => ?_
  repeat ((first | refine aOps_nil ?_ | refine aOps_a rfl rfl rfl ?_); try simp only [go_sem])
  repeat ((first | refine aOps_nil ?_ | refine aOps_a rfl rfl rfl ?_); try simp only [go_sem])
  (apply hKx4; (try clear hKx4 Kx4); try simp only [go_sem])
  refine WpA.block ?_
  refine WpA.iter (fun (i : Nat) => i ≤ (newR n).length) (fun (i : Nat) => tpl 26 [(0, iv n), (1, uv f.toNat), (2, uv t.toNat), (7, .row 0 (newR n).length), (12, iv (newR n).length), (13, iv i)]) (fun (i : Nat) => [.row false 76 1 (encU (mapTo (fun _ _ => allR n) (newR n) i))]) (fun (i : Nat) => (newR n).length - i) 0 (by omega) (by ((try simp only [tpl, List.foldl_cons, List.foldl_nil, List.replicate, List.set_cons_zero, List.set_cons_succ]); repeat (first | exact trivial | refine ⟨.inr rfl, ?_⟩ | refine ⟨.inl rfl, ?_⟩))) rfl ?_
  rintro i hp0
  simp only [tpl, List.foldl_cons, List.foldl_nil, List.replicate, List.set_cons_zero, List.set_cons_succ]
  refine WpA.seq fun Kx5 hKx5 => ?_
  refine WpA.reg fun all hall => ?_
  repeat ((first | refine aOps_nil ?_ | refine aOps_a rfl rfl rfl ?_); try simp only [go_sem])
  repeat ((first | refine aOps_nil ?_ | refine aOps_a rfl rfl rfl ?_); try simp only [go_sem])
  (apply hKx5; (try clear hKx5 Kx5); try simp only [go_sem])
  refine WpA.seq fun Kx6 hKx6 => ?_
  (refine WpA.cond rfl (fun hb14 => ?_) (fun hb14 => ?_) <;> try simp only [decide_eq_true_eq, decide_eq_false_iff_not, Bool.not_eq_true', Bool.not_eq_false'] at hb14)
  · skip
    have hi : i < (newR n).length := by omega
    have hyl : (mapTo (fun _ _ => allR n) (newR n) i).length = (newR n).length := mapTo_len _ _ _
    have hres := mapTo_succ (fun _ _ => allR n) (newR n) i
    generalize mapTo (fun _ _ => allR n) (newR n) i = y at hyl hres
    (refine WpA.skip ?_; try simp only [go_sem])
    (apply hKx6; (try clear hKx6 Kx6); try simp only [go_sem])
    refine WpA.seq fun Kx7 hKx7 => ?_
    refine WpA.block ?_
    refine WpA.seq fun Kx8 hKx8 => ?_
    refine WpA.reg fun all hall => ?_
    repeat ((first | refine aOps_nil ?_ | refine aOps_a rfl rfl rfl ?_); try simp only [go_sem])
    repeat ((first | refine aOps_nil ?_ | refine aOps_a rfl rfl rfl ?_); try simp only [go_sem])
    (apply hKx8; (try clear hKx8 Kx8); try simp only [go_sem])
    refine WpA.reg fun all hall => ?_
    repeat ((first | refine aOps_nil ?_ | refine aOps_a rfl rfl rfl ?_); try simp only [go_sem])
    refine aOps_s rfl rfl (QK.call rfl rfl rfl (all_calls n (newR_pos hi)) (by repeat' (first | exact ConvL.nil | refine ConvL.cons ?_ ?_ | first | exact Conv.pv _ | exact Conv.imm_bor _ | exact Conv.bor _ | exact Conv.tight_imm _ | exact Conv.tight_bor _ | exact Conv.nil_imm | exact Conv.nil_bor | exact Conv.tight _ | exact Conv.at _ | exact Conv.row _ _ _ _ _ _ rfl (by first | rfl | (simp only [go_sem]; done) | (simp []; done) | (simp []; omega) | omega) | exact Conv.bat _ _ _ _ _ rfl rfl | exact Conv.aggp _ _ rfl | refine Conv.fnL _ ?_ | exact Conv.any _)) ?_)
    try simp only [go_sem]
    refine aOps_s rfl rfl (QK.rat rfl Try.underlying27 ti76 rfl rfl (by first | rfl | (simp only [go_sem]; done) | (simp []; done) | (simp []; omega) | omega) rfl hi ?_)
    try simp only [go_sem]
    refine aOps_n rfl (aOp.put rfl rfl rfl (by first | rfl | (simp only [go_sem]; done) | (simp []; done) | (simp []; omega) | omega) (Nat.mul_one _).symm hi rfl rfl rfl ti76 ?_)
    try simp only [go_sem]
    repeat ((first | refine aOps_nil ?_ | refine aOps_a rfl rfl rfl ?_); try simp only [go_sem])
    rw [encU_set, ← hres]
    (apply hKx7; (try clear hKx7 Kx7); try simp only [go_sem])
    refine WpA.reg fun all hall => ?_
    repeat ((first | refine aOps_nil ?_ | refine aOps_a rfl rfl rfl ?_); try simp only [go_sem])
    repeat ((first | refine aOps_nil ?_ | refine aOps_a rfl rfl rfl ?_); try simp only [go_sem])
    rw [wi1 i (by omega)]
    exact ⟨i + 1, ⟨hi, by omega⟩, (by ((try simp only [tpl, List.foldl_cons, List.foldl_nil, List.replicate, List.set_cons_zero, List.set_cons_succ]); repeat (first | exact trivial | refine ⟨.inr rfl, ?_⟩ | refine ⟨.inl rfl, ?_⟩))), (by rw [hres])⟩
  · skip
    have h1 : i = (newR n).length := by omega
    subst h1
    (refine WpA.exit ?_; try simp only [go_sem])
    (apply hKx3; (try clear hKx3 Kx3); try simp only [go_sem])
    refine WpA.seq fun Kx9 hKx9 => ?_
    refine WpA.reg fun all hall => ?_
    repeat ((first | refine aOps_nil ?_ | refine aOps_a rfl rfl rfl ?_); try simp only [go_sem])
    refine aOps_s rfl rfl (QK.call rfl rfl rfl (only_imm (mapTo (fun _ _ => allR n) (newR n) (newR n).length) f t) (.cons (.row _ _ _ _ _ _ rfl (by first | rfl | (simp only [go_sem]; done) | (simp [mapTo_len]; done) | (simp [mapTo_len]; omega) | omega)) (.cons (.pv _) (.cons (.pv _) .nil))) ?_)
    try simp only [go_sem]
    repeat ((first | refine aOps_nil ?_ | refine aOps_a rfl rfl rfl ?_); try simp only [go_sem])
    repeat ((first | refine aOps_nil ?_ | refine aOps_a rfl rfl rfl ?_); try simp only [go_sem])
    (apply hKx9; (try clear hKx9 Kx9); try simp only [go_sem])
    (refine WpA.ret ?_; try simp only [go_sem])
    exact RetQ.val (.pv _)

def invIn (r : List (BitVec 32)) (p : Nat × Nat) : List (BitVec 32) := r.set p.2 (r.getD p.2 0#32 ||| 1#32 <<< p.1)
def invTo (n : Nat) (ps : List (Nat × Nat)) : List (BitVec 32) := ps.foldl invIn (List.replicate n 0#32)
def invR (a : List (BitVec 32)) : List (BitVec 32) := invTo (cleanR a).length (pairsR (cleanR a))
theorem invTo_len (n : Nat) (ps : List (Nat × Nat)) : (invTo n ps).length = n := by
  have : ∀ (ps : List (Nat × Nat)) (r : List (BitVec 32)), (ps.foldl invIn r).length = r.length := fun ps => by
    induction ps with
    | nil => intro r; rfl
    | cons p ps ih => intro r; simp [ih, invIn]
  rw [invTo, this]; simp
theorem pairsOf_mem {x : BitVec 32} {i n : Nat} {p : Nat × Nat} (h : p ∈ pairsOf x i n) : p.1 = i ∧ p.2 < n ∧ bit x p.2 = true := by
  simp only [pairsOf, List.mem_map, List.mem_filter, List.mem_range] at h
  obtain ⟨k, ⟨h1, h2⟩, rfl⟩ := h
  exact ⟨rfl, h1, h2⟩
theorem pairsTo_mem {a : List (BitVec 32)} {i : Nat} {p : Nat × Nat} (h : p ∈ pairsTo a i) : p.1 < i ∧ p.2 < a.length ∧ bit ((cleanR a).getD p.1 0#32) p.2 = true := by
  simp only [pairsTo, List.mem_flatMap, List.mem_range] at h
  obtain ⟨j, h1, h2⟩ := h
  obtain ⟨h3, h4, h5⟩ := pairsOf_mem h2
  subst h3
  exact ⟨h1, h4, h5⟩
theorem pairsR_len (a : List (BitVec 32)) : (pairsR a).length ≤ 1024 := by
  have h1 := pairsTo_len a (cleanR a).length
  have h2 := cleanR_len a
  by_cases h : a.length ≤ 32
  · have h3 : (cleanR a).length * a.length ≤ 32 * 32 := Nat.mul_le_mul h2 h
    rw [pairsR]; omega
  · rw [pairsR, cleanR, if_pos (by omega)]; simp [pairsTo]
theorem cleanR_twice (a : List (BitVec 32)) : cleanR (cleanR a) = cleanR a := by
  by_cases h : 32 < a.length
  · rw [show cleanR a = [] from if_pos h]; rfl
  · have h1 : cleanR a = a.map fun x => x &&& allR a.length := if_neg h
    rw [h1, cleanR, List.length_map, if_neg h, List.map_map]
    apply List.map_congr_left
    intro x _
    simp [BitVec.and_assoc]
theorem foldl_take {α β : Type} (f : β → α → β) (b : β) (l : List α) (k : Nat) (hk : k < l.length) : (l.take (k + 1)).foldl f b = f ((l.take k).foldl f b) l[k] := by
  rw [List.take_add_one, List.getElem?_eq_getElem hk, Option.toList_some, List.foldl_append]; rfl

set_option maxHeartbeats 4000000 in
theorem inv_calls (a : List (BitVec 32)) : PCalls Try.prog 16 [.bor (encU a)] (.row 76 1 (encU (invR a))) := by
  refine PCalls.of_body Try.func16 rfl rfl Try.ntmps16 Try.results16 ?_
  simp only [go_sem, List.replicate]
  have hl := cleanR_len a
  refine WpA.seq fun Kx1 hKx1 => ?_
  refine WpA.reg fun all hall => ?_
  repeat ((first | refine aOps_nil ?_ | refine aOps_a rfl rfl rfl ?_); try simp only [go_sem])
  repeat ((first | refine aOps_nil ?_ | refine aOps_a rfl rfl rfl ?_); try simp only [go_sem])
  (apply hKx1; (try clear hKx1 Kx1); try simp only [go_sem])
  refine WpA.seq fun Kx2 hKx2 => ?_
  refine WpA.reg fun all hall => ?_
  repeat ((first | refine aOps_nil ?_ | refine aOps_a rfl rfl rfl ?_); try simp only [go_sem])
  refine aOps_s rfl rfl (QK.call rfl rfl rfl (clean_imm a) (by repeat' (first | exact ConvL.nil | refine ConvL.cons ?_ ?_ | first | exact Conv.pv _ | exact Conv.imm_bor _ | exact Conv.bor _ | exact Conv.tight_imm _ | exact Conv.tight_bor _ | exact Conv.nil_imm | exact Conv.nil_bor | exact Conv.tight _ | exact Conv.at _ | exact Conv.row _ _ _ _ _ _ rfl (by first | rfl | (simp only [go_sem]; done) | (simp []; done) | (simp []; omega) | omega) | exact Conv.bat _ _ _ _ _ rfl rfl | exact Conv.aggp _ _ rfl | refine Conv.fnL _ ?_ | exact Conv.any _)) ?_)
  try simp only [go_sem]
  repeat ((first | refine aOps_nil ?_ | refine aOps_a rfl rfl rfl ?_); try simp only [go_sem])
  repeat ((first | refine aOps_nil ?_ | refine aOps_a rfl rfl rfl ?_); try simp only [go_sem])
  (apply hKx2; (try clear hKx2 Kx2); try simp only [go_sem])
  refine WpA.seq fun Kx3 hKx3 => ?_
  refine WpA.reg fun all hall => ?_
  ((first | refine aOps_nil ?_ | refine aOps_a rfl rfl rfl ?_); try simp only [go_sem])
  ((first | refine aOps_nil ?_ | refine aOps_a rfl rfl rfl ?_); try simp only [go_sem])
  ((first | refine aOps_nil ?_ | refine aOps_a rfl rfl rfl ?_); try simp only [go_sem])
  refine ⟨by omega, by omega, ?_⟩
  repeat ((first | refine aOps_nil ?_ | refine aOps_a rfl rfl rfl ?_); try simp only [go_sem])
  repeat ((first | refine aOps_nil ?_ | refine aOps_a rfl rfl rfl ?_); try simp only [go_sem])
  (apply hKx3; (try clear hKx3 Kx3); try simp only [go_sem])
  refine WpA.seq fun Kx4 hKx4 => ?_
  refine WpA.seq fun Kx5 hKx5 => ?_
  refine WpA.reg fun all hall => ?_
  repeat ((first | refine aOps_nil ?_ | refine aOps_a rfl rfl rfl ?_); try simp only [go_sem])
  refine aOps_s rfl rfl (QK.call rfl rfl rfl (pairs_calls (cleanR a)) (by repeat' (first | exact ConvL.nil | refine ConvL.cons ?_ ?_ | first | exact Conv.pv _ | exact Conv.imm_bor _ | exact Conv.bor _ | exact Conv.tight_imm _ | exact Conv.tight_bor _ | exact Conv.nil_imm | exact Conv.nil_bor | exact Conv.tight _ | exact Conv.at _ | exact Conv.row _ _ _ _ _ _ rfl (by first | rfl | (simp only [go_sem]; done) | (simp []; done) | (simp []; omega) | omega) | exact Conv.bat _ _ _ _ _ rfl rfl | exact Conv.aggp _ _ rfl | refine Conv.fnL _ ?_ | exact Conv.any _)) ?_)
  try simp only [go_sem]
  repeat ((first | refine aOps_nil ?_ | refine aOps_a rfl rfl rfl ?_); try simp only [go_sem])
  repeat ((first | refine aOps_nil ?_ | refine aOps_a rfl rfl rfl ?_); try simp only [go_sem])
  (apply hKx5; (try clear hKx5 Kx5); try simp only [go_sem])
  refine WpA.block ?_
  have hpl := pairsR_len (cleanR a)
  refine WpA.iter (fun (i : Nat) => i ≤ (pairsR (cleanR a)).length) (fun (i : Nat) => tpl 32 [(4, .row 0 (cleanR a).length), (13, .pv (.imm (encP (pairsR (cleanR a))))), (14, iv (pairsR (cleanR a)).length), (15, iv i)]) (fun (i : Nat) => [.row false 76 1 (encU (invTo (cleanR a).length ((pairsR (cleanR a)).take i)))]) (fun (i : Nat) => (pairsR (cleanR a)).length - i) 0 (by omega) (by ((try simp only [tpl, List.foldl_cons, List.foldl_nil, List.replicate, List.set_cons_zero, List.set_cons_succ]); repeat (first | exact trivial | refine ⟨.inr rfl, ?_⟩ | refine ⟨.inl rfl, ?_⟩))) (by simp [invTo, encU, eU]) ?_
  rintro i hp0
  simp only [tpl, List.foldl_cons, List.foldl_nil, List.replicate, List.set_cons_zero, List.set_cons_succ]
  refine WpA.seq fun Kx6 hKx6 => ?_
  refine WpA.reg fun all hall => ?_
  repeat ((first | refine aOps_nil ?_ | refine aOps_a rfl rfl rfl ?_); try simp only [go_sem])
  repeat ((first | refine aOps_nil ?_ | refine aOps_a rfl rfl rfl ?_); try simp only [go_sem])
  (apply hKx6; (try clear hKx6 Kx6); try simp only [go_sem])
  refine WpA.seq fun Kx7 hKx7 => ?_
  (refine WpA.cond rfl (fun hb16 => ?_) (fun hb16 => ?_) <;> try simp only [decide_eq_true_eq, decide_eq_false_iff_not, Bool.not_eq_true', Bool.not_eq_false'] at hb16)
  · skip
    have hi : i < (pairsR (cleanR a)).length := by omega
    obtain ⟨h1, h2, _⟩ := pairsTo_mem (List.getElem_mem hi)
    rw [cleanR_twice] at h1
    have hyl : (invTo (cleanR a).length ((pairsR (cleanR a)).take i)).length = (cleanR a).length := invTo_len _ _
    have hres : invTo (cleanR a).length ((pairsR (cleanR a)).take (i + 1)) = invIn (invTo (cleanR a).length ((pairsR (cleanR a)).take i)) (pairsR (cleanR a))[i] := foldl_take _ _ _ _ hi
    have hget := encP_get hi
    generalize invTo (cleanR a).length ((pairsR (cleanR a)).take i) = y at hyl hres
    generalize (pairsR (cleanR a))[i] = q at h1 h2 hres hget
    have hqy : q.2 < y.length := by omega
    simp only [invIn, List.getD_eq_getElem?_getD, List.getElem?_eq_getElem hqy, Option.getD_some] at hres
    (refine WpA.skip ?_; try simp only [go_sem])
    (apply hKx7; (try clear hKx7 Kx7); try simp only [go_sem])
    refine WpA.seq fun Kx8 hKx8 => ?_
    refine WpA.block ?_
    refine WpA.seq fun Kx9 hKx9 => ?_
    refine WpA.reg fun all hall => ?_
    refine aOps_s rfl rfl (QK.at rfl Try.underlying64 ti66 rfl (by first | exact .inl rfl | exact .inr (.inl rfl) | exact .inr (.inr rfl)) rfl hget rfl ?_)
    try simp only [go_sem]
    repeat ((first | refine aOps_nil ?_ | refine aOps_a rfl rfl rfl ?_); try simp only [go_sem])
    refine aOps_s rfl rfl (QK.alloc rfl ti66 (by kernel_rfl) rfl ?_)
    try simp only [go_sem]
    refine aOps_n rfl (aOp.set rfl rfl rfl rfl ?_ ti66 ?_)
    · exact ⟨rfl, (by first | rfl | (simp only [go_sem]; done) | (simp []; done) | (simp []; omega) | omega)⟩
    try simp only [go_sem]
    repeat ((first | refine aOps_nil ?_ | refine aOps_a rfl rfl rfl ?_); try simp only [go_sem])
    (apply hKx9; (try clear hKx9 Kx9); try simp only [go_sem])
    refine WpA.regD (0 + 1 + 1 + 1 + 1 + 1 + 1 + 1 + 1 + 1) mixed (by kernel_rfl) fun all hall => ?_
    repeat ((first | refine aOps_nil ?_ | refine aOps_a rfl rfl rfl ?_); try simp only [go_sem])
    refine aOps_s rfl rfl (QK.ibat (i := 1) rfl Try.underlying66 ti3 rfl rfl (by decide) ?_)
    try simp only [go_sem]
    repeat ((first | refine aOps_nil ?_ | refine aOps_a rfl rfl rfl ?_); try simp only [go_sem])
    refine aOps_s rfl rfl (QK.rat rfl Try.underlying27 ti76 rfl rfl (by first | rfl | (simp only [go_sem]; done) | (simp []; done) | (simp []; omega) | omega) rfl h2 ?_)
    try simp only [go_sem]
    refine aOps_s rfl rfl (QK.loadRat (off := 0) rfl rfl rfl (by first | rfl | (simp only [go_sem]; done) | (simp []; done) | (simp []; omega) | omega) (by simp) (encU_get hqy) (by kernel_rfl) rfl ?_)
    try simp only [go_sem]
    refine aOps_s rfl rfl (QK.ibat (i := 0) rfl Try.underlying66 ti3 rfl rfl (by decide) ?_)
    try simp only [go_sem]
    ((first | refine aOps_nil ?_ | refine aOps_a rfl rfl rfl ?_); try simp only [go_sem])
    ((first | refine aOps_nil ?_ | refine aOps_a rfl rfl rfl ?_); try simp only [go_sem])
    simp only [wu q.1 (by omega)]
    ((first | refine aOps_nil ?_ | refine aOps_a rfl rfl rfl ?_); try simp only [go_sem])
    simp only [Int.toNat_natCast, shl1 q.1 (by omega)]
    repeat ((first | refine aOps_nil ?_ | refine aOps_a rfl rfl rfl ?_); try simp only [go_sem])
    refine aOps_s rfl rfl (QK.rat rfl Try.underlying27 ti76 rfl rfl (by first | rfl | (simp only [go_sem]; done) | (simp []; done) | (simp []; omega) | omega) rfl h2 ?_)
    try simp only [go_sem]
    refine aOps_n rfl (aOp.put rfl rfl rfl (by first | rfl | (simp only [go_sem]; done) | (simp []; done) | (simp []; omega) | omega) (Nat.mul_one _).symm h2 rfl rfl rfl ti76 ?_)
    try simp only [go_sem]
    repeat ((first | refine aOps_nil ?_ | refine aOps_a rfl rfl rfl ?_); try simp only [go_sem])
    rw [encU_set, ← hres]
    (apply hKx8; (try clear hKx8 Kx8); try simp only [go_sem])
    refine WpA.cut 1 (by decide) (by first | rfl | simp only [go_sem]) ?_
    try simp only [go_sem]
    refine WpA.reg fun all hall => ?_
    repeat ((first | refine aOps_nil ?_ | refine aOps_a rfl rfl rfl ?_); try simp only [go_sem])
    repeat ((first | refine aOps_nil ?_ | refine aOps_a rfl rfl rfl ?_); try simp only [go_sem])
    rw [wi1 i (by omega)]
    exact ⟨i + 1, ⟨hi, by omega⟩, (by ((try simp only [tpl, List.foldl_cons, List.foldl_nil, List.replicate, List.set_cons_zero, List.set_cons_succ]); repeat (first | exact trivial | refine ⟨.inr rfl, ?_⟩ | refine ⟨.inl rfl, ?_⟩))), (by rw [hres])⟩
  · skip
    (refine WpA.exit ?_; try simp only [go_sem])
    (apply hKx4; (try clear hKx4 Kx4); try simp only [go_sem])
    refine WpA.seq fun Kx10 hKx10 => ?_
    refine WpA.reg fun all hall => ?_
    repeat ((first | refine aOps_nil ?_ | refine aOps_a rfl rfl rfl ?_); try simp only [go_sem])
    repeat ((first | refine aOps_nil ?_ | refine aOps_a rfl rfl rfl ?_); try simp only [go_sem])
    (apply hKx10; (try clear hKx10 Kx10); try simp only [go_sem])
    (refine WpA.ret ?_; try simp only [go_sem])
    have h1 : i = (pairsR (cleanR a)).length := by omega
    subst h1
    rw [show invR a = invTo (cleanR a).length ((pairsR (cleanR a)).take (pairsR (cleanR a)).length) from by rw [List.take_of_length_le (Nat.le_refl _)]; rfl]
    exact RetQ.row rfl (by first | rfl | (simp only [go_sem]; done) | (simp [invTo_len]; done) | (simp [invTo_len]; omega) | omega) rfl
end Go.Proofs.Ytfpbdphdahfgbaa
