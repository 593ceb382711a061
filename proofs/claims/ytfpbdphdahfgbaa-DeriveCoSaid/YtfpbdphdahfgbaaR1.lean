/- Relations: the program's functions on them yield what is said here. -/
import Derived.Test.YtfpbdphdahfgbaaTy
namespace Go.Proofs.Ytfpbdphdahfgbaa
open Go Go.RowKit Go.Proofs.Ytfpbdphdahfgbaa.Fw

def allR (n : Nat) : BitVec 32 := BitVec.ofNat 32 (2 ^ n - 1)
def cleanR (l : List (BitVec 32)) : List (BitVec 32) := if 32 < l.length then [] else l.map fun x => x &&& allR l.length
def newR (n : Nat) : List (BitVec 32) := if 32 < n then [] else List.replicate n 0#32
def inR (n : Nat) (i k : Int) : Bool := decide (0 ≤ i) && decide (i < n) && (decide (0 ≤ k) && decide (k < n))
def putR (l : List (BitVec 32)) (i k : Int) : List (BitVec 32) :=
  if inR (cleanR l).length i k then (cleanR l).set i.toNat ((cleanR l).getD i.toNat 0#32 ||| 1#32 <<< k.toNat) else cleanR l
def hasR (l : List (BitVec 32)) (i k : Int) : Bool := decide (l.length ≤ 32) && inR l.length i k && bit (l.getD i.toNat 0#32) k.toNat
def bothR (f : BitVec 32 → BitVec 32 → BitVec 32) (a b : List (BitVec 32)) : List (BitVec 32) := if (cleanR a).length = (cleanR b).length then List.zipWith f (cleanR a) (cleanR b) else []

theorem cleanR_len (l : List (BitVec 32)) : (cleanR l).length ≤ 32 := by unfold cleanR; split <;> simp <;> omega

theorem all_w (n : Nat) (h : n ≤ 32) : IntKind.u32.wrap (IntKind.u64.wrap (IntKind.u64.wrap (1 * 2 ^ min n 64) - 1)) = (allR n).toNat := by
  have : ∀ n : Fin 33, IntKind.u32.wrap (IntKind.u64.wrap (IntKind.u64.wrap (1 * 2 ^ min n.val 64) - 1)) = (BitVec.ofNat 32 (2 ^ n.val - 1)).toNat := by decide
  exact this ⟨n, by omega⟩

def cleanK (l : List (BitVec 32)) (k : Nat) : List (BitVec 32) := (l.take k).map (fun x => x &&& allR l.length) ++ List.replicate (l.length - k) 0#32
theorem cleanK_len (l : List (BitVec 32)) (k : Nat) (hk : k ≤ l.length) : (cleanK l k).length = l.length := by simp [cleanK]; omega
theorem cleanK_step (l : List (BitVec 32)) (k : Nat) (hk : k < l.length) : (encU (cleanK l k)).set k [.val (.int .u32 (l[k] &&& allR l.length).toNat)] = encU (cleanK l (k + 1)) := by
  have h1 : [PV.val (.int .u32 (l[k] &&& allR l.length).toNat)] = eU (l[k] &&& allR l.length) := rfl
  rw [h1, encU, encU, ← List.map_set]
  congr 1
  apply List.ext_getElem?
  intro i
  simp only [cleanK, List.getElem?_set, List.getElem?_append, List.length_append, List.length_map, List.length_take, List.length_replicate, List.getElem?_map, List.getElem?_take, List.getElem?_replicate]
  by_cases hi : k = i
  · subst hi
    simp only [show min k l.length = k by omega, show min (k + 1) l.length = k + 1 by omega]
    simp [hk]; omega
  · simp only [hi, if_false, show min k l.length = k by omega, show min (k + 1) l.length = k + 1 by omega]
    by_cases h1 : i < k
    · simp [h1, show i < k + 1 by omega]
    · simp [h1, show ¬ i < k + 1 by omega]
      congr 1
      simp; omega

set_option maxHeartbeats 4000000 in
theorem all_calls (n : Nat) (h : n ≤ 32) : PCalls Try.prog 80 [iv n] (.val (uv (allR n).toNat)) := by
  refine PCalls.of_body Try.func80 rfl rfl Try.ntmps80 Try.results80 ?_
  simp only [go_sem, List.replicate]
  refine WpA.seq fun Kx1 hKx1 => ?_
  refine WpA.reg fun all hall => ?_
  repeat ((first | refine aOps_nil ?_ | refine aOps_a rfl rfl rfl ?_); try simp only [go_sem])
  repeat ((first | refine aOps_nil ?_ | refine aOps_a rfl rfl rfl ?_); try simp only [go_sem])
  (apply hKx1; (try clear hKx1 Kx1); try simp only [go_sem])
  refine WpA.seq fun Kx2 hKx2 => ?_
  refine WpA.reg fun all hall => ?_
  ((first | refine aOps_nil ?_ | refine aOps_a rfl rfl rfl ?_); try simp only [go_sem])
  ((first | refine aOps_nil ?_ | refine aOps_a rfl rfl rfl ?_); try simp only [go_sem])
  simp only [wu n (by omega)]
  repeat ((first | refine aOps_nil ?_ | refine aOps_a rfl rfl rfl ?_); try simp only [go_sem])
  repeat ((first | refine aOps_nil ?_ | refine aOps_a rfl rfl rfl ?_); try simp only [go_sem])
  try simp only [go_sem]
  rw [all_w n h]
  (apply hKx2; (try clear hKx2 Kx2); try simp only [go_sem])
  (refine WpA.ret ?_; try simp only [go_sem])
  exact RetQ.val (.pv _)

set_option maxHeartbeats 4000000 in
theorem clean_calls (l : List (BitVec 32)) : PCalls Try.prog 49 [.bor (encU l)] (.row 76 1 (encU (cleanR l))) := by
  refine PCalls.of_body Try.func49 rfl rfl Try.ntmps49 Try.results49 ?_
  simp only [go_sem, List.replicate]
  refine WpA.seq fun Kx1 hKx1 => ?_
  refine WpA.reg fun all hall => ?_
  repeat ((first | refine aOps_nil ?_ | refine aOps_a rfl rfl rfl ?_); try simp only [go_sem])
  repeat ((first | refine aOps_nil ?_ | refine aOps_a rfl rfl rfl ?_); try simp only [go_sem])
  (apply hKx1; (try clear hKx1 Kx1); try simp only [go_sem])
  refine WpA.seq fun Kx2 hKx2 => ?_
  refine WpA.seq fun Kx3 hKx3 => ?_
  refine WpA.reg fun all hall => ?_
  repeat ((first | refine aOps_nil ?_ | refine aOps_a rfl rfl rfl ?_); try simp only [go_sem])
  repeat ((first | refine aOps_nil ?_ | refine aOps_a rfl rfl rfl ?_); try simp only [go_sem])
  (apply hKx3; (try clear hKx3 Kx3); try simp only [go_sem])
  (refine WpA.cond rfl (fun hb7 => ?_) (fun hb7 => ?_) <;> try simp only [decide_eq_true_eq, decide_eq_false_iff_not, Bool.not_eq_true', Bool.not_eq_false'] at hb7)
  · skip
    refine WpA.seq fun Kx4 hKx4 => ?_
    refine WpA.reg fun all hall => ?_
    refine aOps_s rfl rfl (QK.litRow rfl Try.underlying27 ti76 rfl rfl ?_)
    try simp only [go_sem]
    repeat ((first | refine aOps_nil ?_ | refine aOps_a rfl rfl rfl ?_); try simp only [go_sem])
    repeat ((first | refine aOps_nil ?_ | refine aOps_a rfl rfl rfl ?_); try simp only [go_sem])
    (apply hKx4; (try clear hKx4 Kx4); try simp only [go_sem])
    (refine WpA.ret ?_; try simp only [go_sem])
    rw [show cleanR l = [] from if_pos (by omega)]
    exact RetQ.row rfl rfl rfl
  · skip
    (refine WpA.skip ?_; try simp only [go_sem])
    (apply hKx2; (try clear hKx2 Kx2); try simp only [go_sem])
    refine WpA.seq fun Kx5 hKx5 => ?_
    refine WpA.reg fun all hall => ?_
    ((first | refine aOps_nil ?_ | refine aOps_a rfl rfl rfl ?_); try simp only [go_sem])
    ((first | refine aOps_nil ?_ | refine aOps_a rfl rfl rfl ?_); try simp only [go_sem])
    ((first | refine aOps_nil ?_ | refine aOps_a rfl rfl rfl ?_); try simp only [go_sem])
    refine ⟨by omega, by omega, ?_⟩
    repeat ((first | refine aOps_nil ?_ | refine aOps_a rfl rfl rfl ?_); try simp only [go_sem])
    repeat ((first | refine aOps_nil ?_ | refine aOps_a rfl rfl rfl ?_); try simp only [go_sem])
    (apply hKx5; (try clear hKx5 Kx5); try simp only [go_sem])
    refine WpA.seq fun Kx6 hKx6 => ?_
    refine WpA.seq fun Kx7 hKx7 => ?_
    refine WpA.reg fun all hall => ?_
    repeat ((first | refine aOps_nil ?_ | refine aOps_a rfl rfl rfl ?_); try simp only [go_sem])
    repeat ((first | refine aOps_nil ?_ | refine aOps_a rfl rfl rfl ?_); try simp only [go_sem])
    (apply hKx7; (try clear hKx7 Kx7); try simp only [go_sem])
    refine WpA.block ?_
    refine WpA.iter (fun (k : Nat) => k ≤ l.length) (fun (k : Nat) => tpl 30 [(0, .bor (encU l)), (3, .row 0 l.length), (13, iv l.length), (14, iv k)]) (fun (k : Nat) => [.row false 76 1 (encU (cleanK l k))]) (fun (k : Nat) => l.length - k) 0 (by omega) (by ((try simp only [tpl, List.foldl_cons, List.foldl_nil, List.replicate, List.set_cons_zero, List.set_cons_succ]); repeat (first | exact trivial | refine ⟨.inr rfl, ?_⟩ | refine ⟨.inl rfl, ?_⟩))) (by simp [cleanK, encU, eU]) ?_
    rintro k hp0
    simp only [tpl, List.foldl_cons, List.foldl_nil, List.replicate, List.set_cons_zero, List.set_cons_succ]
    refine WpA.seq fun Kx8 hKx8 => ?_
    refine WpA.reg fun all hall => ?_
    repeat ((first | refine aOps_nil ?_ | refine aOps_a rfl rfl rfl ?_); try simp only [go_sem])
    repeat ((first | refine aOps_nil ?_ | refine aOps_a rfl rfl rfl ?_); try simp only [go_sem])
    (apply hKx8; (try clear hKx8 Kx8); try simp only [go_sem])
    refine WpA.seq fun Kx9 hKx9 => ?_
    (refine WpA.cond rfl (fun hb15 => ?_) (fun hb15 => ?_) <;> try simp only [decide_eq_true_eq, decide_eq_false_iff_not, Bool.not_eq_true', Bool.not_eq_false'] at hb15)
    · skip
      have hk : k < l.length := by omega
      (refine WpA.skip ?_; try simp only [go_sem])
      (apply hKx9; (try clear hKx9 Kx9); try simp only [go_sem])
      refine WpA.seq fun Kx10 hKx10 => ?_
      refine WpA.block ?_
      refine WpA.seq fun Kx11 hKx11 => ?_
      refine WpA.reg fun all hall => ?_
      repeat ((first | refine aOps_nil ?_ | refine aOps_a rfl rfl rfl ?_); try simp only [go_sem])
      repeat ((first | refine aOps_nil ?_ | refine aOps_a rfl rfl rfl ?_); try simp only [go_sem])
      (apply hKx11; (try clear hKx11 Kx11); try simp only [go_sem])
      refine WpA.regD (0 + 1 + 1 + 1 + 1 + 1 + 1 + 1 + 1 + 1 + 1) mixed (by kernel_rfl) fun all hall => ?_
      repeat ((first | refine aOps_nil ?_ | refine aOps_a rfl rfl rfl ?_); try simp only [go_sem])
      refine aOps_s rfl rfl (QK.at rfl Try.underlying27 ti76 rfl (by first | exact .inl rfl | exact .inr (.inl rfl) | exact .inr (.inr rfl)) rfl (encU_get hk) rfl ?_)
      try simp only [go_sem]
      repeat ((first | refine aOps_nil ?_ | refine aOps_a rfl rfl rfl ?_); try simp only [go_sem])
      refine aOps_s rfl rfl (QK.call rfl rfl rfl (all_calls l.length (by omega)) (by repeat' (first | exact ConvL.nil | refine ConvL.cons ?_ ?_ | first | exact Conv.pv _ | exact Conv.imm_bor _ | exact Conv.bor _ | exact Conv.tight_imm _ | exact Conv.tight_bor _ | exact Conv.nil_imm | exact Conv.nil_bor | exact Conv.tight _ | exact Conv.at _ | exact Conv.row _ _ _ _ _ _ rfl (by first | rfl | (simp only [go_sem]; done) | (simp []; done) | (simp []; omega) | omega) | exact Conv.bat _ _ _ _ _ rfl rfl | exact Conv.aggp _ _ rfl | refine Conv.fnL _ ?_ | exact Conv.any _)) ?_)
      try simp only [go_sem]
      repeat ((first | refine aOps_nil ?_ | refine aOps_a rfl rfl rfl ?_); try simp only [go_sem])
      refine aOps_s rfl rfl (QK.rat rfl Try.underlying27 ti76 rfl rfl (by first | rfl | (simp only [go_sem]; done) | (simp [cleanK_len l k (by omega)]; done) | (simp [cleanK_len l k (by omega)]; omega) | omega) rfl hk ?_)
      try simp only [go_sem]
      refine aOps_n rfl (aOp.put rfl rfl rfl (by first | rfl | (simp only [go_sem]; done) | (simp [cleanK_len l k (by omega)]; done) | (simp [cleanK_len l k (by omega)]; omega) | omega) (Nat.mul_one _).symm hk rfl rfl rfl ti76 ?_)
      try simp only [go_sem]
      repeat ((first | refine aOps_nil ?_ | refine aOps_a rfl rfl rfl ?_); try simp only [go_sem])
      (apply hKx10; (try clear hKx10 Kx10); try simp only [go_sem])
      refine WpA.reg fun all hall => ?_
      repeat ((first | refine aOps_nil ?_ | refine aOps_a rfl rfl rfl ?_); try simp only [go_sem])
      repeat ((first | refine aOps_nil ?_ | refine aOps_a rfl rfl rfl ?_); try simp only [go_sem])
      rw [wi1 k (by omega)]
      exact ⟨k + 1, ⟨hk, by omega⟩, (by ((try simp only [tpl, List.foldl_cons, List.foldl_nil, List.replicate, List.set_cons_zero, List.set_cons_succ]); repeat (first | exact trivial | refine ⟨.inr rfl, ?_⟩ | refine ⟨.inl rfl, ?_⟩))), (by congr 2; exact cleanK_step l k hk)⟩
    · skip
      (refine WpA.exit ?_; try simp only [go_sem])
      (apply hKx6; (try clear hKx6 Kx6); try simp only [go_sem])
      refine WpA.seq fun Kx12 hKx12 => ?_
      refine WpA.reg fun all hall => ?_
      repeat ((first | refine aOps_nil ?_ | refine aOps_a rfl rfl rfl ?_); try simp only [go_sem])
      repeat ((first | refine aOps_nil ?_ | refine aOps_a rfl rfl rfl ?_); try simp only [go_sem])
      (apply hKx12; (try clear hKx12 Kx12); try simp only [go_sem])
      (refine WpA.ret ?_; try simp only [go_sem])
      have : k = l.length := by omega
      subst this
      rw [show cleanR l = cleanK l l.length from by rw [cleanR, if_neg (by omega)]; simp [cleanK]]
      exact RetQ.row rfl (by first | rfl | (simp only [go_sem]; done) | (simp [cleanK_len]; done) | (simp [cleanK_len]; omega) | omega) rfl

theorem clean_imm (l : List (BitVec 32)) : PCalls Try.prog 49 [.bor (encU l)] (.val (.pv (.imm (encU (cleanR l))))) := (clean_calls l).imm

set_option maxHeartbeats 4000000 in
theorem in_calls (l : List (BitVec 32)) (i k : Int) : PCalls Try.prog 60 [.bor (encU l), iv i, iv k] (.val (bv (inR l.length i k))) := by
  refine PCalls.of_body Try.func60 rfl rfl Try.ntmps60 Try.results60 ?_
  simp only [go_sem, List.replicate]
  refine WpA.seq fun Kx1 hKx1 => ?_
  refine WpA.reg fun all hall => ?_
  repeat ((first | refine aOps_nil ?_ | refine aOps_a rfl rfl rfl ?_); try simp only [go_sem])
  repeat ((first | refine aOps_nil ?_ | refine aOps_a rfl rfl rfl ?_); try simp only [go_sem])
  (apply hKx1; (try clear hKx1 Kx1); try simp only [go_sem])
  refine WpA.seq fun Kx2 hKx2 => ?_
  refine WpA.reg fun all hall => ?_
  repeat ((first | refine aOps_nil ?_ | refine aOps_a rfl rfl rfl ?_); try simp only [go_sem])
  refine aOps_split (d := 9) rfl (fun hg1_2 => ?_) (fun hg1_2 => ?_) <;> (try simp only [decide_eq_true_eq, decide_eq_false_iff_not] at hg1_2) <;> try simp only [go_sem]
  · skip
    (refine aOps_ya rfl rfl rfl (by rw [hall]; rfl) rfl ?_; try simp only [go_sem])
    (refine aOps_ya rfl rfl rfl (by rw [hall]; rfl) rfl ?_; try simp only [go_sem])
    (refine aOps_ya rfl rfl rfl (by rw [hall]; rfl) rfl ?_; try simp only [go_sem])
    (refine aOps_ya rfl rfl rfl (by rw [hall]; rfl) rfl ?_; try simp only [go_sem])
    repeat ((first | refine aOps_nil ?_ | refine aOps_a rfl rfl rfl ?_); try simp only [go_sem])
    refine aOps_split (d := 15) rfl (fun hg1_8 => ?_) (fun hg1_8 => ?_) <;> (try simp only [decide_eq_true_eq, decide_eq_false_iff_not] at hg1_8) <;> try simp only [go_sem]
    · skip
      (refine aOps_ya rfl rfl rfl (by rw [hall]; rfl) rfl ?_; try simp only [go_sem])
      (refine aOps_ya rfl rfl rfl (by rw [hall]; rfl) rfl ?_; try simp only [go_sem])
      repeat ((first | refine aOps_nil ?_ | refine aOps_a rfl rfl rfl ?_); try simp only [go_sem])
      refine aOps_split (d := 19) rfl (fun hg1_12 => ?_) (fun hg1_12 => ?_) <;> (try simp only [decide_eq_true_eq, decide_eq_false_iff_not] at hg1_12) <;> try simp only [go_sem]
      · skip
        (refine aOps_ya rfl rfl rfl (by rw [hall]; rfl) rfl ?_; try simp only [go_sem])
        (refine aOps_ya rfl rfl rfl (by rw [hall]; rfl) rfl ?_; try simp only [go_sem])
        (refine aOps_ya rfl rfl rfl (by rw [hall]; rfl) rfl ?_; try simp only [go_sem])
        (refine aOps_ya rfl rfl rfl (by rw [hall]; rfl) rfl ?_; try simp only [go_sem])
        repeat ((first | refine aOps_nil ?_ | refine aOps_a rfl rfl rfl ?_); try simp only [go_sem])
        repeat ((first | refine aOps_nil ?_ | refine aOps_a rfl rfl rfl ?_); try simp only [go_sem])
        (apply hKx2; (try clear hKx2 Kx2); try simp only [go_sem])
        (refine WpA.ret ?_; try simp only [go_sem])
        exact ret_b rfl (by simp [inR, *])
      · skip
        (refine aOps_z rfl (by rw [hall]; rfl) rfl ?_; try simp only [go_sem])
        (refine aOps_z rfl (by rw [hall]; rfl) rfl ?_; try simp only [go_sem])
        (refine aOps_z rfl (by rw [hall]; rfl) rfl ?_; try simp only [go_sem])
        (refine aOps_z rfl (by rw [hall]; rfl) rfl ?_; try simp only [go_sem])
        repeat ((first | refine aOps_nil ?_ | refine aOps_a rfl rfl rfl ?_); try simp only [go_sem])
        repeat ((first | refine aOps_nil ?_ | refine aOps_a rfl rfl rfl ?_); try simp only [go_sem])
        (apply hKx2; (try clear hKx2 Kx2); try simp only [go_sem])
        (refine WpA.ret ?_; try simp only [go_sem])
        exact ret_b rfl (by simp [inR, *])
    · skip
      (refine aOps_z rfl (by rw [hall]; rfl) rfl ?_; try simp only [go_sem])
      (refine aOps_z rfl (by rw [hall]; rfl) rfl ?_; try simp only [go_sem])
      repeat ((first | refine aOps_nil ?_ | refine aOps_a rfl rfl rfl ?_); try simp only [go_sem])
      (refine aOps_z rfl (by rw [hall]; rfl) rfl ?_; try simp only [go_sem])
      (refine aOps_z rfl (by rw [hall]; rfl) rfl ?_; try simp only [go_sem])
      (refine aOps_z rfl (by rw [hall]; rfl) rfl ?_; try simp only [go_sem])
      (refine aOps_z rfl (by rw [hall]; rfl) rfl ?_; try simp only [go_sem])
      repeat ((first | refine aOps_nil ?_ | refine aOps_a rfl rfl rfl ?_); try simp only [go_sem])
      repeat ((first | refine aOps_nil ?_ | refine aOps_a rfl rfl rfl ?_); try simp only [go_sem])
      (apply hKx2; (try clear hKx2 Kx2); try simp only [go_sem])
      (refine WpA.ret ?_; try simp only [go_sem])
      exact ret_b rfl (by simp [inR, *])
  · skip
    (refine aOps_z rfl (by rw [hall]; rfl) rfl ?_; try simp only [go_sem])
    (refine aOps_z rfl (by rw [hall]; rfl) rfl ?_; try simp only [go_sem])
    (refine aOps_z rfl (by rw [hall]; rfl) rfl ?_; try simp only [go_sem])
    (refine aOps_z rfl (by rw [hall]; rfl) rfl ?_; try simp only [go_sem])
    repeat ((first | refine aOps_nil ?_ | refine aOps_a rfl rfl rfl ?_); try simp only [go_sem])
    (refine aOps_z rfl (by rw [hall]; rfl) rfl ?_; try simp only [go_sem])
    (refine aOps_z rfl (by rw [hall]; rfl) rfl ?_; try simp only [go_sem])
    repeat ((first | refine aOps_nil ?_ | refine aOps_a rfl rfl rfl ?_); try simp only [go_sem])
    (refine aOps_z rfl (by rw [hall]; rfl) rfl ?_; try simp only [go_sem])
    (refine aOps_z rfl (by rw [hall]; rfl) rfl ?_; try simp only [go_sem])
    (refine aOps_z rfl (by rw [hall]; rfl) rfl ?_; try simp only [go_sem])
    (refine aOps_z rfl (by rw [hall]; rfl) rfl ?_; try simp only [go_sem])
    repeat ((first | refine aOps_nil ?_ | refine aOps_a rfl rfl rfl ?_); try simp only [go_sem])
    repeat ((first | refine aOps_nil ?_ | refine aOps_a rfl rfl rfl ?_); try simp only [go_sem])
    (apply hKx2; (try clear hKx2 Kx2); try simp only [go_sem])
    (refine WpA.ret ?_; try simp only [go_sem])
    exact ret_b rfl (by simp [inR, *])

set_option maxHeartbeats 4000000 in
theorem new_calls (n : Nat) (hn : n < 9223372036854775808) : PCalls Try.prog 44 [iv n] (.row 76 1 (encU (newR n))) := by
  refine PCalls.of_body Try.func44 rfl rfl Try.ntmps44 Try.results44 ?_
  simp only [go_sem, List.replicate]
  refine WpA.seq fun Kx1 hKx1 => ?_
  refine WpA.reg fun all hall => ?_
  repeat ((first | refine aOps_nil ?_ | refine aOps_a rfl rfl rfl ?_); try simp only [go_sem])
  repeat ((first | refine aOps_nil ?_ | refine aOps_a rfl rfl rfl ?_); try simp only [go_sem])
  (apply hKx1; (try clear hKx1 Kx1); try simp only [go_sem])
  refine WpA.seq fun Kx2 hKx2 => ?_
  refine WpA.seq fun Kx3 hKx3 => ?_
  refine WpA.reg fun all hall => ?_
  repeat ((first | refine aOps_nil ?_ | refine aOps_a rfl rfl rfl ?_); try simp only [go_sem])
  refine aOps_split (d := 5) rfl (fun hg1_2 => ?_) (fun hg1_2 => ?_) <;> (try simp only [decide_eq_true_eq, decide_eq_false_iff_not] at hg1_2) <;> try simp only [go_sem]
  · skip
    omega
  · skip
    (refine aOps_ya rfl rfl rfl (by rw [hall]; rfl) rfl ?_; try simp only [go_sem])
    (refine aOps_ya rfl rfl rfl (by rw [hall]; rfl) rfl ?_; try simp only [go_sem])
    repeat ((first | refine aOps_nil ?_ | refine aOps_a rfl rfl rfl ?_); try simp only [go_sem])
    repeat ((first | refine aOps_nil ?_ | refine aOps_a rfl rfl rfl ?_); try simp only [go_sem])
    (apply hKx3; (try clear hKx3 Kx3); try simp only [go_sem])
    (refine WpA.cond rfl (fun hb8 => ?_) (fun hb8 => ?_) <;> try simp only [decide_eq_true_eq, decide_eq_false_iff_not, Bool.not_eq_true', Bool.not_eq_false'] at hb8)
    · skip
      have hn : 32 < (n : Int) := hb8
      refine WpA.seq fun Kx4 hKx4 => ?_
      refine WpA.reg fun all hall => ?_
      refine aOps_s rfl rfl (QK.litRow rfl Try.underlying27 ti76 rfl rfl ?_)
      try simp only [go_sem]
      repeat ((first | refine aOps_nil ?_ | refine aOps_a rfl rfl rfl ?_); try simp only [go_sem])
      repeat ((first | refine aOps_nil ?_ | refine aOps_a rfl rfl rfl ?_); try simp only [go_sem])
      (apply hKx4; (try clear hKx4 Kx4); try simp only [go_sem])
      (refine WpA.ret ?_; try simp only [go_sem])
      rw [show newR n = [] from if_pos (by omega)]
      exact RetQ.row rfl rfl rfl
    · skip
      have hn : ¬ 32 < (n : Int) := hb8
      (refine WpA.skip ?_; try simp only [go_sem])
      (apply hKx2; (try clear hKx2 Kx2); try simp only [go_sem])
      refine WpA.seq fun Kx5 hKx5 => ?_
      refine WpA.reg fun all hall => ?_
      ((first | refine aOps_nil ?_ | refine aOps_a rfl rfl rfl ?_); try simp only [go_sem])
      ((first | refine aOps_nil ?_ | refine aOps_a rfl rfl rfl ?_); try simp only [go_sem])
      refine ⟨by omega, by omega, ?_⟩
      repeat ((first | refine aOps_nil ?_ | refine aOps_a rfl rfl rfl ?_); try simp only [go_sem])
      repeat ((first | refine aOps_nil ?_ | refine aOps_a rfl rfl rfl ?_); try simp only [go_sem])
      (apply hKx5; (try clear hKx5 Kx5); try simp only [go_sem])
      (refine WpA.ret ?_; try simp only [go_sem])
      rw [show newR n = List.replicate n 0#32 from if_neg (by omega)]
      exact RetQ.row rfl (by first | rfl | (simp only [go_sem]; done) | (simp [newR]; done) | (simp [newR]; omega) | omega) (by simp [encU, eU])
theorem new_imm (n : Nat) (hn : n < 9223372036854775808) : PCalls Try.prog 44 [iv n] (.val (.pv (.imm (encU (newR n))))) := (new_calls n hn).imm

theorem inR_true {n : Nat} {i k : Int} (h : inR n i k = true) : 0 ≤ i ∧ i < n ∧ 0 ≤ k ∧ k < n := by
  simp [inR] at h; omega

set_option maxHeartbeats 4000000 in
theorem put_calls (l : List (BitVec 32)) (i k : Int) : PCalls Try.prog 70 [.bor (encU l), iv i, iv k] (.row 76 1 (encU (putR l i k))) := by
  refine PCalls.of_body Try.func70 rfl rfl Try.ntmps70 Try.results70 ?_
  simp only [go_sem, List.replicate]
  have hl := cleanR_len l
  refine WpA.seq fun Kx1 hKx1 => ?_
  refine WpA.reg fun all hall => ?_
  repeat ((first | refine aOps_nil ?_ | refine aOps_a rfl rfl rfl ?_); try simp only [go_sem])
  repeat ((first | refine aOps_nil ?_ | refine aOps_a rfl rfl rfl ?_); try simp only [go_sem])
  (apply hKx1; (try clear hKx1 Kx1); try simp only [go_sem])
  refine WpA.seq fun Kx2 hKx2 => ?_
  refine WpA.reg fun all hall => ?_
  repeat ((first | refine aOps_nil ?_ | refine aOps_a rfl rfl rfl ?_); try simp only [go_sem])
  refine aOps_s rfl rfl (QK.call rfl rfl rfl (clean_calls l) (by repeat' (first | exact ConvL.nil | refine ConvL.cons ?_ ?_ | first | exact Conv.pv _ | exact Conv.imm_bor _ | exact Conv.bor _ | exact Conv.tight_imm _ | exact Conv.tight_bor _ | exact Conv.nil_imm | exact Conv.nil_bor | exact Conv.tight _ | exact Conv.at _ | exact Conv.row _ _ _ _ _ _ rfl (by first | rfl | (simp only [go_sem]; done) | (simp []; done) | (simp []; omega) | omega) | exact Conv.bat _ _ _ _ _ rfl rfl | exact Conv.aggp _ _ rfl | refine Conv.fnL _ ?_ | exact Conv.any _)) ?_)
  try simp only [go_sem]
  repeat ((first | refine aOps_nil ?_ | refine aOps_a rfl rfl rfl ?_); try simp only [go_sem])
  repeat ((first | refine aOps_nil ?_ | refine aOps_a rfl rfl rfl ?_); try simp only [go_sem])
  (apply hKx2; (try clear hKx2 Kx2); try simp only [go_sem])
  refine WpA.seq fun Kx3 hKx3 => ?_
  refine WpA.seq fun Kx4 hKx4 => ?_
  refine WpA.reg fun all hall => ?_
  repeat ((first | refine aOps_nil ?_ | refine aOps_a rfl rfl rfl ?_); try simp only [go_sem])
  refine aOps_s rfl rfl (QK.call rfl rfl rfl (in_calls (cleanR l) i k) (by repeat' (first | exact ConvL.nil | refine ConvL.cons ?_ ?_ | first | exact Conv.pv _ | exact Conv.imm_bor _ | exact Conv.bor _ | exact Conv.tight_imm _ | exact Conv.tight_bor _ | exact Conv.nil_imm | exact Conv.nil_bor | exact Conv.tight _ | exact Conv.at _ | exact Conv.row _ _ _ _ _ _ rfl (by first | rfl | (simp only [go_sem]; done) | (simp []; done) | (simp []; omega) | omega) | exact Conv.bat _ _ _ _ _ rfl rfl | exact Conv.aggp _ _ rfl | refine Conv.fnL _ ?_ | exact Conv.any _)) ?_)
  try simp only [go_sem]
  repeat ((first | refine aOps_nil ?_ | refine aOps_a rfl rfl rfl ?_); try simp only [go_sem])
  (apply hKx4; (try clear hKx4 Kx4); try simp only [go_sem])
  (refine WpA.cond rfl (fun hb13 => ?_) (fun hb13 => ?_) <;> try simp only [decide_eq_true_eq, decide_eq_false_iff_not, Bool.not_eq_true', Bool.not_eq_false'] at hb13)
  · skip
    obtain ⟨h1, h2, h3, h4⟩ := inR_true hb13
    obtain ⟨i, rfl⟩ := Int.eq_ofNat_of_zero_le h1
    obtain ⟨k, rfl⟩ := Int.eq_ofNat_of_zero_le h3
    have hi : i < (cleanR l).length := by omega
    refine WpA.reg fun all hall => ?_
    repeat ((first | refine aOps_nil ?_ | refine aOps_a rfl rfl rfl ?_); try simp only [go_sem])
    refine aOps_s rfl rfl (QK.rat rfl Try.underlying27 ti76 rfl rfl (by first | rfl | (simp only [go_sem]; done) | (simp []; done) | (simp []; omega) | omega) rfl hi ?_)
    try simp only [go_sem]
    refine aOps_s rfl rfl (QK.loadRat (off := 0) rfl rfl rfl (by first | rfl | (simp only [go_sem]; done) | (simp []; done) | (simp []; omega) | omega) (by simp) (encU_get hi) (by kernel_rfl) rfl ?_)
    try simp only [go_sem]
    ((first | refine aOps_nil ?_ | refine aOps_a rfl rfl rfl ?_); try simp only [go_sem])
    ((first | refine aOps_nil ?_ | refine aOps_a rfl rfl rfl ?_); try simp only [go_sem])
    simp only [wu k (by omega)]
    ((first | refine aOps_nil ?_ | refine aOps_a rfl rfl rfl ?_); try simp only [go_sem])
    simp only [Int.toNat_natCast, shl1 k (by omega)]
    repeat ((first | refine aOps_nil ?_ | refine aOps_a rfl rfl rfl ?_); try simp only [go_sem])
    refine aOps_s rfl rfl (QK.rat rfl Try.underlying27 ti76 rfl rfl (by first | rfl | (simp only [go_sem]; done) | (simp []; done) | (simp []; omega) | omega) rfl hi ?_)
    try simp only [go_sem]
    refine aOps_n rfl (aOp.put rfl rfl rfl (by first | rfl | (simp only [go_sem]; done) | (simp []; done) | (simp []; omega) | omega) (Nat.mul_one _).symm hi rfl rfl rfl ti76 ?_)
    try simp only [go_sem]
    repeat ((first | refine aOps_nil ?_ | refine aOps_a rfl rfl rfl ?_); try simp only [go_sem])
    (apply hKx3; (try clear hKx3 Kx3); try simp only [go_sem])
    refine WpA.seq fun Kx5 hKx5 => ?_
    refine WpA.reg fun all hall => ?_
    repeat ((first | refine aOps_nil ?_ | refine aOps_a rfl rfl rfl ?_); try simp only [go_sem])
    repeat ((first | refine aOps_nil ?_ | refine aOps_a rfl rfl rfl ?_); try simp only [go_sem])
    (apply hKx5; (try clear hKx5 Kx5); try simp only [go_sem])
    (refine WpA.ret ?_; try simp only [go_sem])
    first
      | (rw [show putR l i k = cleanR l from if_neg (by rw [hb13]; decide)]
         exact RetQ.row rfl (by first | rfl | (simp only [go_sem]; done) | (simp []; done) | (simp []; omega) | omega) rfl)
      | (rw [show putR l i k = (cleanR l).set i ((cleanR l)[i] ||| 1#32 <<< k) from by rw [putR, if_pos hb13]; simp [hi]]
         exact RetQ.row rfl (by first | rfl | (simp only [go_sem]; done) | (simp []; done) | (simp []; omega) | omega) (by simp [encU, eU, List.map_set]))
  · skip
    (refine WpA.skip ?_; try simp only [go_sem])
    (apply hKx3; (try clear hKx3 Kx3); try simp only [go_sem])
    refine WpA.seq fun Kx6 hKx6 => ?_
    refine WpA.reg fun all hall => ?_
    repeat ((first | refine aOps_nil ?_ | refine aOps_a rfl rfl rfl ?_); try simp only [go_sem])
    repeat ((first | refine aOps_nil ?_ | refine aOps_a rfl rfl rfl ?_); try simp only [go_sem])
    (apply hKx6; (try clear hKx6 Kx6); try simp only [go_sem])
    (refine WpA.ret ?_; try simp only [go_sem])
    first
      | (rw [show putR l i k = cleanR l from if_neg (by rw [hb13]; decide)]
         exact RetQ.row rfl (by first | rfl | (simp only [go_sem]; done) | (simp []; done) | (simp []; omega) | omega) rfl)
      | (rw [show putR l i k = (cleanR l).set i ((cleanR l)[i] ||| 1#32 <<< k) from by rw [putR, if_pos hb13]; simp [hi]]
         exact RetQ.row rfl (by first | rfl | (simp only [go_sem]; done) | (simp []; done) | (simp []; omega) | omega) (by simp [encU, eU, List.map_set]))
theorem put_imm (l : List (BitVec 32)) (i k : Int) : PCalls Try.prog 70 [.bor (encU l), iv i, iv k] (.val (.pv (.imm (encU (putR l i k))))) := (put_calls l i k).imm

set_option maxHeartbeats 4000000 in
theorem has_calls (l : List (BitVec 32)) (i k : Int) : PCalls Try.prog 31 [.bor (encU l), iv i, iv k] (.val (bv (hasR l i k))) := by
  refine PCalls.of_body Try.func31 rfl rfl Try.ntmps31 Try.results31 ?_
  simp only [go_sem, List.replicate]
  refine WpA.seq fun Kx1 hKx1 => ?_
  refine WpA.reg fun all hall => ?_
  repeat ((first | refine aOps_nil ?_ | refine aOps_a rfl rfl rfl ?_); try simp only [go_sem])
  repeat ((first | refine aOps_nil ?_ | refine aOps_a rfl rfl rfl ?_); try simp only [go_sem])
  (apply hKx1; (try clear hKx1 Kx1); try simp only [go_sem])
  refine WpA.seq fun Kx2 hKx2 => ?_
  refine WpA.reg fun all hall => ?_
  repeat ((first | refine aOps_nil ?_ | refine aOps_a rfl rfl rfl ?_); try simp only [go_sem])
  refine aOps_split (d := 10) rfl (fun hg1_3 => ?_) (fun hg1_3 => ?_) <;> (try simp only [decide_eq_true_eq, decide_eq_false_iff_not] at hg1_3) <;> try simp only [go_sem]
  · skip
    (refine aOps_ya rfl rfl rfl (by rw [hall]; rfl) rfl ?_; try simp only [go_sem])
    (refine aOps_ya rfl rfl rfl (by rw [hall]; rfl) rfl ?_; try simp only [go_sem])
    (refine aOps_ya rfl rfl rfl (by rw [hall]; rfl) rfl ?_; try simp only [go_sem])
    refine aOps_y rfl rfl (by rw [hall]; rfl) rfl (QK.call rfl rfl rfl (in_calls l i k) (by repeat' (first | exact ConvL.nil | refine ConvL.cons ?_ ?_ | first | exact Conv.pv _ | exact Conv.imm_bor _ | exact Conv.bor _ | exact Conv.tight_imm _ | exact Conv.tight_bor _ | exact Conv.nil_imm | exact Conv.nil_bor | exact Conv.tight _ | exact Conv.at _ | exact Conv.row _ _ _ _ _ _ rfl (by first | rfl | (simp only [go_sem]; done) | (simp []; done) | (simp []; omega) | omega) | exact Conv.bat _ _ _ _ _ rfl rfl | exact Conv.aggp _ _ rfl | refine Conv.fnL _ ?_ | exact Conv.any _)) ?_)
    try simp only [go_sem]
    repeat ((first | refine aOps_nil ?_ | refine aOps_a rfl rfl rfl ?_); try simp only [go_sem])
    refine aOps_split (d := 16) rfl (fun hg1_9 => ?_) (fun hg1_9 => ?_) <;> (try simp only [decide_eq_true_eq, decide_eq_false_iff_not] at hg1_9) <;> try simp only [go_sem]
    · skip
      obtain ⟨h1, h2, h3, h4⟩ := inR_true hg1_9
      obtain ⟨i, rfl⟩ := Int.eq_ofNat_of_zero_le h1
      obtain ⟨k, rfl⟩ := Int.eq_ofNat_of_zero_le h3
      have hi : i < l.length := by omega
      have hres : bit l[i] k = hasR l i k := by rw [hasR, hg1_9]; simp [hi]; omega
      (refine aOps_ya rfl rfl rfl (by rw [hall]; rfl) rfl ?_; try simp only [go_sem])
      (refine aOps_ya rfl rfl rfl (by rw [hall]; rfl) rfl ?_; try simp only [go_sem])
      refine aOps_y rfl rfl (by rw [hall]; rfl) rfl (QK.at rfl Try.underlying27 ti76 rfl (by first | exact .inl rfl | exact .inr (.inl rfl) | exact .inr (.inr rfl)) rfl (encU_get hi) rfl ?_)
      try simp only [go_sem]
      (refine aOps_ya rfl rfl rfl (by rw [hall]; rfl) rfl ?_; try simp only [go_sem])
      (refine aOps_ya rfl rfl rfl (by rw [hall]; rfl) rfl ?_; try simp only [go_sem])
      (refine aOps_ya rfl rfl rfl (by rw [hall]; rfl) rfl ?_; try simp only [go_sem])
      simp only [wu k (by omega)]
      (refine aOps_ya rfl rfl rfl (by rw [hall]; rfl) rfl ?_; try simp only [go_sem])
      simp only [Int.toNat_natCast, shr32 _ k (by omega)]
      (refine aOps_ya rfl rfl rfl (by rw [hall]; rfl) rfl ?_; try simp only [go_sem])
      (refine aOps_ya rfl rfl rfl (by rw [hall]; rfl) rfl ?_; try simp only [go_sem])
      repeat ((first | refine aOps_nil ?_ | refine aOps_a rfl rfl rfl ?_); try simp only [go_sem])
      repeat ((first | refine aOps_nil ?_ | refine aOps_a rfl rfl rfl ?_); try simp only [go_sem])
      (apply hKx2; (try clear hKx2 Kx2); try simp only [go_sem])
      (refine WpA.ret ?_; try simp only [go_sem])
      exact ret_b rfl hres
    · skip
      have hres : false = hasR l i k := by simp [hasR, hg1_9]
      (refine aOps_z rfl (by rw [hall]; rfl) rfl ?_; try simp only [go_sem])
      (refine aOps_z rfl (by rw [hall]; rfl) rfl ?_; try simp only [go_sem])
      (refine aOps_z rfl (by rw [hall]; rfl) rfl ?_; try simp only [go_sem])
      (refine aOps_z rfl (by rw [hall]; rfl) rfl ?_; try simp only [go_sem])
      (refine aOps_z rfl (by rw [hall]; rfl) rfl ?_; try simp only [go_sem])
      (refine aOps_z rfl (by rw [hall]; rfl) rfl ?_; try simp only [go_sem])
      (refine aOps_z rfl (by rw [hall]; rfl) rfl ?_; try simp only [go_sem])
      (refine aOps_z rfl (by rw [hall]; rfl) rfl ?_; try simp only [go_sem])
      (refine aOps_z rfl (by rw [hall]; rfl) rfl ?_; try simp only [go_sem])
      repeat ((first | refine aOps_nil ?_ | refine aOps_a rfl rfl rfl ?_); try simp only [go_sem])
      repeat ((first | refine aOps_nil ?_ | refine aOps_a rfl rfl rfl ?_); try simp only [go_sem])
      (apply hKx2; (try clear hKx2 Kx2); try simp only [go_sem])
      (refine WpA.ret ?_; try simp only [go_sem])
      exact ret_b rfl hres
  · skip
    have hres : false = hasR l i k := by simp [hasR]; omega
    (refine aOps_z rfl (by rw [hall]; rfl) rfl ?_; try simp only [go_sem])
    (refine aOps_z rfl (by rw [hall]; rfl) rfl ?_; try simp only [go_sem])
    (refine aOps_z rfl (by rw [hall]; rfl) rfl ?_; try simp only [go_sem])
    (refine aOps_z rfl (by rw [hall]; rfl) rfl ?_; try simp only [go_sem])
    repeat ((first | refine aOps_nil ?_ | refine aOps_a rfl rfl rfl ?_); try simp only [go_sem])
    (refine aOps_z rfl (by rw [hall]; rfl) rfl ?_; try simp only [go_sem])
    (refine aOps_z rfl (by rw [hall]; rfl) rfl ?_; try simp only [go_sem])
    (refine aOps_z rfl (by rw [hall]; rfl) rfl ?_; try simp only [go_sem])
    (refine aOps_z rfl (by rw [hall]; rfl) rfl ?_; try simp only [go_sem])
    (refine aOps_z rfl (by rw [hall]; rfl) rfl ?_; try simp only [go_sem])
    (refine aOps_z rfl (by rw [hall]; rfl) rfl ?_; try simp only [go_sem])
    (refine aOps_z rfl (by rw [hall]; rfl) rfl ?_; try simp only [go_sem])
    (refine aOps_z rfl (by rw [hall]; rfl) rfl ?_; try simp only [go_sem])
    (refine aOps_z rfl (by rw [hall]; rfl) rfl ?_; try simp only [go_sem])
    repeat ((first | refine aOps_nil ?_ | refine aOps_a rfl rfl rfl ?_); try simp only [go_sem])
    repeat ((first | refine aOps_nil ?_ | refine aOps_a rfl rfl rfl ?_); try simp only [go_sem])
    (apply hKx2; (try clear hKx2 Kx2); try simp only [go_sem])
    (refine WpA.ret ?_; try simp only [go_sem])
    exact ret_b rfl hres

set_option maxHeartbeats 4000000 in
theorem or1_calls (x y : BitVec 32) : PCalls Try.prog 74 [uv x.toNat, uv y.toNat] (.val (uv (x ||| y).toNat)) := by
  refine PCalls.of_body Try.func74 rfl rfl Try.ntmps74 Try.results74 ?_
  simp only [go_sem, List.replicate]
  refine WpA.seq fun Kx1 hKx1 => ?_
  refine WpA.reg fun all hall => ?_
  repeat ((first | refine aOps_nil ?_ | refine aOps_a rfl rfl rfl ?_); try simp only [go_sem])
  repeat ((first | refine aOps_nil ?_ | refine aOps_a rfl rfl rfl ?_); try simp only [go_sem])
  (apply hKx1; (try clear hKx1 Kx1); try simp only [go_sem])
  refine WpA.seq fun Kx2 hKx2 => ?_
  refine WpA.reg fun all hall => ?_
  repeat ((first | refine aOps_nil ?_ | refine aOps_a rfl rfl rfl ?_); try simp only [go_sem])
  repeat ((first | refine aOps_nil ?_ | refine aOps_a rfl rfl rfl ?_); try simp only [go_sem])
  (apply hKx2; (try clear hKx2 Kx2); try simp only [go_sem])
  (refine WpA.ret ?_; try simp only [go_sem])
  exact RetQ.val (.pv _)
set_option maxHeartbeats 4000000 in
theorem and1_calls (x y : BitVec 32) : PCalls Try.prog 66 [uv x.toNat, uv y.toNat] (.val (uv (x &&& y).toNat)) := by
  refine PCalls.of_body Try.func66 rfl rfl Try.ntmps66 Try.results66 ?_
  simp only [go_sem, List.replicate]
  refine WpA.seq fun Kx1 hKx1 => ?_
  refine WpA.reg fun all hall => ?_
  repeat ((first | refine aOps_nil ?_ | refine aOps_a rfl rfl rfl ?_); try simp only [go_sem])
  repeat ((first | refine aOps_nil ?_ | refine aOps_a rfl rfl rfl ?_); try simp only [go_sem])
  (apply hKx1; (try clear hKx1 Kx1); try simp only [go_sem])
  refine WpA.seq fun Kx2 hKx2 => ?_
  refine WpA.reg fun all hall => ?_
  repeat ((first | refine aOps_nil ?_ | refine aOps_a rfl rfl rfl ?_); try simp only [go_sem])
  repeat ((first | refine aOps_nil ?_ | refine aOps_a rfl rfl rfl ?_); try simp only [go_sem])
  (apply hKx2; (try clear hKx2 Kx2); try simp only [go_sem])
  (refine WpA.ret ?_; try simp only [go_sem])
  exact RetQ.val (.pv _)

theorem cleanR_lens (a : List (BitVec 32)) (h : a.length ≤ 32) : (cleanR a).length = a.length := by unfold cleanR; rw [if_neg (by omega)]; simp

def mixK (f : BitVec 32 → BitVec 32 → BitVec 32) (x y : List (BitVec 32)) (k : Nat) : List (BitVec 32) := List.zipWith f (x.take k) (y.take k) ++ x.drop k
theorem mixK_len (f : BitVec 32 → BitVec 32 → BitVec 32) {x y : List (BitVec 32)} (h : x.length = y.length) (k : Nat) : (mixK f x y k).length = x.length := by simp [mixK, ← h]; omega
theorem mixK_get (f : BitVec 32 → BitVec 32 → BitVec 32) {x y : List (BitVec 32)} (h : x.length = y.length) {k : Nat} (hk : k < x.length) : (mixK f x y k)[k]? = some x[k] := by
  have h1 : (List.zipWith f (x.take k) (y.take k)).length = k := by simp; omega
  rw [mixK, List.getElem?_append_right (by omega), h1]
  simp [hk]
theorem mixK_step (f : BitVec 32 → BitVec 32 → BitVec 32) {x y : List (BitVec 32)} (h : x.length = y.length) {k : Nat} (hk : k < x.length) : (mixK f x y k).set k (f x[k] (y[k]'(by omega))) = mixK f x y (k + 1) := by
  apply List.ext_getElem?
  intro i
  have h1 : ∀ j, j ≤ x.length → (List.zipWith f (x.take j) (y.take j)).length = j := fun j hj => by simp; omega
  rw [List.getElem?_set, mixK_len f h]
  by_cases hi : k = i
  · subst hi
    simp only [if_true, hk]
    rw [mixK, List.getElem?_append_left (by rw [h1 _ (by omega)]; omega), List.getElem?_zipWith]
    simp [hk, show k < y.length by omega]
  · rw [if_neg hi, mixK, mixK]
    by_cases hlt : i < k
    · rw [List.getElem?_append_left (by rw [h1 _ (by omega)]; omega), List.getElem?_append_left (by rw [h1 _ (by omega)]; omega)]
      simp only [List.getElem?_zipWith, List.getElem?_take, hlt, show i < k + 1 by omega, if_true]
    · rw [List.getElem?_append_right (by rw [h1 _ (by omega)]; omega), List.getElem?_append_right (by rw [h1 _ (by omega)]; omega), h1 _ (by omega), h1 _ (by omega)]
      simp only [List.getElem?_drop]
      congr 1
      omega

set_option maxHeartbeats 4000000 in
theorem both_calls (a b : List (BitVec 32)) (g : FuncId) (fv : AV) (caps : List AV) (f : BitVec 32 → BitVec 32 → BitVec 32) (hcv : ∀ H, Conv H fv fv) (hcc : ∀ H (x y : AV), ConvL H [x] [x] → ConvL H [y] [y] → ConvL H ([x, y] ++ caps) ([x, y] ++ caps)) (hg : ∀ (ρ : Operand → AV) (o : Operand) (xs : Array Operand), ρ o = fv → CallF ρ o xs = some (g, xs.toList.map ρ ++ caps)) (hf : ∀ x y, PCalls Try.prog g ([uv x.toNat, uv y.toNat] ++ caps) (.val (uv (f x y).toNat))) : PCalls Try.prog 65 [.bor (encU a), .bor (encU b), fv] (.row 76 1 (encU (bothR f a b))) := by
  refine PCalls.of_body Try.func65 rfl rfl Try.ntmps65 Try.results65 ?_
  simp only [go_sem, List.replicate]
  have hl := cleanR_len a
  refine WpA.seq fun Kx1 hKx1 => ?_
  refine WpA.reg fun all hall => ?_
  repeat ((first | refine aOps_nil ?_ | refine aOps_a rfl rfl rfl ?_); try simp only [go_sem])
  repeat ((first | refine aOps_nil ?_ | refine aOps_a rfl rfl rfl ?_); try simp only [go_sem])
  (apply hKx1; (try clear hKx1 Kx1); try simp only [go_sem])
  refine WpA.seq fun Kx2 hKx2 => ?_
  refine WpA.reg fun all hall => ?_
  repeat ((first | refine aOps_nil ?_ | refine aOps_a rfl rfl rfl ?_); try simp only [go_sem])
  refine aOps_s rfl rfl (QK.call rfl rfl rfl (clean_calls a) (by repeat' (first | exact ConvL.nil | refine ConvL.cons ?_ ?_ | first | exact Conv.pv _ | exact Conv.imm_bor _ | exact Conv.bor _ | exact Conv.tight_imm _ | exact Conv.tight_bor _ | exact Conv.nil_imm | exact Conv.nil_bor | exact Conv.tight _ | exact Conv.at _ | exact Conv.row _ _ _ _ _ _ rfl (by first | rfl | (simp only [go_sem]; done) | (simp []; done) | (simp []; omega) | omega) | exact Conv.bat _ _ _ _ _ rfl rfl | exact Conv.aggp _ _ rfl | refine Conv.fnL _ ?_ | exact Conv.any _)) ?_)
  try simp only [go_sem]
  repeat ((first | refine aOps_nil ?_ | refine aOps_a rfl rfl rfl ?_); try simp only [go_sem])
  refine aOps_s rfl rfl (QK.call rfl rfl rfl (clean_imm b) (by repeat' (first | exact ConvL.nil | refine ConvL.cons ?_ ?_ | first | exact Conv.pv _ | exact Conv.imm_bor _ | exact Conv.bor _ | exact Conv.tight_imm _ | exact Conv.tight_bor _ | exact Conv.nil_imm | exact Conv.nil_bor | exact Conv.tight _ | exact Conv.at _ | exact Conv.row _ _ _ _ _ _ rfl (by first | rfl | (simp only [go_sem]; done) | (simp []; done) | (simp []; omega) | omega) | exact Conv.bat _ _ _ _ _ rfl rfl | exact Conv.aggp _ _ rfl | refine Conv.fnL _ ?_ | exact Conv.any _)) ?_)
  try simp only [go_sem]
  repeat ((first | refine aOps_nil ?_ | refine aOps_a rfl rfl rfl ?_); try simp only [go_sem])
  repeat ((first | refine aOps_nil ?_ | refine aOps_a rfl rfl rfl ?_); try simp only [go_sem])
  (apply hKx2; (try clear hKx2 Kx2); try simp only [go_sem])
  refine WpA.seq fun Kx3 hKx3 => ?_
  refine WpA.seq fun Kx4 hKx4 => ?_
  refine WpA.reg fun all hall => ?_
  repeat ((first | refine aOps_nil ?_ | refine aOps_a rfl rfl rfl ?_); try simp only [go_sem])
  repeat ((first | refine aOps_nil ?_ | refine aOps_a rfl rfl rfl ?_); try simp only [go_sem])
  (apply hKx4; (try clear hKx4 Kx4); try simp only [go_sem])
  (refine WpA.cond rfl (fun hb18 => ?_) (fun hb18 => ?_) <;> try simp only [decide_eq_true_eq, decide_eq_false_iff_not, Bool.not_eq_true', Bool.not_eq_false'] at hb18)
  · skip
    refine WpA.seq fun Kx5 hKx5 => ?_
    refine WpA.reg fun all hall => ?_
    refine aOps_s rfl rfl (QK.litRow rfl Try.underlying27 ti76 rfl rfl ?_)
    try simp only [go_sem]
    repeat ((first | refine aOps_nil ?_ | refine aOps_a rfl rfl rfl ?_); try simp only [go_sem])
    repeat ((first | refine aOps_nil ?_ | refine aOps_a rfl rfl rfl ?_); try simp only [go_sem])
    (apply hKx5; (try clear hKx5 Kx5); try simp only [go_sem])
    (refine WpA.ret ?_; try simp only [go_sem])
    rw [show bothR f a b = [] from if_neg (by simp at hb18; omega)]
    exact RetQ.row rfl rfl rfl
  · skip
    have hab : (cleanR a).length = (cleanR b).length := by simp at hb18; omega
    (refine WpA.skip ?_; try simp only [go_sem])
    (apply hKx3; (try clear hKx3 Kx3); try simp only [go_sem])
    refine WpA.seq fun Kx6 hKx6 => ?_
    refine WpA.seq fun Kx7 hKx7 => ?_
    refine WpA.reg fun all hall => ?_
    repeat ((first | refine aOps_nil ?_ | refine aOps_a rfl rfl rfl ?_); try simp only [go_sem])
    repeat ((first | refine aOps_nil ?_ | refine aOps_a rfl rfl rfl ?_); try simp only [go_sem])
    (apply hKx7; (try clear hKx7 Kx7); try simp only [go_sem])
    refine WpA.block ?_
    refine WpA.iter (fun (k : Nat) => k ≤ (cleanR a).length) (fun (k : Nat) => tpl 40 [(2, fv), (7, .row 0 (cleanR a).length), (8, .pv (.imm (encU (cleanR b)))), (21, iv (cleanR a).length), (22, iv k)]) (fun (k : Nat) => [.row false 76 1 (encU (mixK f (cleanR a) (cleanR b) k))]) (fun (k : Nat) => (cleanR a).length - k) 0 (by omega) (by ((try simp only [tpl, List.foldl_cons, List.foldl_nil, List.replicate, List.set_cons_zero, List.set_cons_succ]); repeat (first | exact trivial | refine ⟨.inr rfl, ?_⟩ | refine ⟨.inl rfl, ?_⟩))) (by simp [mixK]) ?_
    rintro k hp0
    simp only [tpl, List.foldl_cons, List.foldl_nil, List.replicate, List.set_cons_zero, List.set_cons_succ]
    refine WpA.seq fun Kx8 hKx8 => ?_
    refine WpA.reg fun all hall => ?_
    repeat ((first | refine aOps_nil ?_ | refine aOps_a rfl rfl rfl ?_); try simp only [go_sem])
    repeat ((first | refine aOps_nil ?_ | refine aOps_a rfl rfl rfl ?_); try simp only [go_sem])
    (apply hKx8; (try clear hKx8 Kx8); try simp only [go_sem])
    refine WpA.seq fun Kx9 hKx9 => ?_
    (refine WpA.cond rfl (fun hb23 => ?_) (fun hb23 => ?_) <;> try simp only [decide_eq_true_eq, decide_eq_false_iff_not, Bool.not_eq_true', Bool.not_eq_false'] at hb23)
    · skip
      have hk : k < (cleanR a).length := by omega
      (refine WpA.skip ?_; try simp only [go_sem])
      (apply hKx9; (try clear hKx9 Kx9); try simp only [go_sem])
      refine WpA.seq fun Kx10 hKx10 => ?_
      refine WpA.block ?_
      refine WpA.seq fun Kx11 hKx11 => ?_
      refine WpA.reg fun all hall => ?_
      repeat ((first | refine aOps_nil ?_ | refine aOps_a rfl rfl rfl ?_); try simp only [go_sem])
      repeat ((first | refine aOps_nil ?_ | refine aOps_a rfl rfl rfl ?_); try simp only [go_sem])
      (apply hKx11; (try clear hKx11 Kx11); try simp only [go_sem])
      refine WpA.regD (0 + 1 + 1 + 1 + 1 + 1 + 1 + 1 + 1 + 1 + 1 + 1 + 1) mixed (by kernel_rfl) fun all hall => ?_
      repeat ((first | refine aOps_nil ?_ | refine aOps_a rfl rfl rfl ?_); try simp only [go_sem])
      refine aOps_s rfl rfl (QK.rat rfl Try.underlying27 ti76 rfl rfl (by first | rfl | (simp only [go_sem]; done) | (simp [mixK_len f hab]; done) | (simp [mixK_len f hab]; omega) | omega) rfl hk ?_)
      try simp only [go_sem]
      refine aOps_s rfl rfl (QK.loadRat (off := 0) rfl rfl rfl (by first | rfl | (simp only [go_sem]; done) | (simp [mixK_len f hab]; done) | (simp [mixK_len f hab]; omega) | omega) (by simp) (encU_at (mixK_get f hab hk)) (by kernel_rfl) rfl ?_)
      try simp only [go_sem]
      repeat ((first | refine aOps_nil ?_ | refine aOps_a rfl rfl rfl ?_); try simp only [go_sem])
      refine aOps_s rfl rfl (QK.at rfl Try.underlying27 ti76 rfl (by first | exact .inl rfl | exact .inr (.inl rfl) | exact .inr (.inr rfl)) rfl (encU_get (show k < (cleanR b).length by omega)) rfl ?_)
      try simp only [go_sem]
      repeat ((first | refine aOps_nil ?_ | refine aOps_a rfl rfl rfl ?_); try simp only [go_sem])
      refine aOps_s rfl rfl (QK.call rfl rfl (hg _ _ _ rfl) (hf (cleanR a)[k] ((cleanR b)[k]'(by omega))) (hcc _ _ _ (by repeat' (first | exact ConvL.nil | refine ConvL.cons ?_ ?_ | first | exact Conv.pv _ | exact Conv.imm_bor _ | exact Conv.bor _ | exact Conv.tight_imm _ | exact Conv.tight_bor _ | exact Conv.nil_imm | exact Conv.nil_bor | exact Conv.tight _ | exact Conv.at _ | exact Conv.row _ _ _ _ _ _ rfl (by first | rfl | (simp only [go_sem]; done) | (simp []; done) | (simp []; omega) | omega) | exact Conv.bat _ _ _ _ _ rfl rfl | exact Conv.aggp _ _ rfl | refine Conv.fnL _ ?_ | exact Conv.any _)) (by repeat' (first | exact ConvL.nil | refine ConvL.cons ?_ ?_ | first | exact Conv.pv _ | exact Conv.imm_bor _ | exact Conv.bor _ | exact Conv.tight_imm _ | exact Conv.tight_bor _ | exact Conv.nil_imm | exact Conv.nil_bor | exact Conv.tight _ | exact Conv.at _ | exact Conv.row _ _ _ _ _ _ rfl (by first | rfl | (simp only [go_sem]; done) | (simp []; done) | (simp []; omega) | omega) | exact Conv.bat _ _ _ _ _ rfl rfl | exact Conv.aggp _ _ rfl | refine Conv.fnL _ ?_ | exact Conv.any _))) ?_)
      try simp only [go_sem]
      refine aOps_s rfl rfl (QK.rat rfl Try.underlying27 ti76 rfl rfl (by first | rfl | (simp only [go_sem]; done) | (simp [mixK_len f hab]; done) | (simp [mixK_len f hab]; omega) | omega) rfl hk ?_)
      try simp only [go_sem]
      refine aOps_n rfl (aOp.put rfl rfl rfl (by first | rfl | (simp only [go_sem]; done) | (simp [mixK_len f hab]; done) | (simp [mixK_len f hab]; omega) | omega) (Nat.mul_one _).symm hk rfl rfl rfl ti76 ?_)
      try simp only [go_sem]
      repeat ((first | refine aOps_nil ?_ | refine aOps_a rfl rfl rfl ?_); try simp only [go_sem])
      (apply hKx10; (try clear hKx10 Kx10); try simp only [go_sem])
      refine WpA.reg fun all hall => ?_
      repeat ((first | refine aOps_nil ?_ | refine aOps_a rfl rfl rfl ?_); try simp only [go_sem])
      repeat ((first | refine aOps_nil ?_ | refine aOps_a rfl rfl rfl ?_); try simp only [go_sem])
      rw [wi1 k (by omega)]
      exact ⟨k + 1, ⟨hk, by omega⟩, (by ((try simp only [tpl, List.foldl_cons, List.foldl_nil, List.replicate, List.set_cons_zero, List.set_cons_succ]); repeat (first | exact trivial | refine ⟨.inr rfl, ?_⟩ | refine ⟨.inl rfl, ?_⟩))), (by rw [encU_set, mixK_step f hab hk])⟩
    · skip
      (refine WpA.exit ?_; try simp only [go_sem])
      (apply hKx6; (try clear hKx6 Kx6); try simp only [go_sem])
      refine WpA.seq fun Kx12 hKx12 => ?_
      refine WpA.reg fun all hall => ?_
      repeat ((first | refine aOps_nil ?_ | refine aOps_a rfl rfl rfl ?_); try simp only [go_sem])
      repeat ((first | refine aOps_nil ?_ | refine aOps_a rfl rfl rfl ?_); try simp only [go_sem])
      (apply hKx12; (try clear hKx12 Kx12); try simp only [go_sem])
      (refine WpA.ret ?_; try simp only [go_sem])
      have : k = (cleanR a).length := by omega
      subst this
      rw [show bothR f a b = mixK f (cleanR a) (cleanR b) (cleanR a).length from by rw [bothR, if_pos hab, mixK, List.take_of_length_le (Nat.le_refl _), List.take_of_length_le (by omega)]; simp]
      exact RetQ.row rfl (by first | rfl | (simp only [go_sem]; done) | (simp [mixK_len f hab]; done) | (simp [mixK_len f hab]; omega) | omega) rfl
end Go.Proofs.Ytfpbdphdahfgbaa
