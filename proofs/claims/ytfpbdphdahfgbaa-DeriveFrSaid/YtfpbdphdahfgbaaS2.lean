/- All ways to read. -/
import Derived.Test.YtfpbdphdahfgbaaS1
import Derived.Test.YtfpbdphdahfgbaaFw30
namespace Go.Proofs.Ytfpbdphdahfgbaa
open Go Go.RowKit Go.Proofs.Ytfpbdphdahfgbaa.Fw

/-- One of each list, in turn. -/
def prodC : List (List Int) → List (List Int)
  | [] => [[]]
  | l :: c => l.flatMap fun n => (prodC c).map (n :: ·)
/-- .. behind what is chosen already. -/
def extC (c : List (List Int)) (a : List Int) : List (List Int) := (prodC (c.drop a.length)).map (a ++ ·)
def extTo (c : List (List Int)) (a : List Int) (k : Nat) : List (List Int) := ((c.getD a.length []).take k).flatMap fun n => extC c (a ++ [n])
def manyC (c : List (List Int)) : Nat := (c.map List.length).foldl (· * ·) 1
theorem prodC_len : ∀ c : List (List Int), ∀ m, (c.map List.length).foldl (· * ·) m = m * (prodC c).length
  | [], m => by simp [prodC]
  | l :: c, m => by
    rw [List.map_cons, List.foldl_cons, prodC_len c, prodC, List.length_flatMap]
    have : (List.map (fun n => ((prodC c).map (n :: ·)).length) l).sum = l.length * (prodC c).length := by
      induction l with
      | nil => simp
      | cons x l ih => rw [List.map_cons, List.sum_cons, ih, List.length_map, List.length_cons, Nat.succ_mul]; omega
    rw [this, Nat.mul_assoc]
theorem manyC_len (c : List (List Int)) : manyC c = (prodC c).length := by rw [manyC, prodC_len, Nat.one_mul]
theorem extC_end {c : List (List Int)} {a : List Int} (h : a.length = c.length) : extC c a = [a] := by
  rw [extC, List.drop_of_length_le (by omega)]; simp [prodC]
theorem extC_step {c : List (List Int)} {a : List Int} (h : a.length < c.length) : extC c a = extTo c a (c[a.length]).length := by
  have e : c.getD a.length [] = c[a.length] := by simp [h]
  rw [extTo, e, List.take_length, extC, List.drop_eq_getElem_cons h, prodC, List.map_flatMap]
  congr 1
  funext n
  simp only [extC, List.length_append, List.length_cons, List.length_nil, Nat.zero_add, List.map_map]
  congr 1
  funext x
  simp
theorem extTo_succ {c : List (List Int)} {a : List Int} {k : Nat} (h : a.length < c.length) (hk : k < (c[a.length]).length) : extTo c a (k + 1) = extTo c a k ++ extC c (a ++ [(c[a.length])[k]]) := by
  have e : c.getD a.length [] = c[a.length] := by simp [h]
  rw [extTo, extTo, e, flatMap_take _ _ hk]
theorem extTo_le {c : List (List Int)} {a : List Int} {k : Nat} (h : a.length < c.length) (hk : k ≤ (c[a.length]).length) : (extTo c a k).length ≤ (extC c a).length := by
  rw [extC_step h]
  have e : c.getD a.length [] = c[a.length] := by simp [h]
  have : ((c[a.length]).take k).flatMap (fun n => extC c (a ++ [n])) <+: (c[a.length]).flatMap (fun n => extC c (a ++ [n])) := by
    conv => rhs; rw [← List.take_append_drop k c[a.length], List.flatMap_append]
    exact List.prefix_append _ _
  rw [extTo, extTo, e, List.take_length]
  exact this.length_le

/-- The blocks that the closure sees. -/
def hpS (x : Blk) (c out : List (List Int)) : List Blk := [x, .box 61 [.pv (.imm (encL c))], .box 61 [.row 4 out.length], .box 86 [.fn (.func 62) [.bat 1 0, .bat 2 0, .bat 3 0]], .row false 39 1 (encL out)]
attribute [go_sem] hpS Try.underlying86

set_option maxHeartbeats 4000000 in
theorem tell_step (x : Blk) (c : List (List Int)) (out : List (List Int)) (a : List Int) (hc : c.length ≤ 1000) (hal : a.length ≤ c.length) (hlen : ∀ l ∈ c, l.length ≤ 20000) (hm : out.length + (extC c a).length ≤ 20000) (ih : ∀ (out : List (List Int)) (b : List Int), b.length = a.length + 1 → b.length ≤ c.length → out.length + (extC c b).length ≤ 20000 → ACalls Try.prog 62 [.pv (.imm (encZ b)), .bat 1 0, .bat 2 0, .bat 3 0] (hpS x c out) fun v H => v = .tup [] ∧ H = hpS x c (out ++ extC c b)) : ACalls Try.prog 62 [.pv (.imm (encZ a)), .bat 1 0, .bat 2 0, .bat 3 0] (hpS x c out) ((fun v H => v = .tup [] ∧ H = hpS x c (out ++ extC c a))) := by
  refine ACalls.of_body Try.func62 rfl rfl Try.ntmps62 Try.results62 ?_
  simp only [go_sem, List.replicate]
  refine WpA.seq fun Kx1 hKx1 => ?_
  refine WpA.seq fun Kx2 hKx2 => ?_
  refine WpA.reg fun all hall => ?_
  repeat ((first | refine aOps_nil ?_ | refine aOps_a rfl rfl rfl ?_); try simp only [go_sem])
  repeat ((first | refine aOps_nil ?_ | refine aOps_a rfl rfl rfl ?_); try simp only [go_sem])
  (apply hKx2; (try clear hKx2 Kx2); try simp only [go_sem])
  (refine WpA.cond rfl (fun hb11 => ?_) (fun hb11 => ?_) <;> try simp only [decide_eq_true_eq, decide_eq_false_iff_not, Bool.not_eq_true', Bool.not_eq_false'] at hb11)
  · skip
    have h1 : a.length = c.length := by have h := hb11; simp at h; omega
    rw [extC_end h1] at hm ⊢
    refine WpA.seq fun Kx3 hKx3 => ?_
    refine WpA.reg fun all hall => ?_
    repeat ((first | refine aOps_nil ?_ | refine aOps_a rfl rfl rfl ?_); try simp only [go_sem])
    refine aOps_s rfl rfl (QK.lit rfl Try.underlying61 ti39 rfl rfl ?_)
    try simp only [go_sem]
    refine aOps_n rfl (aOp.app rfl rfl rfl (encL_len _) rfl (by simp) Try.underlying61 ti39 rfl (by simp at hm; simp; omega) ?_ (by decide))
    try simp only [go_sem]
    refine aOps_n rfl (aOp.set rfl rfl rfl rfl ?_ ti61 ?_)
    · exact ⟨rfl, (by first | rfl | (simp only [go_sem]; done) | (simp []; done) | (simp []; omega) | omega)⟩
    try simp only [go_sem]
    repeat ((first | refine aOps_nil ?_ | refine aOps_a rfl rfl rfl ?_); try simp only [go_sem])
    (apply hKx3; (try clear hKx3 Kx3); try simp only [go_sem])
    (refine WpA.ret ?_; try simp only [go_sem])
    exact ⟨rfl, by simp [encL, eL, encZ, eI]⟩
  · skip
    have h1 : a.length < c.length := by have h := hb11; simp at h; omega
    (refine WpA.skip ?_; try simp only [go_sem])
    (apply hKx1; (try clear hKx1 Kx1); try simp only [go_sem])
    refine WpA.seq fun Kx4 hKx4 => ?_
    refine WpA.reg fun all hall => ?_
    repeat ((first | refine aOps_nil ?_ | refine aOps_a rfl rfl rfl ?_); try simp only [go_sem])
    refine aOps_s rfl rfl (QK.at rfl Try.underlying61 ti39 rfl (by first | exact .inl rfl | exact .inr (.inl rfl) | exact .inr (.inr rfl)) rfl (encL_get h1) rfl ?_)
    try simp only [go_sem]
    repeat ((first | refine aOps_nil ?_ | refine aOps_a rfl rfl rfl ?_); try simp only [go_sem])
    repeat ((first | refine aOps_nil ?_ | refine aOps_a rfl rfl rfl ?_); try simp only [go_sem])
    (apply hKx4; (try clear hKx4 Kx4); try simp only [go_sem])
    refine WpA.block ?_
    refine WpA.iter (fun (k : Nat) => k ≤ (c[a.length]).length) (fun (k : Nat) => tpl 38 [(0, .pv (.imm (encZ a))), (1, .bat 1 0), (2, .bat 2 0), (3, .bat 3 0), (20, .pv (.imm (encZ c[a.length]))), (21, iv (c[a.length]).length), (22, iv k)]) (fun (k : Nat) => hpS x c (out ++ extTo c a k)) (fun (k : Nat) => (c[a.length]).length - k) 0 (by omega) (by ((try simp only [tpl, List.foldl_cons, List.foldl_nil, List.replicate, List.set_cons_zero, List.set_cons_succ]); repeat (first | exact trivial | refine ⟨.inr rfl, ?_⟩ | refine ⟨.inl rfl, ?_⟩))) (by simp [extTo, hpS]) ?_
    rintro k hp0
    simp only [tpl, List.foldl_cons, List.foldl_nil, List.replicate, List.set_cons_zero, List.set_cons_succ]
    refine WpA.seq fun Kx5 hKx5 => ?_
    refine WpA.reg fun all hall => ?_
    repeat ((first | refine aOps_nil ?_ | refine aOps_a rfl rfl rfl ?_); try simp only [go_sem])
    repeat ((first | refine aOps_nil ?_ | refine aOps_a rfl rfl rfl ?_); try simp only [go_sem])
    (apply hKx5; (try clear hKx5 Kx5); try simp only [go_sem])
    refine WpA.seq fun Kx6 hKx6 => ?_
    (refine WpA.cond rfl (fun hb23 => ?_) (fun hb23 => ?_) <;> try simp only [decide_eq_true_eq, decide_eq_false_iff_not, Bool.not_eq_true', Bool.not_eq_false'] at hb23)
    · skip
      have hk : k < (c[a.length]).length := by omega
      have hl1 := hlen _ (List.getElem_mem h1)
      have hn := extTo_succ h1 hk
      have hle := extTo_le (c := c) (a := a) (k := k + 1) h1 hk
      have hrec := ih (out ++ extTo c a k) (a ++ [(c[a.length])[k]]) (by simp) (by simp; omega) (by rw [hn] at hle; simp at hle ⊢; omega)
      rw [show encZ (a ++ [(c[a.length])[k]]) = encZ a ++ encZ [(c[a.length])[k]] from by simp [encZ]] at hrec
      simp only [hpS, List.length_append] at hrec
      (refine WpA.skip ?_; try simp only [go_sem])
      (apply hKx6; (try clear hKx6 Kx6); try simp only [go_sem])
      refine WpA.seq fun Kx7 hKx7 => ?_
      refine WpA.block ?_
      refine WpA.seq fun Kx8 hKx8 => ?_
      refine WpA.reg fun all hall => ?_
      refine aOps_s rfl rfl (QK.at rfl Try.underlying39 ti3 rfl (by first | exact .inl rfl | exact .inr (.inl rfl) | exact .inr (.inr rfl)) rfl (encZ_get hk) rfl ?_)
      try simp only [go_sem]
      repeat ((first | refine aOps_nil ?_ | refine aOps_a rfl rfl rfl ?_); try simp only [go_sem])
      repeat ((first | refine aOps_nil ?_ | refine aOps_a rfl rfl rfl ?_); try simp only [go_sem])
      (apply hKx8; (try clear hKx8 Kx8); try simp only [go_sem])
      refine WpA.regD (0 + 1 + 1 + 1 + 1 + 1 + 1 + 1 + 1 + 1 + 1) mixed (by kernel_rfl) fun all hall => ?_
      repeat ((first | refine aOps_nil ?_ | refine aOps_a rfl rfl rfl ?_); try simp only [go_sem])
      refine aOps_s rfl rfl (QK.fullImm rfl Try.underlying39 ti3 (by decide) rfl (encZ_one a) rfl (encZ_len a).symm rfl (encZ_len a).symm ?_)
      try simp only [go_sem]
      repeat ((first | refine aOps_nil ?_ | refine aOps_a rfl rfl rfl ?_); try simp only [go_sem])
      refine aOps_s rfl rfl (QK.lit rfl Try.underlying39 ti3 rfl rfl ?_)
      try simp only [go_sem]
      first | refine aOps_s rfl rfl (QK.app rfl (by first | exact .inl rfl | exact .inr ⟨rfl, rfl⟩) rfl (fun y hy => (List.mem_append.1 hy).elim (encZ_one a y) (fun h => by rw [List.mem_singleton.1 h]; rfl)) Try.underlying39 ti3 rfl (by decide) (by simp [encZ_len]; omega) (by decide) ?_) | refine aOps_n rfl (aOp.ofQapp rfl (by first | exact .inl ⟨_, rfl⟩ | exact .inr rfl) (QK.app rfl (by first | exact .inl rfl | exact .inr ⟨rfl, rfl⟩) rfl (fun y hy => (List.mem_append.1 hy).elim (encZ_one a y) (fun h => by rw [List.mem_singleton.1 h]; rfl)) Try.underlying39 ti3 rfl (by decide) (by simp [encZ_len]; omega) (by decide) ?_))
      try simp only [go_sem]
      refine aOps_n rfl (aOp.acall rfl rfl rfl (.cons (.refl _) (.cons (.refl _) (.cons (.refl _) (.cons (.refl _) .nil)))) hrec (fun v H' hv => ?_))
      try simp only [go_sem]
      obtain ⟨rfl, rfl⟩ := hv
      repeat ((first | refine aOps_nil ?_ | refine aOps_a rfl rfl rfl ?_); try simp only [go_sem])
      (apply hKx7; (try clear hKx7 Kx7); try simp only [go_sem])
      refine WpA.reg fun all hall => ?_
      repeat ((first | refine aOps_nil ?_ | refine aOps_a rfl rfl rfl ?_); try simp only [go_sem])
      repeat ((first | refine aOps_nil ?_ | refine aOps_a rfl rfl rfl ?_); try simp only [go_sem])
      rw [wi1 k (by omega)]
      exact ⟨k + 1, ⟨hk, by omega⟩, (by ((try simp only [tpl, List.foldl_cons, List.foldl_nil, List.replicate, List.set_cons_zero, List.set_cons_succ]); repeat (first | exact trivial | refine ⟨.inr rfl, ?_⟩ | refine ⟨.inl rfl, ?_⟩))), (by rw [hn]; simp [hpS, Nat.add_assoc])⟩
    · skip
      have hk : k = (c[a.length]).length := by omega
      subst hk
      rw [extC_step h1]
      (refine WpA.exit ?_; try simp only [go_sem])
      try simp only [go_sem]
      exact ⟨rfl, rfl⟩
theorem tell_calls (x : Blk) (c : List (List Int)) (hc : c.length ≤ 1000) (hlen : ∀ l ∈ c, l.length ≤ 20000) : ∀ (n : Nat) (out : List (List Int)) (a : List Int), c.length - a.length = n → a.length ≤ c.length → out.length + (extC c a).length ≤ 20000 →
    ACalls Try.prog 62 [.pv (.imm (encZ a)), .bat 1 0, .bat 2 0, .bat 3 0] (hpS x c out) fun v H => v = .tup [] ∧ H = hpS x c (out ++ extC c a)
  | 0, out, a, hn, hal, hm => tell_step x c out a hc hal hlen hm fun out b h1 h2 _ => by omega
  | n + 1, out, a, hn, hal, hm => tell_step x c out a hc hal hlen hm fun out b h1 h2 h3 => tell_calls x c hc hlen n out b (by omega) h2 h3

/-- How many ways the first lists give. -/
def preC (c : List (List Int)) (k : Nat) : Nat := ((c.take k).map List.length).foldl (· * ·) 1
def srcC (c : List (List Int)) : List (List Int) := if (List.range (c.length + 1)).any (fun k => decide (20000 < preC c k)) then [] else prodC c
def srcE (l : List Ev) (init : List Int) : List (List Int) := srcC (choE l init)
theorem preC_succ (c : List (List Int)) {k : Nat} (hk : k < c.length) : preC c (k + 1) = preC c k * c[k].length := by
  rw [preC, preC, List.take_add_one, List.getElem?_eq_getElem hk, List.map_append, List.foldl_append]; rfl
theorem preC_all (c : List (List Int)) : preC c c.length = (prodC c).length := by rw [preC, List.take_length, prodC_len, Nat.one_mul]
theorem srcC_none {c : List (List Int)} {k : Nat} (hk : k ≤ c.length) (h : 20000 < preC c k) : srcC c = [] := by
  rw [srcC, if_pos]; rw [List.any_eq_true]; exact ⟨k, by simp; omega, by simpa using h⟩
theorem srcC_some {c : List (List Int)} (h : ∀ k, k ≤ c.length → preC c k ≤ 20000) : srcC c = prodC c := by
  rw [srcC, if_neg]
  rw [List.any_eq_true]
  rintro ⟨k, hk, h1⟩
  have := h k (by simp at hk; omega)
  simp at h1
  omega
theorem mayE_len (l : List Ev) (init : List Int) (r : Nat) : (mayE l init r).length ≤ l.length + 1 := by
  have h1 := may0_len (l.getD r default) init
  have h2 := mayTo_len l (l.getD r default) l.length
  rw [mayE, List.length_append]; omega
theorem choE_mem {l : List Ev} {init : List Int} {x : List Int} (h : x ∈ choE l init) : x.length ≤ l.length + 1 := by
  simp only [choE, choTo, List.mem_map, List.mem_range] at h
  obtain ⟨r, hr, rfl⟩ := h
  split
  · exact mayE_len l init r
  · simp
theorem tiF : tinfo Try.prog 86 = some (some .nilFunc, 1, 8) := by kernel_rfl

set_option maxHeartbeats 4000000 in
theorem src_calls (l : List Ev) (s : Six) (init : List Int) (hl : l.length ≤ 1000) : PCalls Try.prog 33 [exA l s, .pv (.imm (encZ init))] (.val (.pv (.imm (encL (srcE l init))))) := by
  refine PCalls.of_body Try.func33 rfl rfl Try.ntmps33 Try.results33 ?_
  simp only [go_sem, List.replicate]
  have hcall := choices_calls l s init hl
  have hcl : (choE l init).length ≤ 1000 := by rw [choE, choTo_len]; exact hl
  have hmem : ∀ x ∈ choE l init, x.length ≤ 1001 := fun x hx => by have := choE_mem hx; omega
  rw [srcE]
  generalize choE l init = c at hcall hcl hmem ⊢
  refine WpA.seq fun Kx1 hKx1 => ?_
  refine WpA.reg fun all hall => ?_
  repeat ((first | refine aOps_nil ?_ | refine aOps_a rfl rfl rfl ?_); try simp only [go_sem])
  repeat ((first | refine aOps_nil ?_ | refine aOps_a rfl rfl rfl ?_); try simp only [go_sem])
  (apply hKx1; (try clear hKx1 Kx1); try simp only [go_sem])
  refine WpA.seq fun Kx2 hKx2 => ?_
  refine WpA.reg fun all hall => ?_
  repeat ((first | refine aOps_nil ?_ | refine aOps_a rfl rfl rfl ?_); try simp only [go_sem])
  refine aOps_s rfl rfl (QK.call rfl rfl rfl hcall (by repeat' (first | exact ConvL.nil | refine ConvL.cons ?_ ?_ | first | exact Conv.pv _ | exact Conv.imm_bor _ | exact Conv.bor _ | exact Conv.tight_imm _ | exact Conv.tight_bor _ | exact Conv.nil_imm | exact Conv.nil_bor | exact Conv.tight _ | exact Conv.at _ | exact Conv.row _ _ _ _ _ _ rfl (by first | rfl | (simp only [go_sem]; done) | (simp []; done) | (simp []; omega) | omega) | exact Conv.bat _ _ _ _ _ rfl rfl | exact Conv.aggp _ _ rfl | refine Conv.fnL _ ?_ | exact Conv.any _)) ?_)
  try simp only [go_sem]
  refine aOps_s rfl rfl (QK.alloc rfl ti61 (by kernel_rfl) rfl ?_)
  try simp only [go_sem]
  refine aOps_n rfl (aOp.set rfl rfl rfl rfl ?_ ti61 ?_)
  · exact ⟨rfl, (by first | rfl | (simp only [go_sem]; done) | (simp []; done) | (simp []; omega) | omega)⟩
  try simp only [go_sem]
  repeat ((first | refine aOps_nil ?_ | refine aOps_a rfl rfl rfl ?_); try simp only [go_sem])
  (apply hKx2; (try clear hKx2 Kx2); try simp only [go_sem])
  refine WpA.seq fun Kx3 hKx3 => ?_
  refine WpA.reg fun all hall => ?_
  repeat ((first | refine aOps_nil ?_ | refine aOps_a rfl rfl rfl ?_); try simp only [go_sem])
  repeat ((first | refine aOps_nil ?_ | refine aOps_a rfl rfl rfl ?_); try simp only [go_sem])
  (apply hKx3; (try clear hKx3 Kx3); try simp only [go_sem])
  refine WpA.seq fun Kx4 hKx4 => ?_
  refine WpA.seq fun Kx5 hKx5 => ?_
  refine WpA.reg fun all hall => ?_
  repeat ((first | refine aOps_nil ?_ | refine aOps_a rfl rfl rfl ?_); try simp only [go_sem])
  repeat ((first | refine aOps_nil ?_ | refine aOps_a rfl rfl rfl ?_); try simp only [go_sem])
  (apply hKx5; (try clear hKx5 Kx5); try simp only [go_sem])
  refine WpA.block ?_
  refine WpA.iter (fun (k : Nat) => k ≤ c.length ∧ ∀ j, j ≤ k → preC c j ≤ 20000) (fun (k : Nat) => tpl 33 [(2, .bat 0 0), (5, .bat 1 0), (6, iv (preC c k : Nat)), (14, .pv (.imm (encL c))), (15, iv c.length), (16, iv k)]) (fun (k : Nat) => [.box 30 (exC l s), .box 61 [.pv (.imm (encL c))]]) (fun (k : Nat) => c.length - k) 0 ⟨Nat.zero_le _, fun j hj => by rw [show j = 0 by omega]; simp [preC]⟩ (by ((try simp only [tpl, List.foldl_cons, List.foldl_nil, List.replicate, List.set_cons_zero, List.set_cons_succ]); repeat (first | exact trivial | refine ⟨.inr rfl, ?_⟩ | refine ⟨.inl rfl, ?_⟩))) rfl ?_
  rintro k hp0
  simp only [tpl, List.foldl_cons, List.foldl_nil, List.replicate, List.set_cons_zero, List.set_cons_succ]
  refine WpA.seq fun Kx6 hKx6 => ?_
  refine WpA.reg fun all hall => ?_
  repeat ((first | refine aOps_nil ?_ | refine aOps_a rfl rfl rfl ?_); try simp only [go_sem])
  repeat ((first | refine aOps_nil ?_ | refine aOps_a rfl rfl rfl ?_); try simp only [go_sem])
  (apply hKx6; (try clear hKx6 Kx6); try simp only [go_sem])
  refine WpA.seq fun Kx7 hKx7 => ?_
  (refine WpA.cond rfl (fun hb17 => ?_) (fun hb17 => ?_) <;> try simp only [decide_eq_true_eq, decide_eq_false_iff_not, Bool.not_eq_true', Bool.not_eq_false'] at hb17)
  · skip
    have hk : k < c.length := by omega
    have hn := preC_succ c hk
    have hb := hp0.2 k (Nat.le_refl _)
    have hm1 := hmem _ (List.getElem_mem hk)
    have hmul : preC c k * c[k].length ≤ 20000 * 1001 := Nat.mul_le_mul hb hm1
    (refine WpA.skip ?_; try simp only [go_sem])
    (apply hKx7; (try clear hKx7 Kx7); try simp only [go_sem])
    refine WpA.seq fun Kx8 hKx8 => ?_
    refine WpA.block ?_
    refine WpA.seq fun Kx9 hKx9 => ?_
    refine WpA.reg fun all hall => ?_
    refine aOps_s rfl rfl (QK.at rfl Try.underlying61 ti39 rfl (by first | exact .inl rfl | exact .inr (.inl rfl) | exact .inr (.inr rfl)) rfl (encL_get hk) rfl ?_)
    try simp only [go_sem]
    repeat ((first | refine aOps_nil ?_ | refine aOps_a rfl rfl rfl ?_); try simp only [go_sem])
    repeat ((first | refine aOps_nil ?_ | refine aOps_a rfl rfl rfl ?_); try simp only [go_sem])
    (apply hKx9; (try clear hKx9 Kx9); try simp only [go_sem])
    refine WpA.seq fun Kx10 hKx10 => ?_
    refine WpA.reg fun all hall => ?_
    ((first | refine aOps_nil ?_ | refine aOps_a rfl rfl rfl ?_); try simp only [go_sem])
    ((first | refine aOps_nil ?_ | refine aOps_a rfl rfl rfl ?_); try simp only [go_sem])
    ((first | refine aOps_nil ?_ | refine aOps_a rfl rfl rfl ?_); try simp only [go_sem])
    ((first | refine aOps_nil ?_ | refine aOps_a rfl rfl rfl ?_); try simp only [go_sem])
    rw [show ((preC c k : Nat) : Int) * (c[k].length : Int) = ((preC c k * c[k].length : Nat) : Int) from by simp, wi _ (by omega)]
    repeat ((first | refine aOps_nil ?_ | refine aOps_a rfl rfl rfl ?_); try simp only [go_sem])
    repeat ((first | refine aOps_nil ?_ | refine aOps_a rfl rfl rfl ?_); try simp only [go_sem])
    (apply hKx10; (try clear hKx10 Kx10); try simp only [go_sem])
    refine WpA.seq fun Kx11 hKx11 => ?_
    refine WpA.reg fun all hall => ?_
    repeat ((first | refine aOps_nil ?_ | refine aOps_a rfl rfl rfl ?_); try simp only [go_sem])
    repeat ((first | refine aOps_nil ?_ | refine aOps_a rfl rfl rfl ?_); try simp only [go_sem])
    (apply hKx11; (try clear hKx11 Kx11); try simp only [go_sem])
    (refine WpA.cond rfl (fun hb25 => ?_) (fun hb25 => ?_) <;> try simp only [decide_eq_true_eq, decide_eq_false_iff_not, Bool.not_eq_true', Bool.not_eq_false'] at hb25)
    · skip
      refine WpA.seq fun Kx12 hKx12 => ?_
      refine WpA.reg fun all hall => ?_
      repeat ((first | refine aOps_nil ?_ | refine aOps_a rfl rfl rfl ?_); try simp only [go_sem])
      repeat ((first | refine aOps_nil ?_ | refine aOps_a rfl rfl rfl ?_); try simp only [go_sem])
      (apply hKx12; (try clear hKx12 Kx12); try simp only [go_sem])
      (refine WpA.ret ?_; try simp only [go_sem])
      rw [srcC_none hk (show 20000 < preC c (k + 1) by omega)]
      exact RetQ.val .nil
    · skip
      (refine WpA.skip ?_; try simp only [go_sem])
      (apply hKx8; (try clear hKx8 Kx8); try simp only [go_sem])
      refine WpA.reg fun all hall => ?_
      repeat ((first | refine aOps_nil ?_ | refine aOps_a rfl rfl rfl ?_); try simp only [go_sem])
      repeat ((first | refine aOps_nil ?_ | refine aOps_a rfl rfl rfl ?_); try simp only [go_sem])
      rw [wi1 k (by omega)]
      exact ⟨k + 1, ⟨hk, fun j hj => (by rcases Nat.lt_or_ge k j with h | h; rw [show j = k + 1 by omega]; omega; exact hp0.2 j h), by omega⟩, (by rw [hn]; ((try simp only [tpl, List.foldl_cons, List.foldl_nil, List.replicate, List.set_cons_zero, List.set_cons_succ]); repeat (first | exact trivial | refine ⟨.inr rfl, ?_⟩ | refine ⟨.inl rfl, ?_⟩))), rfl⟩
  · skip
    have hk : k = c.length := by omega
    subst hk
    have hsome := srcC_some hp0.2
    have hpl := preC_all c
    have hlast := hp0.2 c.length (Nat.le_refl _)
    (refine WpA.exit ?_; try simp only [go_sem])
    (apply hKx4; (try clear hKx4 Kx4); try simp only [go_sem])
    refine WpA.seq fun Kx13 hKx13 => ?_
    refine WpA.seq fun Kx14 hKx14 => ?_
    refine WpA.reg fun all hall => ?_
    repeat ((first | refine aOps_nil ?_ | refine aOps_a rfl rfl rfl ?_); try simp only [go_sem])
    repeat ((first | refine aOps_nil ?_ | refine aOps_a rfl rfl rfl ?_); try simp only [go_sem])
    (apply hKx14; (try clear hKx14 Kx14); try simp only [go_sem])
    (refine WpA.cond rfl (fun hb28 => ?_) (fun hb28 => ?_) <;> try simp only [decide_eq_true_eq, decide_eq_false_iff_not, Bool.not_eq_true', Bool.not_eq_false'] at hb28)
    · skip
      have h0 : prodC c = [] := List.eq_nil_of_length_eq_zero (by have h := hb28; simp at h; omega)
      refine WpA.seq fun Kx15 hKx15 => ?_
      refine WpA.reg fun all hall => ?_
      repeat ((first | refine aOps_nil ?_ | refine aOps_a rfl rfl rfl ?_); try simp only [go_sem])
      repeat ((first | refine aOps_nil ?_ | refine aOps_a rfl rfl rfl ?_); try simp only [go_sem])
      (apply hKx15; (try clear hKx15 Kx15); try simp only [go_sem])
      (refine WpA.ret ?_; try simp only [go_sem])
      rw [hsome, h0]
      exact RetQ.val .nil
    · skip
      (refine WpA.skip ?_; try simp only [go_sem])
      (apply hKx13; (try clear hKx13 Kx13); try simp only [go_sem])
      refine WpA.seq fun Kx16 hKx16 => ?_
      refine WpA.reg fun all hall => ?_
      refine aOps_s rfl rfl (QK.alloc rfl ti61 (by kernel_rfl) rfl ?_)
      try simp only [go_sem]
      repeat ((first | refine aOps_nil ?_ | refine aOps_a rfl rfl rfl ?_); try simp only [go_sem])
      (apply hKx16; (try clear hKx16 Kx16); try simp only [go_sem])
      refine WpA.seq fun Kx17 hKx17 => ?_
      refine WpA.reg fun all hall => ?_
      refine aOps_s rfl rfl (QK.alloc rfl tiF (by kernel_rfl) rfl ?_)
      try simp only [go_sem]
      repeat ((first | refine aOps_nil ?_ | refine aOps_a rfl rfl rfl ?_); try simp only [go_sem])
      (apply hKx17; (try clear hKx17 Kx17); try simp only [go_sem])
      refine WpA.seq fun Kx18 hKx18 => ?_
      refine WpA.reg fun all hall => ?_
      repeat ((first | refine aOps_nil ?_ | refine aOps_a rfl rfl rfl ?_); try simp only [go_sem])
      refine aOps_n rfl (aOp.set rfl rfl rfl rfl ?_ tiF ?_)
      · exact ⟨rfl, (by first | rfl | (simp only [go_sem]; done) | (simp []; done) | (simp []; omega) | omega)⟩
      try simp only [go_sem]
      repeat ((first | refine aOps_nil ?_ | refine aOps_a rfl rfl rfl ?_); try simp only [go_sem])
      (apply hKx18; (try clear hKx18 Kx18); try simp only [go_sem])
      refine WpA.seq fun Kx19 hKx19 => ?_
      refine WpA.viewBox 2 0 39 (sz := 1) (by decide) rfl rfl ?_
      try simp only [go_sem]
      refine WpA.reg fun all hall => ?_
      repeat ((first | refine aOps_nil ?_ | refine aOps_a rfl rfl rfl ?_); try simp only [go_sem])
      refine aOps_n rfl (aOp.acall rfl rfl rfl (.cons .nil_imm (.cons (.refl _) (.cons (.refl _) (.cons (.refl _) .nil)))) (tell_calls (.box 30 (exC l s)) c hcl (fun x hx => by have := hmem x hx; omega) c.length [] [] (by simp) (Nat.zero_le _) (by simp [extC]; omega)) (fun v H' hv => ?_))
      try simp only [go_sem]
      obtain ⟨rfl, rfl⟩ := hv
      rw [show extC c [] = prodC c from by simp [extC], List.nil_append]
      repeat ((first | refine aOps_nil ?_ | refine aOps_a rfl rfl rfl ?_); try simp only [go_sem])
      (apply hKx19; (try clear hKx19 Kx19); try simp only [go_sem])
      refine WpA.seq fun Kx20 hKx20 => ?_
      refine WpA.reg fun all hall => ?_
      repeat ((first | refine aOps_nil ?_ | refine aOps_a rfl rfl rfl ?_); try simp only [go_sem])
      repeat ((first | refine aOps_nil ?_ | refine aOps_a rfl rfl rfl ?_); try simp only [go_sem])
      (apply hKx20; (try clear hKx20 Kx20); try simp only [go_sem])
      (refine WpA.ret ?_; try simp only [go_sem])
      rw [hsome]
      exact RetQ.val (.row _ _ _ _ _ _ rfl (encL_len _).symm)
end Go.Proofs.Ytfpbdphdahfgbaa
