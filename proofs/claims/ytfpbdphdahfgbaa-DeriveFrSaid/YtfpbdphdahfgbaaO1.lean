/- Orders. -/
import Derived.Test.YtfpbdphdahfgbaaE1
import Derived.Test.YtfpbdphdahfgbaaShelf
namespace Go.Proofs.Ytfpbdphdahfgbaa
open Go Go.RowKit Go.Proofs.Ytfpbdphdahfgbaa.Fw

def eL (x : List Int) : List PV := [.imm (encZ x)]
def encL (l : List (List Int)) : List (List PV) := l.map eL
theorem encL_len (l : List (List Int)) : (encL l).length = l.length := by simp [encL]
theorem encL_get {l : List (List Int)} {k : Nat} (h : k < l.length) : (encL l)[k]? = some (eL l[k]) := by simp [encL, h]
attribute [simp] encL_len
attribute [go_sem] eL encL_len

theorem plain76 (vs : Array Value) (w : World) : (callFunc 76 vs).run Try.prog w = .ok (.enter 76 vs) w := by
  have h1 : Try.f76.name ≠ "runtime.NumGoroutine" := by decide
  obtain ⟨c, hc⟩ : ∃ c, Try.f76.body = some c := ⟨_, rfl⟩
  simp [callFunc, Try.func76, h1, hc]
theorem plain77 (vs : Array Value) (w : World) : (callFunc 77 vs).run Try.prog w = .ok (.enter 77 vs) w := by
  have h1 : Try.f77.name ≠ "runtime.NumGoroutine" := by decide
  obtain ⟨c, hc⟩ : ∃ c, Try.f77.body = some c := ⟨_, rfl⟩
  simp [callFunc, Try.func77, h1, hc]
theorem plain78 (vs : Array Value) (w : World) : (callFunc 78 vs).run Try.prog w = .ok (.enter 78 vs) w := by
  have h1 : Try.f78.name ≠ "runtime.NumGoroutine" := by decide
  obtain ⟨c, hc⟩ : ∃ c, Try.f78.body = some c := ⟨_, rfl⟩
  simp [callFunc, Try.func78, h1, hc]

theorem encZ_one (l : List Int) : ∀ x ∈ encZ l, x.length = 1 := by simp [encZ, eI]

set_option maxHeartbeats 4000000 in
theorem clone_calls (l : List Int) (hl : 0 < l.length) (hm : l.length ≤ 1000) : PCalls Try.prog 79 [.bor (encZ l)] (.row 3 1 (encZ l)) := by
  refine PCalls.of_body Try.func79 rfl rfl Try.ntmps79 Try.results79 ?_
  simp only [go_sem, List.replicate]
  refine WpA.seq fun Kx1 hKx1 => ?_
  refine WpA.reg fun all hall => ?_
  repeat ((first | refine aOps_nil ?_ | refine aOps_a rfl rfl rfl ?_); try simp only [go_sem])
  repeat ((first | refine aOps_nil ?_ | refine aOps_a rfl rfl rfl ?_); try simp only [go_sem])
  (apply hKx1; (try clear hKx1 Kx1); try simp only [go_sem])
  refine WpA.seq fun Kx2 hKx2 => ?_
  refine WpA.seq fun Kx3 hKx3 => ?_
  refine WpA.reg fun all hall => ?_
  ((first | refine aOps_nil ?_ | refine aOps_a rfl rfl rfl ?_); try simp only [go_sem])
  ((first | refine aOps_nil ?_ | refine aOps_a rfl rfl rfl ?_); try simp only [go_sem])
  refine ⟨hl, ?_⟩
  repeat ((first | refine aOps_nil ?_ | refine aOps_a rfl rfl rfl ?_); try simp only [go_sem])
  (apply hKx3; (try clear hKx3 Kx3); try simp only [go_sem])
  (refine WpA.cond rfl (fun hb4 => ?_) (fun hb4 => ?_) <;> try simp only [decide_eq_true_eq, decide_eq_false_iff_not, Bool.not_eq_true', Bool.not_eq_false'] at hb4)
  · skip
    exact absurd hb4 (by decide)
  · skip
    (refine WpA.skip ?_; try simp only [go_sem])
    (apply hKx2; (try clear hKx2 Kx2); try simp only [go_sem])
    refine WpA.seq fun Kx4 hKx4 => ?_
    refine WpA.reg fun all hall => ?_
    refine aOps_s rfl rfl (QK.litRow rfl Try.underlying39 ti3 rfl rfl ?_)
    try simp only [go_sem]
    repeat ((first | refine aOps_nil ?_ | refine aOps_a rfl rfl rfl ?_); try simp only [go_sem])
    refine aOps_n rfl (aOp.app rfl rfl rfl (by first | rfl | (simp only [go_sem]; done) | (simp []; done) | (simp []; omega) | omega) rfl (encZ_one l) Try.underlying39 ti3 rfl (by simp [encZ_len]; omega) ?_ (by decide))
    try simp only [go_sem]
    repeat ((first | refine aOps_nil ?_ | refine aOps_a rfl rfl rfl ?_); try simp only [go_sem])
    repeat ((first | refine aOps_nil ?_ | refine aOps_a rfl rfl rfl ?_); try simp only [go_sem])
    (apply hKx4; (try clear hKx4 Kx4); try simp only [go_sem])
    (refine WpA.ret ?_; try simp only [go_sem])
    exact RetQ.row rfl (by first | rfl | (simp only [go_sem]; done) | (simp []; done) | (simp []; omega) | omega) rfl

/-- The writes of a place, by number. -/
def isW (loc : Int) (x : Ev) : Bool := x.kind == 2 && x.loc == loc
def writesTo (l : List Ev) (loc : Int) (k : Nat) : List Int := ((List.range k).filter fun i => isW loc (l.getD i default)).map fun (i : Nat) => (i : Int)
def writesE (l : List Ev) (loc : Int) : List Int := writesTo l loc l.length
theorem writesTo_succ (l : List Ev) (loc : Int) {k : Nat} (hk : k < l.length) : writesTo l loc (k + 1) = writesTo l loc k ++ if isW loc l[k] then [(k : Int)] else [] := by
  simp only [writesTo, List.range_succ, List.filter_append, List.map_append]
  congr 1
  by_cases h : isW loc l[k] <;> simp [hk, h]
theorem writesTo_len (l : List Ev) (loc : Int) (k : Nat) : (writesTo l loc k).length ≤ k := by
  rw [writesTo, List.length_map]
  exact Nat.le_trans (List.length_filter_le _ _) (by simp)

set_option maxHeartbeats 4000000 in
theorem writes_calls (l : List Ev) (s : Six) (loc : Int) (hl : l.length ≤ 1000) : PCalls Try.prog 18 [exA l s, iv loc] (.val (.pv (.imm (encZ (writesE l loc))))) := by
  refine PCalls.of_body Try.func18 rfl rfl Try.ntmps18 Try.results18 ?_
  simp only [go_sem, List.replicate]
  refine WpA.seq fun Kx1 hKx1 => ?_
  refine WpA.reg fun all hall => ?_
  repeat ((first | refine aOps_nil ?_ | refine aOps_a rfl rfl rfl ?_); try simp only [go_sem])
  repeat ((first | refine aOps_nil ?_ | refine aOps_a rfl rfl rfl ?_); try simp only [go_sem])
  (apply hKx1; (try clear hKx1 Kx1); try simp only [go_sem])
  refine WpA.seq fun Kx2 hKx2 => ?_
  refine WpA.reg fun all hall => ?_
  repeat ((first | refine aOps_nil ?_ | refine aOps_a rfl rfl rfl ?_); try simp only [go_sem])
  repeat ((first | refine aOps_nil ?_ | refine aOps_a rfl rfl rfl ?_); try simp only [go_sem])
  (apply hKx2; (try clear hKx2 Kx2); try simp only [go_sem])
  refine WpA.seq fun Kx3 hKx3 => ?_
  refine WpA.seq fun Kx4 hKx4 => ?_
  refine WpA.reg fun all hall => ?_
  repeat ((first | refine aOps_nil ?_ | refine aOps_a rfl rfl rfl ?_); try simp only [go_sem])
  repeat ((first | refine aOps_nil ?_ | refine aOps_a rfl rfl rfl ?_); try simp only [go_sem])
  (apply hKx4; (try clear hKx4 Kx4); try simp only [go_sem])
  refine WpA.block ?_
  refine WpA.view 5 3 (sz := 1) (by decide) rfl ?_
  try simp only [go_sem]
  refine WpA.iter (fun (k : Nat) => k ≤ l.length) (fun (k : Nat) => tpl 31 [(1, iv loc), (5, .row 1 (writesTo l loc k).length), (9, .pv (.imm (encE l))), (10, iv l.length), (11, iv k)]) (fun (k : Nat) => [.box 30 (exC l s), .row false 3 1 (encZ (writesTo l loc k))]) (fun (k : Nat) => l.length - k) 0 (by omega) (by ((try simp only [tpl, List.foldl_cons, List.foldl_nil, List.replicate, List.set_cons_zero, List.set_cons_succ]); repeat (first | exact trivial | refine ⟨.inr rfl, ?_⟩ | refine ⟨.inl rfl, ?_⟩))) rfl ?_
  rintro k hp0
  simp only [tpl, List.foldl_cons, List.foldl_nil, List.replicate, List.set_cons_zero, List.set_cons_succ]
  refine WpA.seq fun Kx5 hKx5 => ?_
  refine WpA.reg fun all hall => ?_
  repeat ((first | refine aOps_nil ?_ | refine aOps_a rfl rfl rfl ?_); try simp only [go_sem])
  repeat ((first | refine aOps_nil ?_ | refine aOps_a rfl rfl rfl ?_); try simp only [go_sem])
  (apply hKx5; (try clear hKx5 Kx5); try simp only [go_sem])
  refine WpA.seq fun Kx6 hKx6 => ?_
  (refine WpA.cond rfl (fun hb12 => ?_) (fun hb12 => ?_) <;> try simp only [decide_eq_true_eq, decide_eq_false_iff_not, Bool.not_eq_true', Bool.not_eq_false'] at hb12)
  · skip
    have hk : k < l.length := by omega
    have hres := writesTo_succ l loc hk
    have hb := writesTo_len l loc k
    (refine WpA.skip ?_; try simp only [go_sem])
    (apply hKx6; (try clear hKx6 Kx6); try simp only [go_sem])
    refine WpA.seq fun Kx7 hKx7 => ?_
    refine WpA.block ?_
    refine WpA.seq fun Kx8 hKx8 => ?_
    refine WpA.reg fun all hall => ?_
    repeat ((first | refine aOps_nil ?_ | refine aOps_a rfl rfl rfl ?_); try simp only [go_sem])
    refine aOps_s rfl rfl (QK.at rfl Try.underlying22 ti25 rfl (by first | exact .inl rfl | exact .inr (.inl rfl) | exact .inr (.inr rfl)) rfl (encE_get hk) rfl ?_)
    try simp only [go_sem]
    repeat ((first | refine aOps_nil ?_ | refine aOps_a rfl rfl rfl ?_); try simp only [go_sem])
    refine aOps_s rfl rfl (QK.alloc rfl ti25 (by kernel_rfl) rfl ?_)
    try simp only [go_sem]
    repeat ((first | refine aOps_nil ?_ | refine aOps_a rfl rfl rfl ?_); try simp only [go_sem])
    refine aOps_n rfl (aOp.set rfl rfl rfl rfl ?_ ti25 ?_)
    · exact ⟨rfl, (by first | rfl | (simp only [go_sem]; done) | (simp []; done) | (simp []; omega) | omega)⟩
    try simp only [go_sem]
    repeat ((first | refine aOps_nil ?_ | refine aOps_a rfl rfl rfl ?_); try simp only [go_sem])
    (apply hKx8; (try clear hKx8 Kx8); try simp only [go_sem])
    refine WpA.seq fun Kx9 hKx9 => ?_
    refine WpA.reg fun all hall => ?_
    repeat ((first | refine aOps_nil ?_ | refine aOps_a rfl rfl rfl ?_); try simp only [go_sem])
    refine aOps_split (d := 19) rfl (fun hg5_3 => ?_) (fun hg5_3 => ?_) <;> (try simp only [decide_eq_true_eq, decide_eq_false_iff_not] at hg5_3) <;> try simp only [go_sem]
    · skip
      (refine aOps_ya rfl rfl rfl (by rw [hall]; rfl) rfl ?_; try simp only [go_sem])
      (refine aOps_ya rfl rfl rfl (by rw [hall]; rfl) rfl ?_; try simp only [go_sem])
      (refine aOps_ya rfl rfl rfl (by rw [hall]; rfl) rfl ?_; try simp only [go_sem])
      (refine aOps_ya rfl rfl rfl (by rw [hall]; rfl) rfl ?_; try simp only [go_sem])
      repeat ((first | refine aOps_nil ?_ | refine aOps_a rfl rfl rfl ?_); try simp only [go_sem])
      repeat ((first | refine aOps_nil ?_ | refine aOps_a rfl rfl rfl ?_); try simp only [go_sem])
      (apply hKx9; (try clear hKx9 Kx9); try simp only [go_sem])
      (refine WpA.cond rfl (fun hb24 => ?_) (fun hb24 => ?_) <;> try simp only [decide_eq_true_eq, decide_eq_false_iff_not, Bool.not_eq_true', Bool.not_eq_false'] at hb24)
      · skip
        rw [if_pos (by simp only [isW, hg5_3, hb24]; rfl)] at hres
        refine WpA.reg fun all hall => ?_
        repeat ((first | refine aOps_nil ?_ | refine aOps_a rfl rfl rfl ?_); try simp only [go_sem])
        refine aOps_s rfl rfl (QK.lit rfl Try.underlying39 ti3 rfl rfl ?_)
        try simp only [go_sem]
        refine aOps_n rfl (aOp.app rfl rfl rfl (by first | rfl | (simp only [go_sem]; done) | (simp []; done) | (simp []; omega) | omega) rfl (by simp [eI, eN, eU]) Try.underlying39 ti3 rfl (by simp; omega) ?_ (by decide))
        try simp only [go_sem]
        repeat ((first | refine aOps_nil ?_ | refine aOps_a rfl rfl rfl ?_); try simp only [go_sem])
        repeat ((first | refine aOps_nil ?_ | refine aOps_a rfl rfl rfl ?_); try simp only [go_sem])
        (apply hKx7; (try clear hKx7 Kx7); try simp only [go_sem])
        refine WpA.cut 2 (by decide) (by first | rfl | simp only [go_sem]) ?_
        try simp only [go_sem]
        refine WpA.reg fun all hall => ?_
        repeat ((first | refine aOps_nil ?_ | refine aOps_a rfl rfl rfl ?_); try simp only [go_sem])
        repeat ((first | refine aOps_nil ?_ | refine aOps_a rfl rfl rfl ?_); try simp only [go_sem])
        rw [wi1 k (by omega)]
        exact ⟨k + 1, ⟨hk, by omega⟩, (by rw [hres]; simp only [List.length_append, List.length_cons, List.length_nil, List.append_nil]; ((try simp only [tpl, List.foldl_cons, List.foldl_nil, List.replicate, List.set_cons_zero, List.set_cons_succ]); repeat (first | exact trivial | refine ⟨.inr rfl, ?_⟩ | refine ⟨.inl rfl, ?_⟩))), (by rw [hres]; simp [encZ, eI])⟩
      · skip
        try rw [if_neg (by simp only [isW, hg5_3, hb24]; decide)] at hres
        (refine WpA.skip ?_; try simp only [go_sem])
        (apply hKx7; (try clear hKx7 Kx7); try simp only [go_sem])
        refine WpA.cut 2 (by decide) (by first | rfl | simp only [go_sem]) ?_
        try simp only [go_sem]
        refine WpA.reg fun all hall => ?_
        repeat ((first | refine aOps_nil ?_ | refine aOps_a rfl rfl rfl ?_); try simp only [go_sem])
        repeat ((first | refine aOps_nil ?_ | refine aOps_a rfl rfl rfl ?_); try simp only [go_sem])
        rw [wi1 k (by omega)]
        exact ⟨k + 1, ⟨hk, by omega⟩, (by rw [hres]; simp only [List.length_append, List.length_cons, List.length_nil, List.append_nil]; ((try simp only [tpl, List.foldl_cons, List.foldl_nil, List.replicate, List.set_cons_zero, List.set_cons_succ]); repeat (first | exact trivial | refine ⟨.inr rfl, ?_⟩ | refine ⟨.inl rfl, ?_⟩))), (by rw [hres]; simp [encZ, eI])⟩
    · skip
      rw [if_neg (by simp [isW, hg5_3])] at hres
      (refine aOps_z rfl (by rw [hall]; rfl) rfl ?_; try simp only [go_sem])
      (refine aOps_z rfl (by rw [hall]; rfl) rfl ?_; try simp only [go_sem])
      (refine aOps_z rfl (by rw [hall]; rfl) rfl ?_; try simp only [go_sem])
      (refine aOps_z rfl (by rw [hall]; rfl) rfl ?_; try simp only [go_sem])
      repeat ((first | refine aOps_nil ?_ | refine aOps_a rfl rfl rfl ?_); try simp only [go_sem])
      repeat ((first | refine aOps_nil ?_ | refine aOps_a rfl rfl rfl ?_); try simp only [go_sem])
      (apply hKx9; (try clear hKx9 Kx9); try simp only [go_sem])
      (refine WpA.cond rfl (fun hb24 => ?_) (fun hb24 => ?_) <;> try simp only [decide_eq_true_eq, decide_eq_false_iff_not, Bool.not_eq_true', Bool.not_eq_false'] at hb24)
      · skip
        exact absurd hb24 (by decide)
      · skip
        try rw [if_neg (by simp only [isW, hg5_3, hb24]; decide)] at hres
        (refine WpA.skip ?_; try simp only [go_sem])
        (apply hKx7; (try clear hKx7 Kx7); try simp only [go_sem])
        refine WpA.cut 2 (by decide) (by first | rfl | simp only [go_sem]) ?_
        try simp only [go_sem]
        refine WpA.reg fun all hall => ?_
        repeat ((first | refine aOps_nil ?_ | refine aOps_a rfl rfl rfl ?_); try simp only [go_sem])
        repeat ((first | refine aOps_nil ?_ | refine aOps_a rfl rfl rfl ?_); try simp only [go_sem])
        rw [wi1 k (by omega)]
        exact ⟨k + 1, ⟨hk, by omega⟩, (by rw [hres]; simp only [List.length_append, List.length_cons, List.length_nil, List.append_nil]; ((try simp only [tpl, List.foldl_cons, List.foldl_nil, List.replicate, List.set_cons_zero, List.set_cons_succ]); repeat (first | exact trivial | refine ⟨.inr rfl, ?_⟩ | refine ⟨.inl rfl, ?_⟩))), (by rw [hres]; simp [encZ, eI])⟩
  · skip
    (refine WpA.exit ?_; try simp only [go_sem])
    (apply hKx3; (try clear hKx3 Kx3); try simp only [go_sem])
    refine WpA.seq fun Kx10 hKx10 => ?_
    refine WpA.reg fun all hall => ?_
    repeat ((first | refine aOps_nil ?_ | refine aOps_a rfl rfl rfl ?_); try simp only [go_sem])
    repeat ((first | refine aOps_nil ?_ | refine aOps_a rfl rfl rfl ?_); try simp only [go_sem])
    (apply hKx10; (try clear hKx10 Kx10); try simp only [go_sem])
    (refine WpA.ret ?_; try simp only [go_sem])
    have h1 : k = l.length := by omega
    subst h1
    rw [show writesE l loc = writesTo l loc l.length from rfl]
    exact RetQ.val (.row _ _ _ _ _ _ rfl (by first | rfl | (simp only [go_sem]; done) | (simp []; done) | (simp []; omega) | omega))
end Go.Proofs.Ytfpbdphdahfgbaa
