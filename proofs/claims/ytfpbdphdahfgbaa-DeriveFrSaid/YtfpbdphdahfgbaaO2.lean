/- Places; orders as relations. -/
import Derived.Test.YtfpbdphdahfgbaaO1
import Derived.Lib.RowBridge
namespace Go.Proofs.Ytfpbdphdahfgbaa
open Go Go.RowKit Go.Proofs.Ytfpbdphdahfgbaa.Fw

/-- The places of writes, event by event. -/
def locsTo (l : List Ev) (k : Nat) : List Int := ((l.take k).filter fun x => x.kind == 2).map (·.loc)
theorem locsTo_succ (l : List Ev) {k : Nat} (hk : k < l.length) : locsTo l (k + 1) = locsTo l k ++ if (l[k].kind == 2) = true then [l[k].loc] else [] := by
  simp only [locsTo, List.take_add_one, List.getElem?_eq_getElem hk, Option.toList_some, List.filter_append, List.map_append]
  congr 1
  by_cases h : (l[k].kind == 2) = true <;> simp [h]
theorem locsTo_len (l : List Ev) (k : Nat) : (locsTo l k).length ≤ k := by
  rw [locsTo, List.length_map]
  exact Nat.le_trans (List.length_filter_le _ _) (by simp; omega)
def locsE (l : List Ev) : List Int := (locsTo l l.length).mergeSort fun x y => decide (x ≤ y)
def placesE (l : List Ev) : List Int := Lib.compact (locsE l)

theorem front_elems {H : List Blk} {id n m : Nat} {el : TypeId} {a b : List Int} (h : H[id]? = some (.row false el 1 (encZ (a ++ b)))) (hn : (a ++ b).length = n) (hm : a.length = m) : elemsOf H (.sub id n 1 0 m) = some (encZ a) := by
  subst hn
  subst hm
  simp [elemsOf, h, encZ]

set_option maxHeartbeats 4000000 in
theorem places_calls (l : List Ev) (s : Six) (hl : l.length ≤ 1000) : PCalls Try.prog 45 [exA l s] (.val (.pv (.imm (encZ (placesE l))))) := by
  refine PCalls.of_body Try.func45 rfl rfl Try.ntmps45 Try.results45 ?_
  simp only [go_sem, List.replicate]
  refine WpA.seq fun Kx1 hKx1 => ?_
  refine WpA.reg fun all hall => ?_
  repeat ((first | refine aOps_nil ?_ | refine aOps_a rfl rfl rfl ?_); try simp only [go_sem])
  repeat ((first | refine aOps_nil ?_ | refine aOps_a rfl rfl rfl ?_); try simp only [go_sem])
  (apply hKx1; (try clear hKx1 Kx1); try simp only [go_sem])
  refine WpA.seq fun Kx2 hKx2 => ?_
  refine WpA.reg fun all hall => ?_
  repeat ((first | refine aOps_nil ?_ | refine aOps_a rfl rfl rfl ?_); try simp only [go_sem])
  repeat ((first | refine aOps_nil ?_ | refine aOps_a rfl rfl rfl ?_); try simp only [go_sem])
  (apply hKx2; (try clear hKx2 Kx2); try simp only [go_sem])
  refine WpA.seq fun Kx3 hKx3 => ?_
  refine WpA.seq fun Kx4 hKx4 => ?_
  refine WpA.reg fun all hall => ?_
  repeat ((first | refine aOps_nil ?_ | refine aOps_a rfl rfl rfl ?_); try simp only [go_sem])
  repeat ((first | refine aOps_nil ?_ | refine aOps_a rfl rfl rfl ?_); try simp only [go_sem])
  (apply hKx4; (try clear hKx4 Kx4); try simp only [go_sem])
  refine WpA.block ?_
  refine WpA.view 3 3 (sz := 1) (by decide) rfl ?_
  try simp only [go_sem]
  refine WpA.iter (fun (k : Nat) => k ≤ l.length) (fun (k : Nat) => tpl 26 [(3, .row 1 (locsTo l k).length), (7, .pv (.imm (encE l))), (8, iv l.length), (9, iv k)]) (fun (k : Nat) => [.box 30 (exC l s), .row false 3 1 (encZ (locsTo l k))]) (fun (k : Nat) => l.length - k) 0 (by omega) (by ((try simp only [tpl, List.foldl_cons, List.foldl_nil, List.replicate, List.set_cons_zero, List.set_cons_succ]); repeat (first | exact trivial | refine ⟨.inr rfl, ?_⟩ | refine ⟨.inl rfl, ?_⟩))) rfl ?_
  rintro k hp0
  simp only [tpl, List.foldl_cons, List.foldl_nil, List.replicate, List.set_cons_zero, List.set_cons_succ]
  refine WpA.seq fun Kx5 hKx5 => ?_
  refine WpA.reg fun all hall => ?_
  repeat ((first | refine aOps_nil ?_ | refine aOps_a rfl rfl rfl ?_); try simp only [go_sem])
  repeat ((first | refine aOps_nil ?_ | refine aOps_a rfl rfl rfl ?_); try simp only [go_sem])
  (apply hKx5; (try clear hKx5 Kx5); try simp only [go_sem])
  refine WpA.seq fun Kx6 hKx6 => ?_
  (refine WpA.cond rfl (fun hb10 => ?_) (fun hb10 => ?_) <;> try simp only [decide_eq_true_eq, decide_eq_false_iff_not, Bool.not_eq_true', Bool.not_eq_false'] at hb10)
  · skip
    have hk : k < l.length := by omega
    have hres := locsTo_succ l hk
    have hb := locsTo_len l k
    (refine WpA.skip ?_; try simp only [go_sem])
    (apply hKx6; (try clear hKx6 Kx6); try simp only [go_sem])
    refine WpA.seq fun Kx7 hKx7 => ?_
    refine WpA.block ?_
    refine WpA.seq fun Kx8 hKx8 => ?_
    refine WpA.reg fun all hall => ?_
    refine aOps_s rfl rfl (QK.at rfl Try.underlying22 ti25 rfl (by first | exact .inl rfl | exact .inr (.inl rfl) | exact .inr (.inr rfl)) rfl (encE_get hk) rfl ?_)
    try simp only [go_sem]
    repeat ((first | refine aOps_nil ?_ | refine aOps_a rfl rfl rfl ?_); try simp only [go_sem])
    refine aOps_s rfl rfl (QK.alloc rfl ti25 (by kernel_rfl) rfl ?_)
    try simp only [go_sem]
    refine aOps_n rfl (aOp.set rfl rfl rfl rfl ?_ ti25 ?_)
    · exact ⟨rfl, (by first | rfl | (simp only [go_sem]; done) | (simp []; done) | (simp []; omega) | omega)⟩
    try simp only [go_sem]
    repeat ((first | refine aOps_nil ?_ | refine aOps_a rfl rfl rfl ?_); try simp only [go_sem])
    (apply hKx8; (try clear hKx8 Kx8); try simp only [go_sem])
    refine WpA.seq fun Kx9 hKx9 => ?_
    refine WpA.reg fun all hall => ?_
    repeat ((first | refine aOps_nil ?_ | refine aOps_a rfl rfl rfl ?_); try simp only [go_sem])
    repeat ((first | refine aOps_nil ?_ | refine aOps_a rfl rfl rfl ?_); try simp only [go_sem])
    (apply hKx9; (try clear hKx9 Kx9); try simp only [go_sem])
    (refine WpA.cond rfl (fun hb15 => ?_) (fun hb15 => ?_) <;> try simp only [decide_eq_true_eq, decide_eq_false_iff_not, Bool.not_eq_true', Bool.not_eq_false'] at hb15)
    · skip
      rw [if_pos hb15] at hres
      refine WpA.reg fun all hall => ?_
      repeat ((first | refine aOps_nil ?_ | refine aOps_a rfl rfl rfl ?_); try simp only [go_sem])
      refine aOps_s rfl rfl (QK.lit rfl Try.underlying39 ti3 rfl rfl ?_)
      try simp only [go_sem]
      refine aOps_n rfl (aOp.app rfl rfl rfl (by first | rfl | (simp only [go_sem]; done) | (simp []; done) | (simp []; omega) | omega) rfl (by simp [eI, eN, eU]) Try.underlying39 ti3 rfl (by simp; omega) ?_ (by decide))
      try simp only [go_sem]
      repeat ((first | refine aOps_nil ?_ | refine aOps_a rfl rfl rfl ?_); try simp only [go_sem])
      repeat ((first | refine aOps_nil ?_ | refine aOps_a rfl rfl rfl ?_); try simp only [go_sem])
      (apply hKx7; (try clear hKx7 Kx7); try simp only [go_sem])
      refine WpA.cut 2 (by decide) (by first | rfl | simp only [go_sem]) ?_
      try simp only [go_sem]
      refine WpA.reg fun all hall => ?_
      repeat ((first | refine aOps_nil ?_ | refine aOps_a rfl rfl rfl ?_); try simp only [go_sem])
      repeat ((first | refine aOps_nil ?_ | refine aOps_a rfl rfl rfl ?_); try simp only [go_sem])
      rw [wi1 k (by omega)]
      exact ⟨k + 1, ⟨hk, by omega⟩, (by rw [hres]; simp only [List.length_append, List.length_cons, List.length_nil, List.append_nil]; ((try simp only [tpl, List.foldl_cons, List.foldl_nil, List.replicate, List.set_cons_zero, List.set_cons_succ]); repeat (first | exact trivial | refine ⟨.inr rfl, ?_⟩ | refine ⟨.inl rfl, ?_⟩))), (by rw [hres]; simp [encZ, eI])⟩
    · skip
      rw [if_neg (by rw [hb15]; decide)] at hres
      (refine WpA.skip ?_; try simp only [go_sem])
      (apply hKx7; (try clear hKx7 Kx7); try simp only [go_sem])
      refine WpA.cut 2 (by decide) (by first | rfl | simp only [go_sem]) ?_
      try simp only [go_sem]
      refine WpA.reg fun all hall => ?_
      repeat ((first | refine aOps_nil ?_ | refine aOps_a rfl rfl rfl ?_); try simp only [go_sem])
      repeat ((first | refine aOps_nil ?_ | refine aOps_a rfl rfl rfl ?_); try simp only [go_sem])
      rw [wi1 k (by omega)]
      exact ⟨k + 1, ⟨hk, by omega⟩, (by rw [hres]; simp only [List.length_append, List.length_cons, List.length_nil, List.append_nil]; ((try simp only [tpl, List.foldl_cons, List.foldl_nil, List.replicate, List.set_cons_zero, List.set_cons_succ]); repeat (first | exact trivial | refine ⟨.inr rfl, ?_⟩ | refine ⟨.inl rfl, ?_⟩))), (by rw [hres]; simp [encZ, eI])⟩
  · skip
    have h1 : k = l.length := by omega
    subst h1
    (refine WpA.exit ?_; try simp only [go_sem])
    (apply hKx3; (try clear hKx3 Kx3); try simp only [go_sem])
    refine WpA.seq fun Kx10 hKx10 => ?_
    refine WpA.reg fun all hall => ?_
    repeat ((first | refine aOps_nil ?_ | refine aOps_a rfl rfl rfl ?_); try simp only [go_sem])
    refine aOps_n rfl (aOp.acall rfl rfl rfl (.cons (.refl _) .nil) (sort_acalls plain76 Try.slices_Sort_int Try.slices_Sort_int_none rfl (by have := locsTo_len l l.length; omega)) (fun v H' hv => ?_))
    try simp only [go_sem]
    obtain ⟨rfl, rfl⟩ := hv
    have hsl : (locsTo l l.length).length = (locsE l).length := by simp [locsE]
    rw [show (locsTo l l.length).mergeSort (fun x y => decide (x ≤ y)) = locsE l from rfl, hsl]
    repeat ((first | refine aOps_nil ?_ | refine aOps_a rfl rfl rfl ?_); try simp only [go_sem])
    (apply hKx10; (try clear hKx10 Kx10); try simp only [go_sem])
    refine WpA.seq fun Kx11 hKx11 => ?_
    refine WpA.reg fun all hall => ?_
    repeat ((first | refine aOps_nil ?_ | refine aOps_a rfl rfl rfl ?_); try simp only [go_sem])
    refine aOps_n rfl (aOp.acall rfl rfl rfl (.cons (.refl _) .nil) (compact_acalls plain77 Try.slices_Compact_int Try.slices_Compact_int_empty (Lib.compact_length_le _) rfl) (fun v H' hv => ?_))
    try simp only [go_sem]
    obtain ⟨rfl, rfl⟩ := hv
    repeat ((first | refine aOps_nil ?_ | refine aOps_a rfl rfl rfl ?_); try simp only [go_sem])
    repeat ((first | refine aOps_nil ?_ | refine aOps_a rfl rfl rfl ?_); try simp only [go_sem])
    (apply hKx11; (try clear hKx11 Kx11); try simp only [go_sem])
    (refine WpA.ret ?_; try simp only [go_sem])
    have hcl := Lib.compact_length_le (locsE l)
    rw [show placesE l = Lib.compact (locsE l) from rfl]
    exact RetQ.val (.sub _ _ _ _ _ _ (front_elems rfl (by simp; omega) rfl))
end Go.Proofs.Ytfpbdphdahfgbaa
