/- CoherUnlike, walked. -/
import Derived.Test.YtfpbdphdahfgbaaL0
namespace Go.Proofs.Ytfpbdphdahfgbaa
open Go Go.RowKit Go.Proofs.Ytfpbdphdahfgbaa.Fw

attribute [go_sem] Try.underlying5
theorem any_take {α : Type} (f : α → Bool) (l : List α) {k : Nat} (h : k < l.length) : (l.take (k + 1)).any f = ((l.take k).any f || f l[k]) := by
  rw [List.take_add_one, List.getElem?_eq_getElem h, List.any_append]; simp

set_option maxHeartbeats 4000000 in
theorem unlike_calls (l : List Ev) (w : Nat) (hw : w < 256) (hll : l.length < 9223372036854775808) (hu : l.length ≤ 24 → (locsTo l l.length).length ≤ 5 → ∀ i k, (hi : i < (allE l).length) → (hk : k < (allE l).length) → k < i → sameR (allE l)[i] (allE l)[k] = false) (hlen : l.length ≤ 24 → (locsTo l l.length).length ≤ 5 → (allE l).length ≤ 20000) (h1 : l.length ≤ 24 → (locsTo l l.length).length ≤ 5 → 1 ≤ (allE l).length) (hlast : l.length ≤ 24 → (locsTo l l.length).length ≤ 5 → ∀ x, (hx : x < l.length) → (l[x].kind == 2) = true → (allE l).any (fun co => lastOf co (writesE l l[x].loc) == (x : Int)) = true) (hfirst : l.length ≤ 24 → (locsTo l l.length).length ≤ 5 → ∀ x, (hx : x < l.length) → (l[x].kind == 2) = true → (allE l).any (fun co => lastOf (invR co) (writesE l l[x].loc) == (x : Int)) = true) : PCalls Try.prog 3 [.pv (.imm (encE l)), .pv (.val (.int .u8 w))] (.val (bv true)) := by
  refine PCalls.of_body Try.func3 rfl rfl Try.ntmps3 Try.results3 ?_
  simp only [go_sem, List.replicate]
  refine WpA.seq fun Kx1 hKx1 => ?_
  refine WpA.reg fun all hall => ?_
  repeat ((first | refine aOps_nil ?_ | refine aOps_a rfl rfl rfl ?_); try simp only [go_sem])
  repeat ((first | refine aOps_nil ?_ | refine aOps_a rfl rfl rfl ?_); try simp only [go_sem])
  (apply hKx1; (try clear hKx1 Kx1); try simp only [go_sem])
  refine WpA.seq fun Kx2 hKx2 => ?_
  refine WpA.reg fun all hall => ?_
  refine aOps_s rfl rfl (QK.call rfl rfl rfl shown12_calls (by repeat' (first | exact ConvL.nil | refine ConvL.cons ?_ ?_ | first | exact Conv.pv _ | exact Conv.imm_bor _ | exact Conv.bor _ | exact Conv.tight_imm _ | exact Conv.tight_bor _ | exact Conv.nil_imm | exact Conv.nil_bor | exact Conv.tight _ | exact Conv.at _ | exact Conv.row _ _ _ _ _ _ rfl (by first | rfl | (simp only [go_sem]; done) | (simp []; done) | (simp []; omega) | omega) | exact Conv.bat _ _ _ _ _ rfl rfl | exact Conv.aggp _ _ rfl | refine Conv.fnL _ ?_ | exact Conv.any _)) ?_)
  try simp only [go_sem]
  repeat ((first | refine aOps_nil ?_ | refine aOps_a rfl rfl rfl ?_); try simp only [go_sem])
  repeat ((first | refine aOps_nil ?_ | refine aOps_a rfl rfl rfl ?_); try simp only [go_sem])
  (apply hKx2; (try clear hKx2 Kx2); try simp only [go_sem])
  refine WpA.seq fun Kx3 hKx3 => ?_
  refine WpA.reg fun all hall => ?_
  repeat ((first | refine aOps_nil ?_ | refine aOps_a rfl rfl rfl ?_); try simp only [go_sem])
  repeat ((first | refine aOps_nil ?_ | refine aOps_a rfl rfl rfl ?_); try simp only [go_sem])
  (apply hKx3; (try clear hKx3 Kx3); try simp only [go_sem])
  refine WpA.seq fun Kx4 hKx4 => ?_
  refine WpA.seq fun Kx5 hKx5 => ?_
  refine WpA.reg fun all hall => ?_
  repeat ((first | refine aOps_nil ?_ | refine aOps_a rfl rfl rfl ?_); try simp only [go_sem])
  repeat ((first | refine aOps_nil ?_ | refine aOps_a rfl rfl rfl ?_); try simp only [go_sem])
  (apply hKx5; (try clear hKx5 Kx5); try simp only [go_sem])
  refine WpA.block ?_
  refine WpA.iter (fun (k : Nat) => k ≤ l.length) (fun (k : Nat) => tpl 131 [(0, .pv (.imm (encE l))), (1, .pv (.val (.int .u8 w))), (5, bv true), (6, iv (locsTo l k).length), (7, iv k)]) (fun (k : Nat) => []) (fun (k : Nat) => l.length - k) 0 (by omega) (by ((try simp only [tpl, List.foldl_cons, List.foldl_nil, List.replicate, List.set_cons_zero, List.set_cons_succ]); repeat (first | exact trivial | refine ⟨.inr rfl, ?_⟩ | refine ⟨.inl rfl, ?_⟩))) rfl ?_
  rintro k hp0
  simp only [tpl, List.foldl_cons, List.foldl_nil, List.replicate, List.set_cons_zero, List.set_cons_succ]
  refine WpA.seq fun Kx6 hKx6 => ?_
  refine WpA.seq fun Kx7 hKx7 => ?_
  refine WpA.reg fun all hall => ?_
  repeat ((first | refine aOps_nil ?_ | refine aOps_a rfl rfl rfl ?_); try simp only [go_sem])
  repeat ((first | refine aOps_nil ?_ | refine aOps_a rfl rfl rfl ?_); try simp only [go_sem])
  (apply hKx7; (try clear hKx7 Kx7); try simp only [go_sem])
  (refine WpA.cond rfl (fun hb20 => ?_) (fun hb20 => ?_) <;> try simp only [decide_eq_true_eq, decide_eq_false_iff_not, Bool.not_eq_true', Bool.not_eq_false'] at hb20)
  · skip
    have hk : k < l.length := by omega
    have hres := locsTo_succ l hk
    have hb := locsTo_len l k
    (refine WpA.skip ?_; try simp only [go_sem])
    (apply hKx6; (try clear hKx6 Kx6); try simp only [go_sem])
    refine WpA.seq fun Kx8 hKx8 => ?_
    refine WpA.block ?_
    refine WpA.seq fun Kx9 hKx9 => ?_
    refine WpA.reg fun all hall => ?_
    repeat ((first | refine aOps_nil ?_ | refine aOps_a rfl rfl rfl ?_); try simp only [go_sem])
    refine aOps_s rfl rfl (QK.at rfl Try.underlying22 ti25 rfl (by first | exact .inl rfl | exact .inr (.inl rfl) | exact .inr (.inr rfl)) rfl (encE_get hk) rfl ?_)
    try simp only [go_sem]
    repeat ((first | refine aOps_nil ?_ | refine aOps_a rfl rfl rfl ?_); try simp only [go_sem])
    repeat ((first | refine aOps_nil ?_ | refine aOps_a rfl rfl rfl ?_); try simp only [go_sem])
    (apply hKx9; (try clear hKx9 Kx9); try simp only [go_sem])
    (refine WpA.cond rfl (fun hb28 => ?_) (fun hb28 => ?_) <;> try simp only [decide_eq_true_eq, decide_eq_false_iff_not, Bool.not_eq_true', Bool.not_eq_false'] at hb28)
    · skip
      rw [if_pos hb28] at hres
      have hn : (locsTo l (k + 1)).length = (locsTo l k).length + 1 := by rw [hres]; simp
      refine WpA.reg fun all hall => ?_
      repeat ((first | refine aOps_nil ?_ | refine aOps_a rfl rfl rfl ?_); try simp only [go_sem])
      repeat ((first | refine aOps_nil ?_ | refine aOps_a rfl rfl rfl ?_); try simp only [go_sem])
      rw [wi1 _ (by omega)]
      (apply hKx8; (try clear hKx8 Kx8); try simp only [go_sem])
      refine WpA.reg fun all hall => ?_
      repeat ((first | refine aOps_nil ?_ | refine aOps_a rfl rfl rfl ?_); try simp only [go_sem])
      repeat ((first | refine aOps_nil ?_ | refine aOps_a rfl rfl rfl ?_); try simp only [go_sem])
      rw [wi1 k (by omega)]
      exact ⟨k + 1, ⟨hk, by omega⟩, (by rw [hn]; ((try simp only [tpl, List.foldl_cons, List.foldl_nil, List.replicate, List.set_cons_zero, List.set_cons_succ]); repeat (first | exact trivial | refine ⟨.inr rfl, ?_⟩ | refine ⟨.inl rfl, ?_⟩))), rfl⟩
    · skip
      rw [if_neg (by rw [hb28]; decide)] at hres
      have hn : (locsTo l (k + 1)).length = (locsTo l k).length := by rw [hres]; simp
      (refine WpA.skip ?_; try simp only [go_sem])
      (apply hKx8; (try clear hKx8 Kx8); try simp only [go_sem])
      refine WpA.reg fun all hall => ?_
      repeat ((first | refine aOps_nil ?_ | refine aOps_a rfl rfl rfl ?_); try simp only [go_sem])
      repeat ((first | refine aOps_nil ?_ | refine aOps_a rfl rfl rfl ?_); try simp only [go_sem])
      rw [wi1 k (by omega)]
      exact ⟨k + 1, ⟨hk, by omega⟩, (by rw [hn]; ((try simp only [tpl, List.foldl_cons, List.foldl_nil, List.replicate, List.set_cons_zero, List.set_cons_succ]); repeat (first | exact trivial | refine ⟨.inr rfl, ?_⟩ | refine ⟨.inl rfl, ?_⟩))), rfl⟩
  · skip
    have hk : k = l.length := by omega
    subst hk
    (refine WpA.exit ?_; try simp only [go_sem])
    (apply hKx4; (try clear hKx4 Kx4); try simp only [go_sem])
    refine WpA.seq fun Kx10 hKx10 => ?_
    refine WpA.seq fun Kx11 hKx11 => ?_
    refine WpA.reg fun all hall => ?_
    repeat ((first | refine aOps_nil ?_ | refine aOps_a rfl rfl rfl ?_); try simp only [go_sem])
    refine aOps_split (d := 34) rfl (fun hg8_3 => ?_) (fun hg8_3 => ?_) <;> (try simp only [decide_eq_true_eq, decide_eq_false_iff_not] at hg8_3) <;> try simp only [go_sem]
    · skip
      (refine aOps_z rfl (by rw [hall]; rfl) rfl ?_; try simp only [go_sem])
      (refine aOps_z rfl (by rw [hall]; rfl) rfl ?_; try simp only [go_sem])
      repeat ((first | refine aOps_nil ?_ | refine aOps_a rfl rfl rfl ?_); try simp only [go_sem])
      (refine aOps_z rfl (by rw [hall]; rfl) rfl ?_; try simp only [go_sem])
      (refine aOps_z rfl (by rw [hall]; rfl) rfl ?_; try simp only [go_sem])
      (refine aOps_z rfl (by rw [hall]; rfl) rfl ?_; try simp only [go_sem])
      repeat ((first | refine aOps_nil ?_ | refine aOps_a rfl rfl rfl ?_); try simp only [go_sem])
      repeat ((first | refine aOps_nil ?_ | refine aOps_a rfl rfl rfl ?_); try simp only [go_sem])
      (apply hKx11; (try clear hKx11 Kx11); try simp only [go_sem])
      (refine WpA.cond rfl (fun hb42 => ?_) (fun hb42 => ?_) <;> try simp only [decide_eq_true_eq, decide_eq_false_iff_not, Bool.not_eq_true', Bool.not_eq_false'] at hb42)
      · skip
        refine WpA.seq fun Kx12 hKx12 => ?_
        refine WpA.reg fun all hall => ?_
        repeat ((first | refine aOps_nil ?_ | refine aOps_a rfl rfl rfl ?_); try simp only [go_sem])
        repeat ((first | refine aOps_nil ?_ | refine aOps_a rfl rfl rfl ?_); try simp only [go_sem])
        (apply hKx12; (try clear hKx12 Kx12); try simp only [go_sem])
        (refine WpA.ret ?_; try simp only [go_sem])
        exact ret_b rfl rfl
      · skip
        exact absurd hb42 (by decide)
    · skip
      (refine aOps_ya rfl rfl rfl (by rw [hall]; rfl) rfl ?_; try simp only [go_sem])
      (refine aOps_ya rfl rfl rfl (by rw [hall]; rfl) rfl ?_; try simp only [go_sem])
      repeat ((first | refine aOps_nil ?_ | refine aOps_a rfl rfl rfl ?_); try simp only [go_sem])
      refine aOps_split (d := 38) rfl (fun hg8_7 => ?_) (fun hg8_7 => ?_) <;> (try simp only [decide_eq_true_eq, decide_eq_false_iff_not] at hg8_7) <;> try simp only [go_sem]
      · skip
        (refine aOps_z rfl (by rw [hall]; rfl) rfl ?_; try simp only [go_sem])
        (refine aOps_z rfl (by rw [hall]; rfl) rfl ?_; try simp only [go_sem])
        (refine aOps_z rfl (by rw [hall]; rfl) rfl ?_; try simp only [go_sem])
        repeat ((first | refine aOps_nil ?_ | refine aOps_a rfl rfl rfl ?_); try simp only [go_sem])
        repeat ((first | refine aOps_nil ?_ | refine aOps_a rfl rfl rfl ?_); try simp only [go_sem])
        (apply hKx11; (try clear hKx11 Kx11); try simp only [go_sem])
        (refine WpA.cond rfl (fun hb42 => ?_) (fun hb42 => ?_) <;> try simp only [decide_eq_true_eq, decide_eq_false_iff_not, Bool.not_eq_true', Bool.not_eq_false'] at hb42)
        · skip
          refine WpA.seq fun Kx13 hKx13 => ?_
          refine WpA.reg fun all hall => ?_
          repeat ((first | refine aOps_nil ?_ | refine aOps_a rfl rfl rfl ?_); try simp only [go_sem])
          repeat ((first | refine aOps_nil ?_ | refine aOps_a rfl rfl rfl ?_); try simp only [go_sem])
          (apply hKx13; (try clear hKx13 Kx13); try simp only [go_sem])
          (refine WpA.ret ?_; try simp only [go_sem])
          exact ret_b rfl rfl
        · skip
          exact absurd hb42 (by decide)
      · skip
        (refine aOps_ya rfl rfl rfl (by rw [hall]; rfl) rfl ?_; try simp only [go_sem])
        (refine aOps_ya rfl rfl rfl (by rw [hall]; rfl) rfl ?_; try simp only [go_sem])
        (refine aOps_ya rfl rfl rfl (by rw [hall]; rfl) rfl ?_; try simp only [go_sem])
        repeat ((first | refine aOps_nil ?_ | refine aOps_a rfl rfl rfl ?_); try simp only [go_sem])
        repeat ((first | refine aOps_nil ?_ | refine aOps_a rfl rfl rfl ?_); try simp only [go_sem])
        (apply hKx11; (try clear hKx11 Kx11); try simp only [go_sem])
        (refine WpA.cond rfl (fun hb42 => ?_) (fun hb42 => ?_) <;> try simp only [decide_eq_true_eq, decide_eq_false_iff_not, Bool.not_eq_true', Bool.not_eq_false'] at hb42)
        · skip
          refine WpA.seq fun Kx14 hKx14 => ?_
          refine WpA.reg fun all hall => ?_
          repeat ((first | refine aOps_nil ?_ | refine aOps_a rfl rfl rfl ?_); try simp only [go_sem])
          repeat ((first | refine aOps_nil ?_ | refine aOps_a rfl rfl rfl ?_); try simp only [go_sem])
          (apply hKx14; (try clear hKx14 Kx14); try simp only [go_sem])
          (refine WpA.ret ?_; try simp only [go_sem])
          exact ret_b rfl rfl
        · skip
          have hl : l.length ≤ 24 := by omega
          have hn : (locsTo l l.length).length ≤ 5 := by omega
          have hl0 : 0 < l.length := by (have h := hb42; simp at h; exact List.length_pos_iff.2 h)
          have hu := hu hl hn
          have h1 := h1 hl hn
          have hlast := hlast hl hn
          have hfirst := hfirst hl hn
          have hlen := hlen hl hn
          have hcall := call_calls l s0 (by omega)
          (refine WpA.skip ?_; try simp only [go_sem])
          (apply hKx10; (try clear hKx10 Kx10); try simp only [go_sem])
          refine WpA.seq fun Kx15 hKx15 => ?_
          refine WpA.reg fun all hall => ?_
          repeat ((first | refine aOps_nil ?_ | refine aOps_a rfl rfl rfl ?_); try simp only [go_sem])
          refine aOps_s rfl rfl (QK.call rfl rfl rfl (made12_calls l) (by repeat' (first | exact ConvL.nil | refine ConvL.cons ?_ ?_ | first | exact Conv.pv _ | exact Conv.imm_bor _ | exact Conv.bor _ | exact Conv.tight_imm _ | exact Conv.tight_bor _ | exact Conv.nil_imm | exact Conv.nil_bor | exact Conv.tight _ | exact Conv.at _ | exact Conv.row _ _ _ _ _ _ rfl (by first | rfl | (simp only [go_sem]; done) | (simp []; done) | (simp []; omega) | omega) | exact Conv.bat _ _ _ _ _ rfl rfl | exact Conv.aggp _ _ rfl | refine Conv.fnL _ ?_ | exact Conv.any _)) ?_)
          try simp only [go_sem]
          refine aOps_s rfl rfl (QK.alloc rfl ti30 (by kernel_rfl) rfl ?_)
          try simp only [go_sem]
          refine aOps_n rfl (aOp.set rfl rfl rfl rfl ?_ ti30 ?_)
          · exact ⟨rfl, (by first | rfl | (simp only [go_sem]; done) | (simp []; done) | (simp []; omega) | omega)⟩
          try simp only [go_sem]
          repeat ((first | refine aOps_nil ?_ | refine aOps_a rfl rfl rfl ?_); try simp only [go_sem])
          (apply hKx15; (try clear hKx15 Kx15); try simp only [go_sem])
          refine WpA.seq fun Kx16 hKx16 => ?_
          refine WpA.reg fun all hall => ?_
          repeat ((first | refine aOps_nil ?_ | refine aOps_a rfl rfl rfl ?_); try simp only [go_sem])
          refine aOps_s rfl rfl (QK.call rfl rfl rfl hcall (by repeat' (first | exact ConvL.nil | refine ConvL.cons ?_ ?_ | first | exact Conv.pv _ | exact Conv.imm_bor _ | exact Conv.bor _ | exact Conv.tight_imm _ | exact Conv.tight_bor _ | exact Conv.nil_imm | exact Conv.nil_bor | exact Conv.tight _ | exact Conv.at _ | exact Conv.row _ _ _ _ _ _ rfl (by first | rfl | (simp only [go_sem]; done) | (simp []; done) | (simp []; omega) | omega) | exact Conv.bat _ _ _ _ _ rfl rfl | exact Conv.aggp _ _ rfl | refine Conv.fnL _ ?_ | exact Conv.any _)) ?_)
          try simp only [go_sem]
          repeat ((first | refine aOps_nil ?_ | refine aOps_a rfl rfl rfl ?_); try simp only [go_sem])
          repeat ((first | refine aOps_nil ?_ | refine aOps_a rfl rfl rfl ?_); try simp only [go_sem])
          generalize allE l = ways at hu h1 hlast hfirst hlen ⊢
          (apply hKx16; (try clear hKx16 Kx16); try simp only [go_sem])
          refine WpA.seq fun Kx17 hKx17 => ?_
          refine WpA.seq fun Kx18 hKx18 => ?_
          refine WpA.reg fun all hall => ?_
          repeat ((first | refine aOps_nil ?_ | refine aOps_a rfl rfl rfl ?_); try simp only [go_sem])
          repeat ((first | refine aOps_nil ?_ | refine aOps_a rfl rfl rfl ?_); try simp only [go_sem])
          (apply hKx18; (try clear hKx18 Kx18); try simp only [go_sem])
          refine WpA.block ?_
          refine WpA.iter (fun (i : Nat) => i ≤ ways.length) (fun (i : Nat) => tpl 131 [(0, .pv (.imm (encE l))), (1, .pv (.val (.int .u8 w))), (5, bv true), (8, .bat 0 0), (9, .pv (.imm (encW ways))), (10, iv i)]) (fun (i : Nat) => [.box 30 (exC l s0)]) (fun (i : Nat) => ways.length - i) 0 (by omega) (by ((try simp only [tpl, List.foldl_cons, List.foldl_nil, List.replicate, List.set_cons_zero, List.set_cons_succ]); repeat (first | exact trivial | refine ⟨.inr rfl, ?_⟩ | refine ⟨.inl rfl, ?_⟩))) rfl ?_
          rintro i hp2
          simp only [tpl, List.foldl_cons, List.foldl_nil, List.replicate, List.set_cons_zero, List.set_cons_succ]
          refine WpA.seq fun Kx19 hKx19 => ?_
          refine WpA.seq fun Kx20 hKx20 => ?_
          refine WpA.reg fun all hall => ?_
          repeat ((first | refine aOps_nil ?_ | refine aOps_a rfl rfl rfl ?_); try simp only [go_sem])
          repeat ((first | refine aOps_nil ?_ | refine aOps_a rfl rfl rfl ?_); try simp only [go_sem])
          (apply hKx20; (try clear hKx20 Kx20); try simp only [go_sem])
          (refine WpA.cond rfl (fun hb51 => ?_) (fun hb51 => ?_) <;> try simp only [decide_eq_true_eq, decide_eq_false_iff_not, Bool.not_eq_true', Bool.not_eq_false'] at hb51)
          · skip
            have hi : i < ways.length := by omega
            (refine WpA.skip ?_; try simp only [go_sem])
            (apply hKx19; (try clear hKx19 Kx19); try simp only [go_sem])
            refine WpA.seq fun Kx21 hKx21 => ?_
            refine WpA.block ?_
            refine WpA.seq fun Kx22 hKx22 => ?_
            refine WpA.reg fun all hall => ?_
            repeat ((first | refine aOps_nil ?_ | refine aOps_a rfl rfl rfl ?_); try simp only [go_sem])
            repeat ((first | refine aOps_nil ?_ | refine aOps_a rfl rfl rfl ?_); try simp only [go_sem])
            (apply hKx22; (try clear hKx22 Kx22); try simp only [go_sem])
            refine WpA.block ?_
            refine WpA.iter (fun (k : Nat) => k ≤ i) (fun (k : Nat) => tpl 131 [(0, .pv (.imm (encE l))), (1, .pv (.val (.int .u8 w))), (5, bv true), (8, .bat 0 0), (9, .pv (.imm (encW ways))), (10, iv i), (11, iv k)]) (fun (k : Nat) => [.box 30 (exC l s0)]) (fun (k : Nat) => i - k) 0 (by omega) (by ((try simp only [tpl, List.foldl_cons, List.foldl_nil, List.replicate, List.set_cons_zero, List.set_cons_succ]); repeat (first | exact trivial | refine ⟨.inr rfl, ?_⟩ | refine ⟨.inl rfl, ?_⟩))) rfl ?_
            rintro k hp4
            simp only [tpl, List.foldl_cons, List.foldl_nil, List.replicate, List.set_cons_zero, List.set_cons_succ]
            refine WpA.seq fun Kx23 hKx23 => ?_
            refine WpA.seq fun Kx24 hKx24 => ?_
            refine WpA.reg fun all hall => ?_
            repeat ((first | refine aOps_nil ?_ | refine aOps_a rfl rfl rfl ?_); try simp only [go_sem])
            repeat ((first | refine aOps_nil ?_ | refine aOps_a rfl rfl rfl ?_); try simp only [go_sem])
            (apply hKx24; (try clear hKx24 Kx24); try simp only [go_sem])
            (refine WpA.cond rfl (fun hb56 => ?_) (fun hb56 => ?_) <;> try simp only [decide_eq_true_eq, decide_eq_false_iff_not, Bool.not_eq_true', Bool.not_eq_false'] at hb56)
            · skip
              have hk : k < i := by omega
              (refine WpA.skip ?_; try simp only [go_sem])
              (apply hKx23; (try clear hKx23 Kx23); try simp only [go_sem])
              refine WpA.seq fun Kx25 hKx25 => ?_
              refine WpA.block ?_
              refine WpA.seq fun Kx26 hKx26 => ?_
              refine WpA.regD (0 + 1 + 1 + 1 + 1 + 1 + 1 + 1 + 1) mixed (by kernel_rfl) fun all hall => ?_
              repeat ((first | refine aOps_nil ?_ | refine aOps_a rfl rfl rfl ?_); try simp only [go_sem])
              refine aOps_s rfl rfl (QK.at rfl Try.underlying32 ti27 rfl (by first | exact .inl rfl | exact .inr (.inl rfl) | exact .inr (.inr rfl)) rfl (encW_get hi) rfl ?_)
              try simp only [go_sem]
              repeat ((first | refine aOps_nil ?_ | refine aOps_a rfl rfl rfl ?_); try simp only [go_sem])
              refine aOps_s rfl rfl (QK.at rfl Try.underlying32 ti27 rfl (by first | exact .inl rfl | exact .inr (.inl rfl) | exact .inr (.inr rfl)) rfl (encW_get (show k < ways.length by omega)) rfl ?_)
              try simp only [go_sem]
              repeat ((first | refine aOps_nil ?_ | refine aOps_a rfl rfl rfl ?_); try simp only [go_sem])
              refine aOps_s rfl rfl (QK.call rfl rfl rfl (same_calls _ _) (by repeat' (first | exact ConvL.nil | refine ConvL.cons ?_ ?_ | first | exact Conv.pv _ | exact Conv.imm_bor _ | exact Conv.bor _ | exact Conv.tight_imm _ | exact Conv.tight_bor _ | exact Conv.nil_imm | exact Conv.nil_bor | exact Conv.tight _ | exact Conv.at _ | exact Conv.row _ _ _ _ _ _ rfl (by first | rfl | (simp only [go_sem]; done) | (simp []; done) | (simp []; omega) | omega) | exact Conv.bat _ _ _ _ _ rfl rfl | exact Conv.aggp _ _ rfl | refine Conv.fnL _ ?_ | exact Conv.any _)) ?_)
              try simp only [go_sem]
              repeat ((first | refine aOps_nil ?_ | refine aOps_a rfl rfl rfl ?_); try simp only [go_sem])
              (apply hKx26; (try clear hKx26 Kx26); try simp only [go_sem])
              (refine WpA.cond rfl (fun hb67 => ?_) (fun hb67 => ?_) <;> try simp only [decide_eq_true_eq, decide_eq_false_iff_not, Bool.not_eq_true', Bool.not_eq_false'] at hb67)
              · skip
                rw [hu i k hi (by omega) hk] at hb67; cases hb67
              · skip
                (refine WpA.skip ?_; try simp only [go_sem])
                (apply hKx25; (try clear hKx25 Kx25); try simp only [go_sem])
                refine WpA.reg fun all hall => ?_
                repeat ((first | refine aOps_nil ?_ | refine aOps_a rfl rfl rfl ?_); try simp only [go_sem])
                repeat ((first | refine aOps_nil ?_ | refine aOps_a rfl rfl rfl ?_); try simp only [go_sem])
                rw [wi1 k (by omega)]
                exact ⟨k + 1, ⟨hk, by omega⟩, (by ((try simp only [tpl, List.foldl_cons, List.foldl_nil, List.replicate, List.set_cons_zero, List.set_cons_succ]); repeat (first | exact trivial | refine ⟨.inr rfl, ?_⟩ | refine ⟨.inl rfl, ?_⟩))), rfl⟩
            · skip
              (refine WpA.exit ?_; try simp only [go_sem])
              (apply hKx21; (try clear hKx21 Kx21); try simp only [go_sem])
              refine WpA.reg fun all hall => ?_
              repeat ((first | refine aOps_nil ?_ | refine aOps_a rfl rfl rfl ?_); try simp only [go_sem])
              repeat ((first | refine aOps_nil ?_ | refine aOps_a rfl rfl rfl ?_); try simp only [go_sem])
              rw [wi1 i (by omega)]
              exact ⟨i + 1, ⟨hi, by omega⟩, (by ((try simp only [tpl, List.foldl_cons, List.foldl_nil, List.replicate, List.set_cons_zero, List.set_cons_succ]); repeat (first | exact trivial | refine ⟨.inr rfl, ?_⟩ | refine ⟨.inl rfl, ?_⟩))), rfl⟩
          · skip
            have hi : i = ways.length := by omega
            subst hi
            (refine WpA.exit ?_; try simp only [go_sem])
            (apply hKx17; (try clear hKx17 Kx17); try simp only [go_sem])
            refine WpA.seq fun Kx27 hKx27 => ?_
            refine WpA.reg fun all hall => ?_
            ((first | refine aOps_nil ?_ | refine aOps_a rfl rfl rfl ?_); try simp only [go_sem])
            ((first | refine aOps_nil ?_ | refine aOps_a rfl rfl rfl ?_); try simp only [go_sem])
            rw [wi w (by omega)]
            ((first | refine aOps_nil ?_ | refine aOps_a rfl rfl rfl ?_); try simp only [go_sem])
            ((first | refine aOps_nil ?_ | refine aOps_a rfl rfl rfl ?_); try simp only [go_sem])
            ((first | refine aOps_nil ?_ | refine aOps_a rfl rfl rfl ?_); try simp only [go_sem])
            refine ⟨by omega, ?_⟩
            rw [show Int.tmod (w : Int) (l.length : Int) = ((w % l.length : Nat) : Int) from by rw [Int.tmod_eq_emod_of_nonneg (by omega)]; simp]
            have hx : w % l.length < l.length := Nat.mod_lt _ hl0
            generalize w % l.length = x at hx ⊢
            repeat ((first | refine aOps_nil ?_ | refine aOps_a rfl rfl rfl ?_); try simp only [go_sem])
            repeat ((first | refine aOps_nil ?_ | refine aOps_a rfl rfl rfl ?_); try simp only [go_sem])
            (apply hKx27; (try clear hKx27 Kx27); try simp only [go_sem])
            refine WpA.seq fun Kx28 hKx28 => ?_
            refine WpA.seq fun Kx29 hKx29 => ?_
            refine WpA.reg fun all hall => ?_
            repeat ((first | refine aOps_nil ?_ | refine aOps_a rfl rfl rfl ?_); try simp only [go_sem])
            refine aOps_s rfl rfl (QK.at rfl Try.underlying22 ti25 rfl (by first | exact .inl rfl | exact .inr (.inl rfl) | exact .inr (.inr rfl)) rfl (encE_get hx) rfl ?_)
            try simp only [go_sem]
            repeat ((first | refine aOps_nil ?_ | refine aOps_a rfl rfl rfl ?_); try simp only [go_sem])
            repeat ((first | refine aOps_nil ?_ | refine aOps_a rfl rfl rfl ?_); try simp only [go_sem])
            (apply hKx29; (try clear hKx29 Kx29); try simp only [go_sem])
            (refine WpA.cond rfl (fun hb78 => ?_) (fun hb78 => ?_) <;> try simp only [decide_eq_true_eq, decide_eq_false_iff_not, Bool.not_eq_true', Bool.not_eq_false'] at hb78)
            · skip
              refine WpA.seq fun Kx30 hKx30 => ?_
              refine WpA.reg fun all hall => ?_
              repeat ((first | refine aOps_nil ?_ | refine aOps_a rfl rfl rfl ?_); try simp only [go_sem])
              refine aOps_split (d := 80) rfl (fun hg22_1 => ?_) (fun hg22_1 => ?_) <;> (try simp only [decide_eq_true_eq, decide_eq_false_iff_not] at hg22_1) <;> try simp only [go_sem]
              · skip
                (refine aOps_ya rfl rfl rfl (by rw [hall]; rfl) rfl ?_; try simp only [go_sem])
                (refine aOps_ya rfl rfl rfl (by rw [hall]; rfl) rfl ?_; try simp only [go_sem])
                (refine aOps_ya rfl rfl rfl (by rw [hall]; rfl) rfl ?_; try simp only [go_sem])
                repeat ((first | refine aOps_nil ?_ | refine aOps_a rfl rfl rfl ?_); try simp only [go_sem])
                repeat ((first | refine aOps_nil ?_ | refine aOps_a rfl rfl rfl ?_); try simp only [go_sem])
                (apply hKx30; (try clear hKx30 Kx30); try simp only [go_sem])
                (refine WpA.ret ?_; try simp only [go_sem])
                exact ret_b rfl (by first | rfl | (simp; omega) | simp_all)
              · skip
                (refine aOps_z rfl (by rw [hall]; rfl) rfl ?_; try simp only [go_sem])
                (refine aOps_z rfl (by rw [hall]; rfl) rfl ?_; try simp only [go_sem])
                (refine aOps_z rfl (by rw [hall]; rfl) rfl ?_; try simp only [go_sem])
                repeat ((first | refine aOps_nil ?_ | refine aOps_a rfl rfl rfl ?_); try simp only [go_sem])
                repeat ((first | refine aOps_nil ?_ | refine aOps_a rfl rfl rfl ?_); try simp only [go_sem])
                (apply hKx30; (try clear hKx30 Kx30); try simp only [go_sem])
                (refine WpA.ret ?_; try simp only [go_sem])
                exact ret_b rfl (by first | rfl | (simp; omega) | simp_all)
            · skip
              have hk2 : (l[x].kind == 2) = true := by simpa using hb78
              have hla := hlast x hx hk2
              have hfi := hfirst x hx hk2
              (refine WpA.skip ?_; try simp only [go_sem])
              (apply hKx28; (try clear hKx28 Kx28); try simp only [go_sem])
              refine WpA.seq fun Kx31 hKx31 => ?_
              refine WpA.reg fun all hall => ?_
              repeat ((first | refine aOps_nil ?_ | refine aOps_a rfl rfl rfl ?_); try simp only [go_sem])
              repeat ((first | refine aOps_nil ?_ | refine aOps_a rfl rfl rfl ?_); try simp only [go_sem])
              (apply hKx31; (try clear hKx31 Kx31); try simp only [go_sem])
              refine WpA.seq fun Kx32 hKx32 => ?_
              refine WpA.reg fun all hall => ?_
              repeat ((first | refine aOps_nil ?_ | refine aOps_a rfl rfl rfl ?_); try simp only [go_sem])
              repeat ((first | refine aOps_nil ?_ | refine aOps_a rfl rfl rfl ?_); try simp only [go_sem])
              (apply hKx32; (try clear hKx32 Kx32); try simp only [go_sem])
              refine WpA.seq fun Kx33 hKx33 => ?_
              refine WpA.seq fun Kx34 hKx34 => ?_
              refine WpA.reg fun all hall => ?_
              repeat ((first | refine aOps_nil ?_ | refine aOps_a rfl rfl rfl ?_); try simp only [go_sem])
              repeat ((first | refine aOps_nil ?_ | refine aOps_a rfl rfl rfl ?_); try simp only [go_sem])
              (apply hKx34; (try clear hKx34 Kx34); try simp only [go_sem])
              refine WpA.block ?_
              refine WpA.iter (fun (i : Nat) => i ≤ ways.length) (fun (i : Nat) => tpl 131 [(0, .pv (.imm (encE l))), (5, bv true), (8, .bat 0 0), (9, .pv (.imm (encW ways))), (12, iv x), (13, bv ((ways.take i).any fun co => lastOf co (writesE l l[x].loc) == (x : Int))), (14, bv ((ways.take i).any fun co => lastOf (invR co) (writesE l l[x].loc) == (x : Int))), (15, iv i)]) (fun (i : Nat) => [.box 30 (exC l s0)]) (fun (i : Nat) => ways.length - i) 0 (by omega) (by ((try simp only [tpl, List.foldl_cons, List.foldl_nil, List.replicate, List.set_cons_zero, List.set_cons_succ]); repeat (first | exact trivial | refine ⟨.inr rfl, ?_⟩ | refine ⟨.inl rfl, ?_⟩))) rfl ?_
              rintro i hp6
              simp only [tpl, List.foldl_cons, List.foldl_nil, List.replicate, List.set_cons_zero, List.set_cons_succ]
              refine WpA.seq fun Kx35 hKx35 => ?_
              refine WpA.seq fun Kx36 hKx36 => ?_
              refine WpA.reg fun all hall => ?_
              repeat ((first | refine aOps_nil ?_ | refine aOps_a rfl rfl rfl ?_); try simp only [go_sem])
              repeat ((first | refine aOps_nil ?_ | refine aOps_a rfl rfl rfl ?_); try simp only [go_sem])
              (apply hKx36; (try clear hKx36 Kx36); try simp only [go_sem])
              (refine WpA.cond rfl (fun hb88 => ?_) (fun hb88 => ?_) <;> try simp only [decide_eq_true_eq, decide_eq_false_iff_not, Bool.not_eq_true', Bool.not_eq_false'] at hb88)
              · skip
                have hi : i < ways.length := by omega
                (refine WpA.skip ?_; try simp only [go_sem])
                (apply hKx35; (try clear hKx35 Kx35); try simp only [go_sem])
                refine WpA.seq fun Kx37 hKx37 => ?_
                refine WpA.block ?_
                refine WpA.seq fun Kx38 hKx38 => ?_
                refine WpA.regD (0 + 1 + 1 + 1 + 1 + 1 + 1 + 1 + 1 + 1 + 1 + 1 + 1 + 1 + 1) mixed (by kernel_rfl) fun all hall => ?_
                repeat ((first | refine aOps_nil ?_ | refine aOps_a rfl rfl rfl ?_); try simp only [go_sem])
                refine aOps_split (d := 92) rfl (fun hg28_1 => ?_) (fun hg28_1 => ?_) <;> (try simp only [decide_eq_true_eq, decide_eq_false_iff_not] at hg28_1) <;> try simp only [go_sem]
                · skip
                  (refine aOps_z rfl (by rw [hall]; rfl) rfl ?_; try simp only [go_sem])
                  (refine aOps_z rfl (by rw [hall]; rfl) rfl ?_; try simp only [go_sem])
                  (refine aOps_z rfl (by rw [hall]; rfl) rfl ?_; try simp only [go_sem])
                  (refine aOps_z rfl (by rw [hall]; rfl) rfl ?_; try simp only [go_sem])
                  (refine aOps_z rfl (by rw [hall]; rfl) rfl ?_; try simp only [go_sem])
                  (refine aOps_z rfl (by rw [hall]; rfl) rfl ?_; try simp only [go_sem])
                  (refine aOps_z rfl (by rw [hall]; rfl) rfl ?_; try simp only [go_sem])
                  (refine aOps_z rfl (by rw [hall]; rfl) rfl ?_; try simp only [go_sem])
                  (refine aOps_z rfl (by rw [hall]; rfl) rfl ?_; try simp only [go_sem])
                  (refine aOps_z rfl (by rw [hall]; rfl) rfl ?_; try simp only [go_sem])
                  (refine aOps_z rfl (by rw [hall]; rfl) rfl ?_; try simp only [go_sem])
                  (refine aOps_z rfl (by rw [hall]; rfl) rfl ?_; try simp only [go_sem])
                  (refine aOps_z rfl (by rw [hall]; rfl) rfl ?_; try simp only [go_sem])
                  repeat ((first | refine aOps_nil ?_ | refine aOps_a rfl rfl rfl ?_); try simp only [go_sem])
                  repeat ((first | refine aOps_nil ?_ | refine aOps_a rfl rfl rfl ?_); try simp only [go_sem])
                  (apply hKx38; (try clear hKx38 Kx38); try simp only [go_sem])
                  refine WpA.regD (0 + 1 + 1 + 1 + 1 + 1 + 1 + 1 + 1 + 1 + 1 + 1 + 1 + 1 + 1 + 1) mixed (by kernel_rfl) fun all hall => ?_
                  repeat ((first | refine aOps_nil ?_ | refine aOps_a rfl rfl rfl ?_); try simp only [go_sem])
                  refine aOps_split (d := 108) rfl (fun hg29_1 => ?_) (fun hg29_1 => ?_) <;> (try simp only [decide_eq_true_eq, decide_eq_false_iff_not] at hg29_1) <;> try simp only [go_sem]
                  · skip
                    (refine aOps_z rfl (by rw [hall]; rfl) rfl ?_; try simp only [go_sem])
                    (refine aOps_z rfl (by rw [hall]; rfl) rfl ?_; try simp only [go_sem])
                    (refine aOps_z rfl (by rw [hall]; rfl) rfl ?_; try simp only [go_sem])
                    (refine aOps_z rfl (by rw [hall]; rfl) rfl ?_; try simp only [go_sem])
                    (refine aOps_z rfl (by rw [hall]; rfl) rfl ?_; try simp only [go_sem])
                    (refine aOps_z rfl (by rw [hall]; rfl) rfl ?_; try simp only [go_sem])
                    (refine aOps_z rfl (by rw [hall]; rfl) rfl ?_; try simp only [go_sem])
                    (refine aOps_z rfl (by rw [hall]; rfl) rfl ?_; try simp only [go_sem])
                    (refine aOps_z rfl (by rw [hall]; rfl) rfl ?_; try simp only [go_sem])
                    (refine aOps_z rfl (by rw [hall]; rfl) rfl ?_; try simp only [go_sem])
                    (refine aOps_z rfl (by rw [hall]; rfl) rfl ?_; try simp only [go_sem])
                    (refine aOps_z rfl (by rw [hall]; rfl) rfl ?_; try simp only [go_sem])
                    (refine aOps_z rfl (by rw [hall]; rfl) rfl ?_; try simp only [go_sem])
                    (refine aOps_z rfl (by rw [hall]; rfl) rfl ?_; try simp only [go_sem])
                    repeat ((first | refine aOps_nil ?_ | refine aOps_a rfl rfl rfl ?_); try simp only [go_sem])
                    repeat ((first | refine aOps_nil ?_ | refine aOps_a rfl rfl rfl ?_); try simp only [go_sem])
                    (apply hKx37; (try clear hKx37 Kx37); try simp only [go_sem])
                    refine WpA.reg fun all hall => ?_
                    repeat ((first | refine aOps_nil ?_ | refine aOps_a rfl rfl rfl ?_); try simp only [go_sem])
                    repeat ((first | refine aOps_nil ?_ | refine aOps_a rfl rfl rfl ?_); try simp only [go_sem])
                    rw [wi1 i (by omega)]
                    exact ⟨i + 1, ⟨hi, by omega⟩, (by rw [any_take _ _ hi, any_take _ _ hi, hg28_1, hg29_1]; simp only [Bool.true_or, Bool.false_or]; ((try simp only [tpl, List.foldl_cons, List.foldl_nil, List.replicate, List.set_cons_zero, List.set_cons_succ]); repeat (first | exact trivial | refine ⟨.inr rfl, ?_⟩ | refine ⟨.inl rfl, ?_⟩))), rfl⟩
                  · skip
                    (refine aOps_ya rfl rfl rfl (by rw [hall]; rfl) rfl ?_; try simp only [go_sem])
                    (refine aOps_ya rfl rfl rfl (by rw [hall]; rfl) rfl ?_; try simp only [go_sem])
                    (refine aOps_ya rfl rfl rfl (by rw [hall]; rfl) rfl ?_; try simp only [go_sem])
                    refine aOps_y rfl rfl (by rw [hall]; rfl) rfl (QK.at rfl Try.underlying32 ti27 rfl (by first | exact .inl rfl | exact .inr (.inl rfl) | exact .inr (.inr rfl)) rfl (encW_get hi) rfl ?_)
                    try simp only [go_sem]
                    (refine aOps_ya rfl rfl rfl (by rw [hall]; rfl) rfl ?_; try simp only [go_sem])
                    refine aOps_y rfl rfl (by rw [hall]; rfl) rfl (QK.call rfl rfl rfl (inv_imm ways[i]) (by repeat' (first | exact ConvL.nil | refine ConvL.cons ?_ ?_ | first | exact Conv.pv _ | exact Conv.imm_bor _ | exact Conv.bor _ | exact Conv.tight_imm _ | exact Conv.tight_bor _ | exact Conv.nil_imm | exact Conv.nil_bor | exact Conv.tight _ | exact Conv.at _ | exact Conv.row _ _ _ _ _ _ rfl (by first | rfl | (simp only [go_sem]; done) | (simp []; done) | (simp []; omega) | omega) | exact Conv.bat _ _ _ _ _ rfl rfl | exact Conv.aggp _ _ rfl | refine Conv.fnL _ ?_ | exact Conv.any _)) ?_)
                    try simp only [go_sem]
                    (refine aOps_ya rfl rfl rfl (by rw [hall]; rfl) rfl ?_; try simp only [go_sem])
                    (refine aOps_ya rfl rfl rfl (by rw [hall]; rfl) rfl ?_; try simp only [go_sem])
                    refine aOps_y rfl rfl (by rw [hall]; rfl) rfl (QK.at rfl Try.underlying22 ti25 rfl (by first | exact .inl rfl | exact .inr (.inl rfl) | exact .inr (.inr rfl)) rfl (encE_get hx) rfl ?_)
                    try simp only [go_sem]
                    (refine aOps_ya rfl rfl rfl (by rw [hall]; rfl) rfl ?_; try simp only [go_sem])
                    (refine aOps_ya rfl rfl rfl (by rw [hall]; rfl) rfl ?_; try simp only [go_sem])
                    refine aOps_y rfl rfl (by rw [hall]; rfl) rfl (QK.call rfl rfl rfl (last_calls l s0 (invR ways[i]) l[x].loc (by omega)) (by repeat' (first | exact ConvL.nil | refine ConvL.cons ?_ ?_ | first | exact Conv.pv _ | exact Conv.imm_bor _ | exact Conv.bor _ | exact Conv.tight_imm _ | exact Conv.tight_bor _ | exact Conv.nil_imm | exact Conv.nil_bor | exact Conv.tight _ | exact Conv.at _ | exact Conv.row _ _ _ _ _ _ rfl (by first | rfl | (simp only [go_sem]; done) | (simp []; done) | (simp []; omega) | omega) | exact Conv.bat _ _ _ _ _ rfl rfl | exact Conv.aggp _ _ rfl | refine Conv.fnL _ ?_ | exact Conv.any _)) ?_)
                    try simp only [go_sem]
                    (refine aOps_ya rfl rfl rfl (by rw [hall]; rfl) rfl ?_; try simp only [go_sem])
                    (refine aOps_ya rfl rfl rfl (by rw [hall]; rfl) rfl ?_; try simp only [go_sem])
                    repeat ((first | refine aOps_nil ?_ | refine aOps_a rfl rfl rfl ?_); try simp only [go_sem])
                    repeat ((first | refine aOps_nil ?_ | refine aOps_a rfl rfl rfl ?_); try simp only [go_sem])
                    (apply hKx37; (try clear hKx37 Kx37); try simp only [go_sem])
                    refine WpA.reg fun all hall => ?_
                    repeat ((first | refine aOps_nil ?_ | refine aOps_a rfl rfl rfl ?_); try simp only [go_sem])
                    repeat ((first | refine aOps_nil ?_ | refine aOps_a rfl rfl rfl ?_); try simp only [go_sem])
                    rw [wi1 i (by omega)]
                    exact ⟨i + 1, ⟨hi, by omega⟩, (by rw [any_take _ _ hi, any_take _ _ hi, hg28_1, hg29_1]; simp only [Bool.true_or, Bool.false_or]; ((try simp only [tpl, List.foldl_cons, List.foldl_nil, List.replicate, List.set_cons_zero, List.set_cons_succ]); repeat (first | exact trivial | refine ⟨.inr rfl, ?_⟩ | refine ⟨.inl rfl, ?_⟩))), rfl⟩
                · skip
                  (refine aOps_ya rfl rfl rfl (by rw [hall]; rfl) rfl ?_; try simp only [go_sem])
                  (refine aOps_ya rfl rfl rfl (by rw [hall]; rfl) rfl ?_; try simp only [go_sem])
                  (refine aOps_ya rfl rfl rfl (by rw [hall]; rfl) rfl ?_; try simp only [go_sem])
                  refine aOps_y rfl rfl (by rw [hall]; rfl) rfl (QK.at rfl Try.underlying32 ti27 rfl (by first | exact .inl rfl | exact .inr (.inl rfl) | exact .inr (.inr rfl)) rfl (encW_get hi) rfl ?_)
                  try simp only [go_sem]
                  (refine aOps_ya rfl rfl rfl (by rw [hall]; rfl) rfl ?_; try simp only [go_sem])
                  (refine aOps_ya rfl rfl rfl (by rw [hall]; rfl) rfl ?_; try simp only [go_sem])
                  (refine aOps_ya rfl rfl rfl (by rw [hall]; rfl) rfl ?_; try simp only [go_sem])
                  refine aOps_y rfl rfl (by rw [hall]; rfl) rfl (QK.at rfl Try.underlying22 ti25 rfl (by first | exact .inl rfl | exact .inr (.inl rfl) | exact .inr (.inr rfl)) rfl (encE_get hx) rfl ?_)
                  try simp only [go_sem]
                  (refine aOps_ya rfl rfl rfl (by rw [hall]; rfl) rfl ?_; try simp only [go_sem])
                  (refine aOps_ya rfl rfl rfl (by rw [hall]; rfl) rfl ?_; try simp only [go_sem])
                  refine aOps_y rfl rfl (by rw [hall]; rfl) rfl (QK.call rfl rfl rfl (last_calls l s0 ways[i] l[x].loc (by omega)) (by repeat' (first | exact ConvL.nil | refine ConvL.cons ?_ ?_ | first | exact Conv.pv _ | exact Conv.imm_bor _ | exact Conv.bor _ | exact Conv.tight_imm _ | exact Conv.tight_bor _ | exact Conv.nil_imm | exact Conv.nil_bor | exact Conv.tight _ | exact Conv.at _ | exact Conv.row _ _ _ _ _ _ rfl (by first | rfl | (simp only [go_sem]; done) | (simp []; done) | (simp []; omega) | omega) | exact Conv.bat _ _ _ _ _ rfl rfl | exact Conv.aggp _ _ rfl | refine Conv.fnL _ ?_ | exact Conv.any _)) ?_)
                  try simp only [go_sem]
                  (refine aOps_ya rfl rfl rfl (by rw [hall]; rfl) rfl ?_; try simp only [go_sem])
                  (refine aOps_ya rfl rfl rfl (by rw [hall]; rfl) rfl ?_; try simp only [go_sem])
                  repeat ((first | refine aOps_nil ?_ | refine aOps_a rfl rfl rfl ?_); try simp only [go_sem])
                  repeat ((first | refine aOps_nil ?_ | refine aOps_a rfl rfl rfl ?_); try simp only [go_sem])
                  (apply hKx38; (try clear hKx38 Kx38); try simp only [go_sem])
                  refine WpA.regD (0 + 1 + 1 + 1 + 1 + 1 + 1 + 1 + 1 + 1 + 1 + 1 + 1 + 1 + 1 + 1) mixed (by kernel_rfl) fun all hall => ?_
                  repeat ((first | refine aOps_nil ?_ | refine aOps_a rfl rfl rfl ?_); try simp only [go_sem])
                  refine aOps_split (d := 108) rfl (fun hg29_1 => ?_) (fun hg29_1 => ?_) <;> (try simp only [decide_eq_true_eq, decide_eq_false_iff_not] at hg29_1) <;> try simp only [go_sem]
                  · skip
                    (refine aOps_z rfl (by rw [hall]; rfl) rfl ?_; try simp only [go_sem])
                    (refine aOps_z rfl (by rw [hall]; rfl) rfl ?_; try simp only [go_sem])
                    (refine aOps_z rfl (by rw [hall]; rfl) rfl ?_; try simp only [go_sem])
                    (refine aOps_z rfl (by rw [hall]; rfl) rfl ?_; try simp only [go_sem])
                    (refine aOps_z rfl (by rw [hall]; rfl) rfl ?_; try simp only [go_sem])
                    (refine aOps_z rfl (by rw [hall]; rfl) rfl ?_; try simp only [go_sem])
                    (refine aOps_z rfl (by rw [hall]; rfl) rfl ?_; try simp only [go_sem])
                    (refine aOps_z rfl (by rw [hall]; rfl) rfl ?_; try simp only [go_sem])
                    (refine aOps_z rfl (by rw [hall]; rfl) rfl ?_; try simp only [go_sem])
                    (refine aOps_z rfl (by rw [hall]; rfl) rfl ?_; try simp only [go_sem])
                    (refine aOps_z rfl (by rw [hall]; rfl) rfl ?_; try simp only [go_sem])
                    (refine aOps_z rfl (by rw [hall]; rfl) rfl ?_; try simp only [go_sem])
                    (refine aOps_z rfl (by rw [hall]; rfl) rfl ?_; try simp only [go_sem])
                    (refine aOps_z rfl (by rw [hall]; rfl) rfl ?_; try simp only [go_sem])
                    repeat ((first | refine aOps_nil ?_ | refine aOps_a rfl rfl rfl ?_); try simp only [go_sem])
                    repeat ((first | refine aOps_nil ?_ | refine aOps_a rfl rfl rfl ?_); try simp only [go_sem])
                    (apply hKx37; (try clear hKx37 Kx37); try simp only [go_sem])
                    refine WpA.reg fun all hall => ?_
                    repeat ((first | refine aOps_nil ?_ | refine aOps_a rfl rfl rfl ?_); try simp only [go_sem])
                    repeat ((first | refine aOps_nil ?_ | refine aOps_a rfl rfl rfl ?_); try simp only [go_sem])
                    rw [wi1 i (by omega)]
                    exact ⟨i + 1, ⟨hi, by omega⟩, (by rw [any_take _ _ hi, any_take _ _ hi, hg28_1, hg29_1]; simp only [Bool.true_or, Bool.false_or]; ((try simp only [tpl, List.foldl_cons, List.foldl_nil, List.replicate, List.set_cons_zero, List.set_cons_succ]); repeat (first | exact trivial | refine ⟨.inr rfl, ?_⟩ | refine ⟨.inl rfl, ?_⟩))), rfl⟩
                  · skip
                    (refine aOps_ya rfl rfl rfl (by rw [hall]; rfl) rfl ?_; try simp only [go_sem])
                    (refine aOps_ya rfl rfl rfl (by rw [hall]; rfl) rfl ?_; try simp only [go_sem])
                    (refine aOps_ya rfl rfl rfl (by rw [hall]; rfl) rfl ?_; try simp only [go_sem])
                    refine aOps_y rfl rfl (by rw [hall]; rfl) rfl (QK.at rfl Try.underlying32 ti27 rfl (by first | exact .inl rfl | exact .inr (.inl rfl) | exact .inr (.inr rfl)) rfl (encW_get hi) rfl ?_)
                    try simp only [go_sem]
                    (refine aOps_ya rfl rfl rfl (by rw [hall]; rfl) rfl ?_; try simp only [go_sem])
                    refine aOps_y rfl rfl (by rw [hall]; rfl) rfl (QK.call rfl rfl rfl (inv_imm ways[i]) (by repeat' (first | exact ConvL.nil | refine ConvL.cons ?_ ?_ | first | exact Conv.pv _ | exact Conv.imm_bor _ | exact Conv.bor _ | exact Conv.tight_imm _ | exact Conv.tight_bor _ | exact Conv.nil_imm | exact Conv.nil_bor | exact Conv.tight _ | exact Conv.at _ | exact Conv.row _ _ _ _ _ _ rfl (by first | rfl | (simp only [go_sem]; done) | (simp []; done) | (simp []; omega) | omega) | exact Conv.bat _ _ _ _ _ rfl rfl | exact Conv.aggp _ _ rfl | refine Conv.fnL _ ?_ | exact Conv.any _)) ?_)
                    try simp only [go_sem]
                    (refine aOps_ya rfl rfl rfl (by rw [hall]; rfl) rfl ?_; try simp only [go_sem])
                    (refine aOps_ya rfl rfl rfl (by rw [hall]; rfl) rfl ?_; try simp only [go_sem])
                    refine aOps_y rfl rfl (by rw [hall]; rfl) rfl (QK.at rfl Try.underlying22 ti25 rfl (by first | exact .inl rfl | exact .inr (.inl rfl) | exact .inr (.inr rfl)) rfl (encE_get hx) rfl ?_)
                    try simp only [go_sem]
                    (refine aOps_ya rfl rfl rfl (by rw [hall]; rfl) rfl ?_; try simp only [go_sem])
                    (refine aOps_ya rfl rfl rfl (by rw [hall]; rfl) rfl ?_; try simp only [go_sem])
                    refine aOps_y rfl rfl (by rw [hall]; rfl) rfl (QK.call rfl rfl rfl (last_calls l s0 (invR ways[i]) l[x].loc (by omega)) (by repeat' (first | exact ConvL.nil | refine ConvL.cons ?_ ?_ | first | exact Conv.pv _ | exact Conv.imm_bor _ | exact Conv.bor _ | exact Conv.tight_imm _ | exact Conv.tight_bor _ | exact Conv.nil_imm | exact Conv.nil_bor | exact Conv.tight _ | exact Conv.at _ | exact Conv.row _ _ _ _ _ _ rfl (by first | rfl | (simp only [go_sem]; done) | (simp []; done) | (simp []; omega) | omega) | exact Conv.bat _ _ _ _ _ rfl rfl | exact Conv.aggp _ _ rfl | refine Conv.fnL _ ?_ | exact Conv.any _)) ?_)
                    try simp only [go_sem]
                    (refine aOps_ya rfl rfl rfl (by rw [hall]; rfl) rfl ?_; try simp only [go_sem])
                    (refine aOps_ya rfl rfl rfl (by rw [hall]; rfl) rfl ?_; try simp only [go_sem])
                    repeat ((first | refine aOps_nil ?_ | refine aOps_a rfl rfl rfl ?_); try simp only [go_sem])
                    repeat ((first | refine aOps_nil ?_ | refine aOps_a rfl rfl rfl ?_); try simp only [go_sem])
                    (apply hKx37; (try clear hKx37 Kx37); try simp only [go_sem])
                    refine WpA.reg fun all hall => ?_
                    repeat ((first | refine aOps_nil ?_ | refine aOps_a rfl rfl rfl ?_); try simp only [go_sem])
                    repeat ((first | refine aOps_nil ?_ | refine aOps_a rfl rfl rfl ?_); try simp only [go_sem])
                    rw [wi1 i (by omega)]
                    exact ⟨i + 1, ⟨hi, by omega⟩, (by rw [any_take _ _ hi, any_take _ _ hi, hg28_1, hg29_1]; simp only [Bool.true_or, Bool.false_or]; ((try simp only [tpl, List.foldl_cons, List.foldl_nil, List.replicate, List.set_cons_zero, List.set_cons_succ]); repeat (first | exact trivial | refine ⟨.inr rfl, ?_⟩ | refine ⟨.inl rfl, ?_⟩))), rfl⟩
              · skip
                have hi : i = ways.length := by omega
                subst hi
                rw [List.take_of_length_le (Nat.le_refl _), hla, hfi]
                (refine WpA.exit ?_; try simp only [go_sem])
                (apply hKx33; (try clear hKx33 Kx33); try simp only [go_sem])
                refine WpA.seq fun Kx39 hKx39 => ?_
                refine WpA.reg fun all hall => ?_
                repeat ((first | refine aOps_nil ?_ | refine aOps_a rfl rfl rfl ?_); try simp only [go_sem])
                refine aOps_split (d := 125) rfl (fun hg30_1 => ?_) (fun hg30_1 => ?_) <;> (try simp only [decide_eq_true_eq, decide_eq_false_iff_not] at hg30_1) <;> try simp only [go_sem]
                · skip
                  (refine aOps_ya rfl rfl rfl (by rw [hall]; rfl) rfl ?_; try simp only [go_sem])
                  repeat ((first | refine aOps_nil ?_ | refine aOps_a rfl rfl rfl ?_); try simp only [go_sem])
                  refine aOps_split (d := 128) rfl (fun hg30_4 => ?_) (fun hg30_4 => ?_) <;> (try simp only [decide_eq_true_eq, decide_eq_false_iff_not] at hg30_4) <;> try simp only [go_sem]
                  · skip
                    (refine aOps_ya rfl rfl rfl (by rw [hall]; rfl) rfl ?_; try simp only [go_sem])
                    repeat ((first | refine aOps_nil ?_ | refine aOps_a rfl rfl rfl ?_); try simp only [go_sem])
                    repeat ((first | refine aOps_nil ?_ | refine aOps_a rfl rfl rfl ?_); try simp only [go_sem])
                    (apply hKx39; (try clear hKx39 Kx39); try simp only [go_sem])
                    (refine WpA.ret ?_; try simp only [go_sem])
                    exact ret_b rfl rfl
                  · skip
                    exact absurd hg30_4 (by decide)
                · skip
                  exact absurd hg30_1 (by decide)
end Go.Proofs.Ytfpbdphdahfgbaa
