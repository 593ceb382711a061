/- The last write of a place; memory at the end; does an order fit. -/
import Derived.Test.YtfpbdphdahfgbaaO5
namespace Go.Proofs.Ytfpbdphdahfgbaa
open Go Go.RowKit Go.Proofs.Ytfpbdphdahfgbaa.Fw

attribute [go_sem] Try.underlying2
def lastIs (co : List (BitVec 32)) (ws : List Int) (w : Int) : Bool := ws.all fun x => !hasR co w x
def lastOf (co : List (BitVec 32)) (ws : List Int) : Int := (ws.find? (lastIs co ws)).getD (-1)
def lastE (l : List Ev) (co : List (BitVec 32)) (loc : Int) : Int := lastOf co (writesE l loc)

theorem find_at {α : Type} {p : α → Bool} : ∀ {l : List α} {k : Nat} (hk : k < l.length), p l[k] = true → (∀ i, (hi : i < k) → p (l[i]'(by omega)) = false) → l.find? p = some l[k]
  | x :: l, 0, hk, h, _ => by simp at h ⊢; simp [h]
  | x :: l, k + 1, hk, h, hn => by
    have h1 := hn 0 (by omega)
    simp at h1
    rw [List.find?_cons_of_neg (by simp [h1])]
    exact find_at (by simpa using hk) (by simpa using h) (fun i hi => by have := hn (i + 1) (by omega); simpa using this)
theorem find_no {α : Type} {p : α → Bool} {l : List α} (h : ∀ i, (hi : i < l.length) → p l[i] = false) : l.find? p = none := by
  rw [List.find?_eq_none]
  intro x hx
  obtain ⟨i, hi, rfl⟩ := List.getElem_of_mem hx
  simp [h i hi]

set_option maxHeartbeats 4000000 in
theorem last_calls (l : List Ev) (s : Six) (co : List (BitVec 32)) (loc : Int) (hl : l.length ≤ 1000) : PCalls Try.prog 15 [exA l s, .bor (encU co), iv loc] (.val (iv (lastOf co (writesE l loc)))) := by
  refine PCalls.of_body Try.func15 rfl rfl Try.ntmps15 Try.results15 ?_
  simp only [go_sem, List.replicate]
  have hwl : (writesE l loc).length ≤ 1000 := by have := writesTo_len l loc l.length; unfold writesE; omega
  have hcall := writes_calls l s loc hl
  generalize writesE l loc = ws at hwl hcall ⊢
  refine WpA.seq fun Kx1 hKx1 => ?_
  refine WpA.reg fun all hall => ?_
  repeat ((first | refine aOps_nil ?_ | refine aOps_a rfl rfl rfl ?_); try simp only [go_sem])
  repeat ((first | refine aOps_nil ?_ | refine aOps_a rfl rfl rfl ?_); try simp only [go_sem])
  (apply hKx1; (try clear hKx1 Kx1); try simp only [go_sem])
  refine WpA.scope ?_
  refine WpA.seq fun Kx2 hKx2 => ?_
  refine WpA.reg fun all hall => ?_
  repeat ((first | refine aOps_nil ?_ | refine aOps_a rfl rfl rfl ?_); try simp only [go_sem])
  refine aOps_s rfl rfl (QK.call rfl rfl rfl hcall (by repeat' (first | exact ConvL.nil | refine ConvL.cons ?_ ?_ | first | exact Conv.pv _ | exact Conv.imm_bor _ | exact Conv.bor _ | exact Conv.tight_imm _ | exact Conv.tight_bor _ | exact Conv.nil_imm | exact Conv.nil_bor | exact Conv.tight _ | exact Conv.at _ | exact Conv.row _ _ _ _ _ _ rfl (by first | rfl | (simp only [go_sem]; done) | (simp []; done) | (simp []; omega) | omega) | exact Conv.bat _ _ _ _ _ rfl rfl | exact Conv.aggp _ _ rfl | refine Conv.fnL _ ?_ | exact Conv.any _)) ?_)
  try simp only [go_sem]
  repeat ((first | refine aOps_nil ?_ | refine aOps_a rfl rfl rfl ?_); try simp only [go_sem])
  repeat ((first | refine aOps_nil ?_ | refine aOps_a rfl rfl rfl ?_); try simp only [go_sem])
  (apply hKx2; (try clear hKx2 Kx2); try simp only [go_sem])
  refine WpA.seq fun Kx3 hKx3 => ?_
  refine WpA.label ?_
  try simp only [go_sem]
  (apply hKx3; (try clear hKx3 Kx3); try simp only [go_sem])
  refine WpA.seq fun Kx4 hKx4 => ?_
  refine WpA.seq fun Kx5 hKx5 => ?_
  refine WpA.reg fun all hall => ?_
  repeat ((first | refine aOps_nil ?_ | refine aOps_a rfl rfl rfl ?_); try simp only [go_sem])
  repeat ((first | refine aOps_nil ?_ | refine aOps_a rfl rfl rfl ?_); try simp only [go_sem])
  (apply hKx5; (try clear hKx5 Kx5); try simp only [go_sem])
  refine WpA.block ?_
  refine WpA.iter (fun (k : Nat) => k ≤ ws.length ∧ ∀ i, (hi : i < ws.length) → i < k → lastIs co ws ws[i] = false) (fun (k : Nat) => tpl 34 [(1, .bor (encU co)), (7, .pv (.imm (encZ ws))), (15, .pv (.imm (encZ ws))), (16, iv ws.length), (17, iv k)]) (fun (k : Nat) => [.box 30 (exC l s)]) (fun (k : Nat) => ws.length - k) 0 ⟨Nat.zero_le _, fun i _ h => by omega⟩ (by ((try simp only [tpl, List.foldl_cons, List.foldl_nil, List.replicate, List.set_cons_zero, List.set_cons_succ]); repeat (first | exact trivial | refine ⟨.inr rfl, ?_⟩ | refine ⟨.inl rfl, ?_⟩))) rfl ?_
  rintro k hp0
  simp only [tpl, List.foldl_cons, List.foldl_nil, List.replicate, List.set_cons_zero, List.set_cons_succ]
  refine WpA.seq fun Kx6 hKx6 => ?_
  refine WpA.reg fun all hall => ?_
  repeat ((first | refine aOps_nil ?_ | refine aOps_a rfl rfl rfl ?_); try simp only [go_sem])
  repeat ((first | refine aOps_nil ?_ | refine aOps_a rfl rfl rfl ?_); try simp only [go_sem])
  (apply hKx6; (try clear hKx6 Kx6); try simp only [go_sem])
  refine WpA.seq fun Kx7 hKx7 => ?_
  (refine WpA.cond rfl (fun hb18 => ?_) (fun hb18 => ?_) <;> try simp only [decide_eq_true_eq, decide_eq_false_iff_not, Bool.not_eq_true', Bool.not_eq_false'] at hb18)
  · skip
    have hk : k < ws.length := by omega
    (refine WpA.skip ?_; try simp only [go_sem])
    (apply hKx7; (try clear hKx7 Kx7); try simp only [go_sem])
    refine WpA.seq fun Kx8 hKx8 => ?_
    refine WpA.block ?_
    refine WpA.seq fun Kx9 hKx9 => ?_
    refine WpA.reg fun all hall => ?_
    refine aOps_s rfl rfl (QK.at rfl Try.underlying39 ti3 rfl (by first | exact .inl rfl | exact .inr (.inl rfl) | exact .inr (.inr rfl)) rfl (encZ_get hk) rfl ?_)
    try simp only [go_sem]
    repeat ((first | refine aOps_nil ?_ | refine aOps_a rfl rfl rfl ?_); try simp only [go_sem])
    repeat ((first | refine aOps_nil ?_ | refine aOps_a rfl rfl rfl ?_); try simp only [go_sem])
    (apply hKx9; (try clear hKx9 Kx9); try simp only [go_sem])
    refine WpA.seq fun Kx10 hKx10 => ?_
    refine WpA.seq fun Kx11 hKx11 => ?_
    refine WpA.reg fun all hall => ?_
    repeat ((first | refine aOps_nil ?_ | refine aOps_a rfl rfl rfl ?_); try simp only [go_sem])
    repeat ((first | refine aOps_nil ?_ | refine aOps_a rfl rfl rfl ?_); try simp only [go_sem])
    (apply hKx11; (try clear hKx11 Kx11); try simp only [go_sem])
    refine WpA.block ?_
    refine WpA.iter (fun (j : Nat) => j ≤ ws.length ∧ ∀ i, (hi : i < ws.length) → i < j → hasR co ws[k] ws[i] = false) (fun (j : Nat) => tpl 34 [(1, .bor (encU co)), (7, .pv (.imm (encZ ws))), (9, iv ws[k]), (15, .pv (.imm (encZ ws))), (16, iv ws.length), (17, iv k), (21, .pv (.imm (encZ ws))), (22, iv ws.length), (23, iv j)]) (fun (j : Nat) => [.box 30 (exC l s)]) (fun (j : Nat) => ws.length - j) 0 ⟨Nat.zero_le _, fun i _ h => by omega⟩ (by ((try simp only [tpl, List.foldl_cons, List.foldl_nil, List.replicate, List.set_cons_zero, List.set_cons_succ]); repeat (first | exact trivial | refine ⟨.inr rfl, ?_⟩ | refine ⟨.inl rfl, ?_⟩))) rfl ?_
    rintro j hp2
    simp only [tpl, List.foldl_cons, List.foldl_nil, List.replicate, List.set_cons_zero, List.set_cons_succ]
    refine WpA.seq fun Kx12 hKx12 => ?_
    refine WpA.reg fun all hall => ?_
    repeat ((first | refine aOps_nil ?_ | refine aOps_a rfl rfl rfl ?_); try simp only [go_sem])
    repeat ((first | refine aOps_nil ?_ | refine aOps_a rfl rfl rfl ?_); try simp only [go_sem])
    (apply hKx12; (try clear hKx12 Kx12); try simp only [go_sem])
    refine WpA.seq fun Kx13 hKx13 => ?_
    (refine WpA.cond rfl (fun hb24 => ?_) (fun hb24 => ?_) <;> try simp only [decide_eq_true_eq, decide_eq_false_iff_not, Bool.not_eq_true', Bool.not_eq_false'] at hb24)
    · skip
      have hj : j < ws.length := by omega
      (refine WpA.skip ?_; try simp only [go_sem])
      (apply hKx13; (try clear hKx13 Kx13); try simp only [go_sem])
      refine WpA.seq fun Kx14 hKx14 => ?_
      refine WpA.block ?_
      refine WpA.seq fun Kx15 hKx15 => ?_
      refine WpA.reg fun all hall => ?_
      refine aOps_s rfl rfl (QK.at rfl Try.underlying39 ti3 rfl (by first | exact .inl rfl | exact .inr (.inl rfl) | exact .inr (.inr rfl)) rfl (encZ_get hj) rfl ?_)
      try simp only [go_sem]
      repeat ((first | refine aOps_nil ?_ | refine aOps_a rfl rfl rfl ?_); try simp only [go_sem])
      repeat ((first | refine aOps_nil ?_ | refine aOps_a rfl rfl rfl ?_); try simp only [go_sem])
      (apply hKx15; (try clear hKx15 Kx15); try simp only [go_sem])
      refine WpA.seq fun Kx16 hKx16 => ?_
      refine WpA.reg fun all hall => ?_
      repeat ((first | refine aOps_nil ?_ | refine aOps_a rfl rfl rfl ?_); try simp only [go_sem])
      refine aOps_s rfl rfl (QK.call rfl rfl rfl (has_calls co ws[k] ws[j]) (by repeat' (first | exact ConvL.nil | refine ConvL.cons ?_ ?_ | first | exact Conv.pv _ | exact Conv.imm_bor _ | exact Conv.bor _ | exact Conv.tight_imm _ | exact Conv.tight_bor _ | exact Conv.nil_imm | exact Conv.nil_bor | exact Conv.tight _ | exact Conv.at _ | exact Conv.row _ _ _ _ _ _ rfl (by first | rfl | (simp only [go_sem]; done) | (simp []; done) | (simp []; omega) | omega) | exact Conv.bat _ _ _ _ _ rfl rfl | exact Conv.aggp _ _ rfl | refine Conv.fnL _ ?_ | exact Conv.any _)) ?_)
      try simp only [go_sem]
      repeat ((first | refine aOps_nil ?_ | refine aOps_a rfl rfl rfl ?_); try simp only [go_sem])
      (apply hKx16; (try clear hKx16 Kx16); try simp only [go_sem])
      (refine WpA.cond rfl (fun hb30 => ?_) (fun hb30 => ?_) <;> try simp only [decide_eq_true_eq, decide_eq_false_iff_not, Bool.not_eq_true', Bool.not_eq_false'] at hb30)
      · skip
        have hno : lastIs co ws ws[k] = false := by rw [lastIs, List.all_eq_false]; exact ⟨ws[j], List.getElem_mem hj, by simp [hb30]⟩
        (refine WpA.exit ?_; try simp only [go_sem])
        (apply hKx8; (try clear hKx8 Kx8); try simp only [go_sem])
        refine WpA.reg fun all hall => ?_
        repeat ((first | refine aOps_nil ?_ | refine aOps_a rfl rfl rfl ?_); try simp only [go_sem])
        repeat ((first | refine aOps_nil ?_ | refine aOps_a rfl rfl rfl ?_); try simp only [go_sem])
        rw [wi1 k (by omega)]
        exact ⟨k + 1, ⟨hk, fun i hi h => (by rcases Nat.lt_succ_iff_lt_or_eq.1 h with h1 | h1; exact hp0.2 i hi h1; subst h1; exact hno), by omega⟩, (by ((try simp only [tpl, List.foldl_cons, List.foldl_nil, List.replicate, List.set_cons_zero, List.set_cons_succ]); repeat (first | exact trivial | refine ⟨.inr rfl, ?_⟩ | refine ⟨.inl rfl, ?_⟩))), rfl⟩
      · skip
        (refine WpA.skip ?_; try simp only [go_sem])
        (apply hKx14; (try clear hKx14 Kx14); try simp only [go_sem])
        refine WpA.reg fun all hall => ?_
        repeat ((first | refine aOps_nil ?_ | refine aOps_a rfl rfl rfl ?_); try simp only [go_sem])
        repeat ((first | refine aOps_nil ?_ | refine aOps_a rfl rfl rfl ?_); try simp only [go_sem])
        rw [wi1 j (by omega)]
        exact ⟨j + 1, ⟨hj, fun i hi h => (by rcases Nat.lt_succ_iff_lt_or_eq.1 h with h1 | h1; exact hp2.2 i hi h1; subst h1; exact hb30), by omega⟩, (by ((try simp only [tpl, List.foldl_cons, List.foldl_nil, List.replicate, List.set_cons_zero, List.set_cons_succ]); repeat (first | exact trivial | refine ⟨.inr rfl, ?_⟩ | refine ⟨.inl rfl, ?_⟩))), rfl⟩
    · skip
      have hj : j = ws.length := by omega
      (refine WpA.exit ?_; try simp only [go_sem])
      (apply hKx10; (try clear hKx10 Kx10); try simp only [go_sem])
      refine WpA.seq fun Kx17 hKx17 => ?_
      refine WpA.reg fun all hall => ?_
      repeat ((first | refine aOps_nil ?_ | refine aOps_a rfl rfl rfl ?_); try simp only [go_sem])
      repeat ((first | refine aOps_nil ?_ | refine aOps_a rfl rfl rfl ?_); try simp only [go_sem])
      (apply hKx17; (try clear hKx17 Kx17); try simp only [go_sem])
      (refine WpA.ret ?_; try simp only [go_sem])
      have hyes : lastIs co ws ws[k] = true := by rw [lastIs, List.all_eq_true]; intro x hx; obtain ⟨i, hi, rfl⟩ := List.getElem_of_mem hx; simp [hp2.2 i hi (by omega)]
      exact ret_i rfl (by rw [lastOf, find_at hk hyes (fun i hi => hp0.2 i (by omega) hi)]; rfl)
  · skip
    (refine WpA.exit ?_; try simp only [go_sem])
    (apply hKx4; (try clear hKx4 Kx4); try simp only [go_sem])
    refine WpA.seq fun Kx18 hKx18 => ?_
    refine WpA.reg fun all hall => ?_
    repeat ((first | refine aOps_nil ?_ | refine aOps_a rfl rfl rfl ?_); try simp only [go_sem])
    repeat ((first | refine aOps_nil ?_ | refine aOps_a rfl rfl rfl ?_); try simp only [go_sem])
    (apply hKx18; (try clear hKx18 Kx18); try simp only [go_sem])
    (refine WpA.ret ?_; try simp only [go_sem])
    exact ret_i rfl (by rw [lastOf, find_no (fun i hi => hp0.2 i hi (by omega))]; rfl)

def fitsE (l : List Ev) (co : List (BitVec 32)) : Bool :=
  decide (co.length = l.length ∧ l.length ≤ 32) && (sameR (orR co (invR co)) (onlyR (pairsE alikeE l) (maskE (fun x => decide (x.kind ∈ [2])) l) (maskE (fun x => decide (x.kind ∈ [2])) l)) && (decide ((pairsR (andR co (invR co))).length = 0) && sameR (plusR co) co))
theorem inv_imm (a : List (BitVec 32)) : PCalls Try.prog 16 [.bor (encU a)] (.val (.pv (.imm (encU (invR a))))) := (inv_calls a).imm

set_option maxHeartbeats 4000000 in
theorem fits_calls (l : List Ev) (s : Six) (co : List (BitVec 32)) (hl : l.length ≤ 1000) : PCalls Try.prog 19 [exA l s, .bor (encU co)] (.val (bv (fitsE l co))) := by
  refine PCalls.of_body Try.func19 rfl rfl Try.ntmps19 Try.results19 ?_
  simp only [go_sem, List.replicate]
  refine WpA.seq fun Kx1 hKx1 => ?_
  refine WpA.reg fun all hall => ?_
  repeat ((first | refine aOps_nil ?_ | refine aOps_a rfl rfl rfl ?_); try simp only [go_sem])
  repeat ((first | refine aOps_nil ?_ | refine aOps_a rfl rfl rfl ?_); try simp only [go_sem])
  (apply hKx1; (try clear hKx1 Kx1); try simp only [go_sem])
  refine WpA.seq fun Kx2 hKx2 => ?_
  refine WpA.reg fun all hall => ?_
  repeat ((first | refine aOps_nil ?_ | refine aOps_a rfl rfl rfl ?_); try simp only [go_sem])
  repeat ((first | refine aOps_nil ?_ | refine aOps_a rfl rfl rfl ?_); try simp only [go_sem])
  (apply hKx2; (try clear hKx2 Kx2); try simp only [go_sem])
  refine WpA.seq fun Kx3 hKx3 => ?_
  refine WpA.seq fun Kx4 hKx4 => ?_
  refine WpA.reg fun all hall => ?_
  repeat ((first | refine aOps_nil ?_ | refine aOps_a rfl rfl rfl ?_); try simp only [go_sem])
  refine aOps_split (d := 16) rfl (fun hg2_4 => ?_) (fun hg2_4 => ?_) <;> (try simp only [decide_eq_true_eq, decide_eq_false_iff_not] at hg2_4) <;> try simp only [go_sem]
  · skip
    (refine aOps_z rfl (by rw [hall]; rfl) rfl ?_; try simp only [go_sem])
    (refine aOps_z rfl (by rw [hall]; rfl) rfl ?_; try simp only [go_sem])
    repeat ((first | refine aOps_nil ?_ | refine aOps_a rfl rfl rfl ?_); try simp only [go_sem])
    repeat ((first | refine aOps_nil ?_ | refine aOps_a rfl rfl rfl ?_); try simp only [go_sem])
    (apply hKx4; (try clear hKx4 Kx4); try simp only [go_sem])
    (refine WpA.cond rfl (fun hb19 => ?_) (fun hb19 => ?_) <;> try simp only [decide_eq_true_eq, decide_eq_false_iff_not, Bool.not_eq_true', Bool.not_eq_false'] at hb19)
    · skip
      refine WpA.seq fun Kx5 hKx5 => ?_
      refine WpA.reg fun all hall => ?_
      repeat ((first | refine aOps_nil ?_ | refine aOps_a rfl rfl rfl ?_); try simp only [go_sem])
      repeat ((first | refine aOps_nil ?_ | refine aOps_a rfl rfl rfl ?_); try simp only [go_sem])
      (apply hKx5; (try clear hKx5 Kx5); try simp only [go_sem])
      (refine WpA.ret ?_; try simp only [go_sem])
      exact ret_b rfl (by symm; rw [fitsE, Bool.and_eq_false_iff]; left; have h := hg2_4; simp at h ⊢; omega)
    · skip
      exact absurd hb19 (by decide)
  · skip
    (refine aOps_ya rfl rfl rfl (by rw [hall]; rfl) rfl ?_; try simp only [go_sem])
    (refine aOps_ya rfl rfl rfl (by rw [hall]; rfl) rfl ?_; try simp only [go_sem])
    repeat ((first | refine aOps_nil ?_ | refine aOps_a rfl rfl rfl ?_); try simp only [go_sem])
    repeat ((first | refine aOps_nil ?_ | refine aOps_a rfl rfl rfl ?_); try simp only [go_sem])
    (apply hKx4; (try clear hKx4 Kx4); try simp only [go_sem])
    (refine WpA.cond rfl (fun hb19 => ?_) (fun hb19 => ?_) <;> try simp only [decide_eq_true_eq, decide_eq_false_iff_not, Bool.not_eq_true', Bool.not_eq_false'] at hb19)
    · skip
      refine WpA.seq fun Kx6 hKx6 => ?_
      refine WpA.reg fun all hall => ?_
      repeat ((first | refine aOps_nil ?_ | refine aOps_a rfl rfl rfl ?_); try simp only [go_sem])
      repeat ((first | refine aOps_nil ?_ | refine aOps_a rfl rfl rfl ?_); try simp only [go_sem])
      (apply hKx6; (try clear hKx6 Kx6); try simp only [go_sem])
      (refine WpA.ret ?_; try simp only [go_sem])
      exact ret_b rfl (by symm; rw [fitsE, Bool.and_eq_false_iff]; left; have h := hg2_4; simp at h ⊢; omega)
    · skip
      (refine WpA.skip ?_; try simp only [go_sem])
      (apply hKx3; (try clear hKx3 Kx3); try simp only [go_sem])
      refine WpA.seq fun Kx7 hKx7 => ?_
      refine WpA.reg fun all hall => ?_
      repeat ((first | refine aOps_nil ?_ | refine aOps_a rfl rfl rfl ?_); try simp only [go_sem])
      refine aOps_s rfl rfl (QK.lit rfl Try.underlying39 ti3 rfl rfl ?_)
      try simp only [go_sem]
      refine aOps_s rfl rfl (QK.call rfl rfl rfl (kinds_calls l s (by (try simp at hb19); omega) [2] (by simp)) (by repeat' (first | exact ConvL.nil | refine ConvL.cons ?_ ?_ | first | exact Conv.pv _ | exact Conv.imm_bor _ | exact Conv.bor _ | exact Conv.tight_imm _ | exact Conv.tight_bor _ | exact Conv.nil_imm | exact Conv.nil_bor | exact Conv.tight _ | exact Conv.at _ | exact Conv.row _ _ _ _ _ _ rfl (by first | rfl | (simp only [go_sem]; done) | (simp []; done) | (simp []; omega) | omega) | exact Conv.bat _ _ _ _ _ rfl rfl | exact Conv.aggp _ _ rfl | refine Conv.fnL _ ?_ | exact Conv.any _)) ?_)
      try simp only [go_sem]
      repeat ((first | refine aOps_nil ?_ | refine aOps_a rfl rfl rfl ?_); try simp only [go_sem])
      repeat ((first | refine aOps_nil ?_ | refine aOps_a rfl rfl rfl ?_); try simp only [go_sem])
      (apply hKx7; (try clear hKx7 Kx7); try simp only [go_sem])
      refine WpA.seq fun Kx8 hKx8 => ?_
      refine WpA.reg fun all hall => ?_
      repeat ((first | refine aOps_nil ?_ | refine aOps_a rfl rfl rfl ?_); try simp only [go_sem])
      refine aOps_s rfl rfl (QK.call rfl rfl rfl (alike_calls l s (by omega)) (by repeat' (first | exact ConvL.nil | refine ConvL.cons ?_ ?_ | first | exact Conv.pv _ | exact Conv.imm_bor _ | exact Conv.bor _ | exact Conv.tight_imm _ | exact Conv.tight_bor _ | exact Conv.nil_imm | exact Conv.nil_bor | exact Conv.tight _ | exact Conv.at _ | exact Conv.row _ _ _ _ _ _ rfl (by first | rfl | (simp only [go_sem]; done) | (simp []; done) | (simp []; omega) | omega) | exact Conv.bat _ _ _ _ _ rfl rfl | exact Conv.aggp _ _ rfl | refine Conv.fnL _ ?_ | exact Conv.any _)) ?_)
      try simp only [go_sem]
      repeat ((first | refine aOps_nil ?_ | refine aOps_a rfl rfl rfl ?_); try simp only [go_sem])
      refine aOps_s rfl rfl (QK.call rfl rfl rfl (only_imm _ _ _) (by repeat' (first | exact ConvL.nil | refine ConvL.cons ?_ ?_ | first | exact Conv.pv _ | exact Conv.imm_bor _ | exact Conv.bor _ | exact Conv.tight_imm _ | exact Conv.tight_bor _ | exact Conv.nil_imm | exact Conv.nil_bor | exact Conv.tight _ | exact Conv.at _ | exact Conv.row _ _ _ _ _ _ rfl (by first | rfl | (simp only [go_sem]; done) | (simp []; done) | (simp []; omega) | omega) | exact Conv.bat _ _ _ _ _ rfl rfl | exact Conv.aggp _ _ rfl | refine Conv.fnL _ ?_ | exact Conv.any _)) ?_)
      try simp only [go_sem]
      repeat ((first | refine aOps_nil ?_ | refine aOps_a rfl rfl rfl ?_); try simp only [go_sem])
      repeat ((first | refine aOps_nil ?_ | refine aOps_a rfl rfl rfl ?_); try simp only [go_sem])
      (apply hKx8; (try clear hKx8 Kx8); try simp only [go_sem])
      refine WpA.seq fun Kx9 hKx9 => ?_
      refine WpA.reg fun all hall => ?_
      repeat ((first | refine aOps_nil ?_ | refine aOps_a rfl rfl rfl ?_); try simp only [go_sem])
      refine aOps_s rfl rfl (QK.call rfl rfl rfl (inv_imm co) (by repeat' (first | exact ConvL.nil | refine ConvL.cons ?_ ?_ | first | exact Conv.pv _ | exact Conv.imm_bor _ | exact Conv.bor _ | exact Conv.tight_imm _ | exact Conv.tight_bor _ | exact Conv.nil_imm | exact Conv.nil_bor | exact Conv.tight _ | exact Conv.at _ | exact Conv.row _ _ _ _ _ _ rfl (by first | rfl | (simp only [go_sem]; done) | (simp []; done) | (simp []; omega) | omega) | exact Conv.bat _ _ _ _ _ rfl rfl | exact Conv.aggp _ _ rfl | refine Conv.fnL _ ?_ | exact Conv.any _)) ?_)
      try simp only [go_sem]
      repeat ((first | refine aOps_nil ?_ | refine aOps_a rfl rfl rfl ?_); try simp only [go_sem])
      repeat ((first | refine aOps_nil ?_ | refine aOps_a rfl rfl rfl ?_); try simp only [go_sem])
      (apply hKx9; (try clear hKx9 Kx9); try simp only [go_sem])
      refine WpA.seq fun Kx10 hKx10 => ?_
      refine WpA.reg fun all hall => ?_
      repeat ((first | refine aOps_nil ?_ | refine aOps_a rfl rfl rfl ?_); try simp only [go_sem])
      refine aOps_s rfl rfl (QK.call rfl rfl rfl (or_calls _ _) (by repeat' (first | exact ConvL.nil | refine ConvL.cons ?_ ?_ | first | exact Conv.pv _ | exact Conv.imm_bor _ | exact Conv.bor _ | exact Conv.tight_imm _ | exact Conv.tight_bor _ | exact Conv.nil_imm | exact Conv.nil_bor | exact Conv.tight _ | exact Conv.at _ | exact Conv.row _ _ _ _ _ _ rfl (by first | rfl | (simp only [go_sem]; done) | (simp []; done) | (simp []; omega) | omega) | exact Conv.bat _ _ _ _ _ rfl rfl | exact Conv.aggp _ _ rfl | refine Conv.fnL _ ?_ | exact Conv.any _)) ?_)
      try simp only [go_sem]
      repeat ((first | refine aOps_nil ?_ | refine aOps_a rfl rfl rfl ?_); try simp only [go_sem])
      refine aOps_s rfl rfl (QK.call rfl rfl rfl (same_calls _ _) (by repeat' (first | exact ConvL.nil | refine ConvL.cons ?_ ?_ | first | exact Conv.pv _ | exact Conv.imm_bor _ | exact Conv.bor _ | exact Conv.tight_imm _ | exact Conv.tight_bor _ | exact Conv.nil_imm | exact Conv.nil_bor | exact Conv.tight _ | exact Conv.at _ | exact Conv.row _ _ _ _ _ _ rfl (by first | rfl | (simp only [go_sem]; done) | (simp []; done) | (simp []; omega) | omega) | exact Conv.bat _ _ _ _ _ rfl rfl | exact Conv.aggp _ _ rfl | refine Conv.fnL _ ?_ | exact Conv.any _)) ?_)
      try simp only [go_sem]
      repeat ((first | refine aOps_nil ?_ | refine aOps_a rfl rfl rfl ?_); try simp only [go_sem])
      refine aOps_split (d := 35) rfl (fun hg7_5 => ?_) (fun hg7_5 => ?_) <;> (try simp only [decide_eq_true_eq, decide_eq_false_iff_not] at hg7_5) <;> try simp only [go_sem]
      · skip
        (refine aOps_ya rfl rfl rfl (by rw [hall]; rfl) rfl ?_; try simp only [go_sem])
        (refine aOps_ya rfl rfl rfl (by rw [hall]; rfl) rfl ?_; try simp only [go_sem])
        refine aOps_y rfl rfl (by rw [hall]; rfl) rfl (QK.call rfl rfl rfl (and_calls _ _) (by repeat' (first | exact ConvL.nil | refine ConvL.cons ?_ ?_ | first | exact Conv.pv _ | exact Conv.imm_bor _ | exact Conv.bor _ | exact Conv.tight_imm _ | exact Conv.tight_bor _ | exact Conv.nil_imm | exact Conv.nil_bor | exact Conv.tight _ | exact Conv.at _ | exact Conv.row _ _ _ _ _ _ rfl (by first | rfl | (simp only [go_sem]; done) | (simp []; done) | (simp []; omega) | omega) | exact Conv.bat _ _ _ _ _ rfl rfl | exact Conv.aggp _ _ rfl | refine Conv.fnL _ ?_ | exact Conv.any _)) ?_)
        try simp only [go_sem]
        refine aOps_y rfl rfl (by rw [hall]; rfl) rfl (QK.call rfl rfl rfl (pairs_calls _) (by repeat' (first | exact ConvL.nil | refine ConvL.cons ?_ ?_ | first | exact Conv.pv _ | exact Conv.imm_bor _ | exact Conv.bor _ | exact Conv.tight_imm _ | exact Conv.tight_bor _ | exact Conv.nil_imm | exact Conv.nil_bor | exact Conv.tight _ | exact Conv.at _ | exact Conv.row _ _ _ _ _ _ rfl (by first | rfl | (simp only [go_sem]; done) | (simp []; done) | (simp []; omega) | omega) | exact Conv.bat _ _ _ _ _ rfl rfl | exact Conv.aggp _ _ rfl | refine Conv.fnL _ ?_ | exact Conv.any _)) ?_)
        try simp only [go_sem]
        (refine aOps_ya rfl rfl rfl (by rw [hall]; rfl) rfl ?_; try simp only [go_sem])
        (refine aOps_ya rfl rfl rfl (by rw [hall]; rfl) rfl ?_; try simp only [go_sem])
        repeat ((first | refine aOps_nil ?_ | refine aOps_a rfl rfl rfl ?_); try simp only [go_sem])
        refine aOps_split (d := 43) rfl (fun hg7_13 => ?_) (fun hg7_13 => ?_) <;> (try simp only [decide_eq_true_eq, decide_eq_false_iff_not] at hg7_13) <;> try simp only [go_sem]
        · skip
          (refine aOps_ya rfl rfl rfl (by rw [hall]; rfl) rfl ?_; try simp only [go_sem])
          refine aOps_y rfl rfl (by rw [hall]; rfl) rfl (QK.call rfl rfl rfl (plus_imm _) (by repeat' (first | exact ConvL.nil | refine ConvL.cons ?_ ?_ | first | exact Conv.pv _ | exact Conv.imm_bor _ | exact Conv.bor _ | exact Conv.tight_imm _ | exact Conv.tight_bor _ | exact Conv.nil_imm | exact Conv.nil_bor | exact Conv.tight _ | exact Conv.at _ | exact Conv.row _ _ _ _ _ _ rfl (by first | rfl | (simp only [go_sem]; done) | (simp []; done) | (simp []; omega) | omega) | exact Conv.bat _ _ _ _ _ rfl rfl | exact Conv.aggp _ _ rfl | refine Conv.fnL _ ?_ | exact Conv.any _)) ?_)
          try simp only [go_sem]
          (refine aOps_ya rfl rfl rfl (by rw [hall]; rfl) rfl ?_; try simp only [go_sem])
          refine aOps_y rfl rfl (by rw [hall]; rfl) rfl (QK.call rfl rfl rfl (same_calls _ _) (by repeat' (first | exact ConvL.nil | refine ConvL.cons ?_ ?_ | first | exact Conv.pv _ | exact Conv.imm_bor _ | exact Conv.bor _ | exact Conv.tight_imm _ | exact Conv.tight_bor _ | exact Conv.nil_imm | exact Conv.nil_bor | exact Conv.tight _ | exact Conv.at _ | exact Conv.row _ _ _ _ _ _ rfl (by first | rfl | (simp only [go_sem]; done) | (simp []; done) | (simp []; omega) | omega) | exact Conv.bat _ _ _ _ _ rfl rfl | exact Conv.aggp _ _ rfl | refine Conv.fnL _ ?_ | exact Conv.any _)) ?_)
          try simp only [go_sem]
          repeat ((first | refine aOps_nil ?_ | refine aOps_a rfl rfl rfl ?_); try simp only [go_sem])
          repeat ((first | refine aOps_nil ?_ | refine aOps_a rfl rfl rfl ?_); try simp only [go_sem])
          (apply hKx10; (try clear hKx10 Kx10); try simp only [go_sem])
          (refine WpA.ret ?_; try simp only [go_sem])
          exact ret_b rfl (by
            have h1 := hg2_4
            simp at h1
            have h : co.length = l.length ∧ l.length ≤ 32 := ⟨by omega, by omega⟩
            rw [fitsE, decide_eq_true h, hg7_5]
            first
              | rfl
              | (rw [show decide ((pairsR (andR co (invR co))).length = 0) = true from by simpa using hg7_13]; rfl)
              | (rw [show decide ((pairsR (andR co (invR co))).length = 0) = false from by simpa using hg7_13]; rfl))
        · skip
          (refine aOps_z rfl (by rw [hall]; rfl) rfl ?_; try simp only [go_sem])
          (refine aOps_z rfl (by rw [hall]; rfl) rfl ?_; try simp only [go_sem])
          (refine aOps_z rfl (by rw [hall]; rfl) rfl ?_; try simp only [go_sem])
          (refine aOps_z rfl (by rw [hall]; rfl) rfl ?_; try simp only [go_sem])
          repeat ((first | refine aOps_nil ?_ | refine aOps_a rfl rfl rfl ?_); try simp only [go_sem])
          repeat ((first | refine aOps_nil ?_ | refine aOps_a rfl rfl rfl ?_); try simp only [go_sem])
          (apply hKx10; (try clear hKx10 Kx10); try simp only [go_sem])
          (refine WpA.ret ?_; try simp only [go_sem])
          exact ret_b rfl (by
            have h1 := hg2_4
            simp at h1
            have h : co.length = l.length ∧ l.length ≤ 32 := ⟨by omega, by omega⟩
            rw [fitsE, decide_eq_true h, hg7_5]
            first
              | rfl
              | (rw [show decide ((pairsR (andR co (invR co))).length = 0) = true from by simpa using hg7_13]; rfl)
              | (rw [show decide ((pairsR (andR co (invR co))).length = 0) = false from by simpa using hg7_13]; rfl))
      · skip
        (refine aOps_z rfl (by rw [hall]; rfl) rfl ?_; try simp only [go_sem])
        (refine aOps_z rfl (by rw [hall]; rfl) rfl ?_; try simp only [go_sem])
        (refine aOps_z rfl (by rw [hall]; rfl) rfl ?_; try simp only [go_sem])
        (refine aOps_z rfl (by rw [hall]; rfl) rfl ?_; try simp only [go_sem])
        (refine aOps_z rfl (by rw [hall]; rfl) rfl ?_; try simp only [go_sem])
        (refine aOps_z rfl (by rw [hall]; rfl) rfl ?_; try simp only [go_sem])
        repeat ((first | refine aOps_nil ?_ | refine aOps_a rfl rfl rfl ?_); try simp only [go_sem])
        (refine aOps_z rfl (by rw [hall]; rfl) rfl ?_; try simp only [go_sem])
        (refine aOps_z rfl (by rw [hall]; rfl) rfl ?_; try simp only [go_sem])
        (refine aOps_z rfl (by rw [hall]; rfl) rfl ?_; try simp only [go_sem])
        (refine aOps_z rfl (by rw [hall]; rfl) rfl ?_; try simp only [go_sem])
        repeat ((first | refine aOps_nil ?_ | refine aOps_a rfl rfl rfl ?_); try simp only [go_sem])
        repeat ((first | refine aOps_nil ?_ | refine aOps_a rfl rfl rfl ?_); try simp only [go_sem])
        (apply hKx10; (try clear hKx10 Kx10); try simp only [go_sem])
        (refine WpA.ret ?_; try simp only [go_sem])
        exact ret_b rfl (by
          have h1 := hg2_4
          simp at h1
          have h : co.length = l.length ∧ l.length ≤ 32 := ⟨by omega, by omega⟩
          rw [fitsE, decide_eq_true h, hg7_5]
          first
            | rfl
            | (rw [show decide ((pairsR (andR co (invR co))).length = 0) = true from by simpa using hg7_13]; rfl)
            | (rw [show decide ((pairsR (andR co (invR co))).length = 0) = false from by simpa using hg7_13]; rfl))

/-- What stands in memory, place by place. -/
def memAt (l : List Ev) (co : List (BitVec 32)) (init : List Int) (loc : Nat) : Int := if lastE l co loc < 0 then init.getD loc 0 else (l.getD (lastE l co loc).toNat default).val
def memTo (l : List Ev) (co : List (BitVec 32)) (init : List Int) (k : Nat) : List Int := (List.range k).map (memAt l co init) ++ init.drop k
def memL (l : List Ev) (co : List (BitVec 32)) (init : List Int) : List Int := (List.range init.length).map (memAt l co init)
theorem memTo_len (l : List Ev) (co : List (BitVec 32)) (init : List Int) (k : Nat) (hk : k ≤ init.length) : (memTo l co init k).length = init.length := by simp [memTo]; omega
theorem memTo_get (l : List Ev) (co : List (BitVec 32)) (init : List Int) (k : Nat) (hk : k < init.length) : (memTo l co init k)[k]? = some init[k] := by
  rw [memTo, List.getElem?_append_right (by simp)]; simp [hk]
theorem memTo_succ (l : List Ev) (co : List (BitVec 32)) (init : List Int) (k : Nat) (hk : k < init.length) : memTo l co init (k + 1) = (memTo l co init k).set k (memAt l co init k) := by
  rw [memTo, memTo, List.set_append_right _ _ (by simp), List.range_succ, List.map_append, List.append_assoc]
  congr 1
  rw [List.length_map, List.length_range, Nat.sub_self, List.drop_eq_getElem_cons hk]
  rfl
theorem writesTo_mem {l : List Ev} {loc : Int} {k : Nat} {x : Int} (h : x ∈ writesTo l loc k) : ∃ i : Nat, i < k ∧ x = i ∧ isW loc (l.getD i default) = true := by
  simp only [writesTo, List.mem_map, List.mem_filter, List.mem_range] at h
  obtain ⟨i, ⟨h1, h2⟩, rfl⟩ := h
  exact ⟨i, h1, rfl, h2⟩
theorem lastOf_mem (co : List (BitVec 32)) (ws : List Int) : lastOf co ws = -1 ∨ lastOf co ws ∈ ws := by
  unfold lastOf
  cases h : ws.find? (lastIs co ws) with
  | none => exact .inl rfl
  | some x => exact .inr (List.mem_of_find?_eq_some h)
theorem lastE_lt {l : List Ev} {co : List (BitVec 32)} {loc : Int} (h : 0 ≤ lastE l co loc) : ∃ i : Nat, lastE l co loc = i ∧ i < l.length := by
  rcases lastOf_mem co (writesE l loc) with h1 | h1
  · rw [lastE] at h; omega
  · obtain ⟨i, h2, h3, _⟩ := writesTo_mem h1
    exact ⟨i, h3, h2⟩
theorem encZ_set (l : List Int) (k : Nat) (x : Int) : (encZ l).set k [.val (.int .i64 x)] = encZ (l.set k x) := by simp [encZ, eI, List.map_set]
theorem encZ_at {l : List Int} {k : Nat} {x : Int} (h : l[k]? = some x) : (encZ l)[k]? = some (eI x) := by simp [encZ, h]

theorem set_at {l : List Int} {k : Nat} {x : Int} (h : l[k]? = some x) : l.set k x = l := by
  apply List.ext_getElem?
  intro i
  rw [List.getElem?_set]
  by_cases hi : k = i
  · subst hi; rw [h]; simp [(List.getElem?_eq_some_iff.1 h).1]
  · rw [if_neg hi]

set_option maxHeartbeats 4000000 in
theorem mem_calls (l : List Ev) (s : Six) (co : List (BitVec 32)) (init : List Int) (hl : l.length ≤ 1000) (hi : init.length ≤ 1000) : PCalls Try.prog 29 [exA l s, .bor (encU co), .bor (encZ init)] (.val (.pv (.imm (encZ (memL l co init))))) := by
  refine PCalls.of_body Try.func29 rfl rfl Try.ntmps29 Try.results29 ?_
  simp only [go_sem, List.replicate]
  refine WpA.seq fun Kx1 hKx1 => ?_
  refine WpA.reg fun all hall => ?_
  repeat ((first | refine aOps_nil ?_ | refine aOps_a rfl rfl rfl ?_); try simp only [go_sem])
  repeat ((first | refine aOps_nil ?_ | refine aOps_a rfl rfl rfl ?_); try simp only [go_sem])
  (apply hKx1; (try clear hKx1 Kx1); try simp only [go_sem])
  refine WpA.seq fun Kx2 hKx2 => ?_
  refine WpA.reg fun all hall => ?_
  ((first | refine aOps_nil ?_ | refine aOps_a rfl rfl rfl ?_); try simp only [go_sem])
  ((first | refine aOps_nil ?_ | refine aOps_a rfl rfl rfl ?_); try simp only [go_sem])
  ((first | refine aOps_nil ?_ | refine aOps_a rfl rfl rfl ?_); try simp only [go_sem])
  refine ⟨by omega, by omega, ?_⟩
  repeat ((first | refine aOps_nil ?_ | refine aOps_a rfl rfl rfl ?_); try simp only [go_sem])
  repeat ((first | refine aOps_nil ?_ | refine aOps_a rfl rfl rfl ?_); try simp only [go_sem])
  (apply hKx2; (try clear hKx2 Kx2); try simp only [go_sem])
  refine WpA.seq fun Kx3 hKx3 => ?_
  refine WpA.reg fun all hall => ?_
  repeat ((first | refine aOps_nil ?_ | refine aOps_a rfl rfl rfl ?_); try simp only [go_sem])
  refine aOps_n rfl (aOp.copy rfl rfl rfl (by first | rfl | (simp only [go_sem]; done) | (simp []; done) | (simp []; omega) | omega) rfl (encZ_one init) Try.underlying43 ti2 ?_)
  try simp only [go_sem]
  simp only [List.take_of_length_le (Nat.le_of_eq (encZ_len init))]
  rw [show List.drop init.length (List.replicate init.length [PV.val (.int .i64 0)]) = [] from List.drop_of_length_le (by simp), List.append_nil]
  repeat ((first | refine aOps_nil ?_ | refine aOps_a rfl rfl rfl ?_); try simp only [go_sem])
  (apply hKx3; (try clear hKx3 Kx3); try simp only [go_sem])
  refine WpA.seq fun Kx4 hKx4 => ?_
  refine WpA.seq fun Kx5 hKx5 => ?_
  refine WpA.reg fun all hall => ?_
  repeat ((first | refine aOps_nil ?_ | refine aOps_a rfl rfl rfl ?_); try simp only [go_sem])
  repeat ((first | refine aOps_nil ?_ | refine aOps_a rfl rfl rfl ?_); try simp only [go_sem])
  (apply hKx5; (try clear hKx5 Kx5); try simp only [go_sem])
  refine WpA.block ?_
  refine WpA.iter (fun (k : Nat) => k ≤ init.length) (fun (k : Nat) => tpl 38 [(1, .bor (encU co)), (3, .bat 0 0), (7, .row 1 init.length), (17, iv init.length), (18, iv k)]) (fun (k : Nat) => [.box 30 (exC l s), .row false 2 1 (encZ (memTo l co init k))]) (fun (k : Nat) => init.length - k) 0 (by omega) (by ((try simp only [tpl, List.foldl_cons, List.foldl_nil, List.replicate, List.set_cons_zero, List.set_cons_succ]); repeat (first | exact trivial | refine ⟨.inr rfl, ?_⟩ | refine ⟨.inl rfl, ?_⟩))) (by simp [memTo]; rfl) ?_
  rintro k hp0
  simp only [tpl, List.foldl_cons, List.foldl_nil, List.replicate, List.set_cons_zero, List.set_cons_succ]
  refine WpA.seq fun Kx6 hKx6 => ?_
  refine WpA.reg fun all hall => ?_
  repeat ((first | refine aOps_nil ?_ | refine aOps_a rfl rfl rfl ?_); try simp only [go_sem])
  repeat ((first | refine aOps_nil ?_ | refine aOps_a rfl rfl rfl ?_); try simp only [go_sem])
  (apply hKx6; (try clear hKx6 Kx6); try simp only [go_sem])
  refine WpA.seq fun Kx7 hKx7 => ?_
  (refine WpA.cond rfl (fun hb19 => ?_) (fun hb19 => ?_) <;> try simp only [decide_eq_true_eq, decide_eq_false_iff_not, Bool.not_eq_true', Bool.not_eq_false'] at hb19)
  · skip
    have hk : k < init.length := by omega
    have hlen := memTo_len l co init k (by omega)
    (refine WpA.skip ?_; try simp only [go_sem])
    (apply hKx7; (try clear hKx7 Kx7); try simp only [go_sem])
    refine WpA.seq fun Kx8 hKx8 => ?_
    refine WpA.block ?_
    refine WpA.seq fun Kx9 hKx9 => ?_
    refine WpA.reg fun all hall => ?_
    repeat ((first | refine aOps_nil ?_ | refine aOps_a rfl rfl rfl ?_); try simp only [go_sem])
    repeat ((first | refine aOps_nil ?_ | refine aOps_a rfl rfl rfl ?_); try simp only [go_sem])
    (apply hKx9; (try clear hKx9 Kx9); try simp only [go_sem])
    refine WpA.seq fun Kx10 hKx10 => ?_
    refine WpA.reg fun all hall => ?_
    repeat ((first | refine aOps_nil ?_ | refine aOps_a rfl rfl rfl ?_); try simp only [go_sem])
    refine aOps_s rfl rfl (QK.call rfl rfl rfl (last_calls l s co k hl) (by repeat' (first | exact ConvL.nil | refine ConvL.cons ?_ ?_ | first | exact Conv.pv _ | exact Conv.imm_bor _ | exact Conv.bor _ | exact Conv.tight_imm _ | exact Conv.tight_bor _ | exact Conv.nil_imm | exact Conv.nil_bor | exact Conv.tight _ | exact Conv.at _ | exact Conv.row _ _ _ _ _ _ rfl (by first | rfl | (simp only [go_sem]; done) | (simp []; done) | (simp []; omega) | omega) | exact Conv.bat _ _ _ _ _ rfl rfl | exact Conv.aggp _ _ rfl | refine Conv.fnL _ ?_ | exact Conv.any _)) ?_)
    try simp only [go_sem]
    repeat ((first | refine aOps_nil ?_ | refine aOps_a rfl rfl rfl ?_); try simp only [go_sem])
    repeat ((first | refine aOps_nil ?_ | refine aOps_a rfl rfl rfl ?_); try simp only [go_sem])
    (apply hKx10; (try clear hKx10 Kx10); try simp only [go_sem])
    refine WpA.seq fun Kx11 hKx11 => ?_
    refine WpA.reg fun all hall => ?_
    repeat ((first | refine aOps_nil ?_ | refine aOps_a rfl rfl rfl ?_); try simp only [go_sem])
    repeat ((first | refine aOps_nil ?_ | refine aOps_a rfl rfl rfl ?_); try simp only [go_sem])
    (apply hKx11; (try clear hKx11 Kx11); try simp only [go_sem])
    (refine WpA.cond rfl (fun hb26 => ?_) (fun hb26 => ?_) <;> try simp only [decide_eq_true_eq, decide_eq_false_iff_not, Bool.not_eq_true', Bool.not_eq_false'] at hb26)
    · skip
      obtain ⟨w, hw, hwl⟩ := lastE_lt (l := l) (co := co) (loc := k) (by simpa [lastE] using hb26)
      have hm : memAt l co init k = l[w].val := by rw [memAt, hw, if_neg (by omega)]; simp [hwl]
      rw [show lastOf co (writesE l k) = (w : Int) from hw]
      refine WpA.reg fun all hall => ?_
      repeat ((first | refine aOps_nil ?_ | refine aOps_a rfl rfl rfl ?_); try simp only [go_sem])
      refine aOps_s rfl rfl (QK.at rfl Try.underlying22 ti25 rfl (by first | exact .inl rfl | exact .inr (.inl rfl) | exact .inr (.inr rfl)) rfl (encE_get hwl) rfl ?_)
      try simp only [go_sem]
      repeat ((first | refine aOps_nil ?_ | refine aOps_a rfl rfl rfl ?_); try simp only [go_sem])
      refine aOps_s rfl rfl (QK.rat rfl Try.underlying43 ti2 rfl rfl (by first | rfl | (simp only [go_sem]; done) | (simp []; done) | (simp []; omega) | omega) rfl hk ?_)
      try simp only [go_sem]
      refine aOps_n rfl (aOp.put rfl rfl rfl (by first | rfl | (simp only [go_sem]; done) | (simp []; done) | (simp []; omega) | omega) (Nat.mul_one _).symm hk rfl rfl rfl ti2 ?_)
      try simp only [go_sem]
      repeat ((first | refine aOps_nil ?_ | refine aOps_a rfl rfl rfl ?_); try simp only [go_sem])
      (apply hKx8; (try clear hKx8 Kx8); try simp only [go_sem])
      refine WpA.reg fun all hall => ?_
      repeat ((first | refine aOps_nil ?_ | refine aOps_a rfl rfl rfl ?_); try simp only [go_sem])
      repeat ((first | refine aOps_nil ?_ | refine aOps_a rfl rfl rfl ?_); try simp only [go_sem])
      rw [wi1 k (by omega)]
      exact ⟨k + 1, ⟨hk, by omega⟩, (by ((try simp only [tpl, List.foldl_cons, List.foldl_nil, List.replicate, List.set_cons_zero, List.set_cons_succ]); repeat (first | exact trivial | refine ⟨.inr rfl, ?_⟩ | refine ⟨.inl rfl, ?_⟩))), (by
        rw [memTo_succ _ _ _ _ hk, hm]
        first
          | (rw [← encZ_set]; done)
          | (rw [set_at (memTo_get l co init k hk)]; done))⟩
    · skip
      have hm : memAt l co init k = init[k] := by rw [memAt, if_pos (by simpa [lastE] using hb26)]; simp [hk]
      (refine WpA.skip ?_; try simp only [go_sem])
      (apply hKx8; (try clear hKx8 Kx8); try simp only [go_sem])
      refine WpA.reg fun all hall => ?_
      repeat ((first | refine aOps_nil ?_ | refine aOps_a rfl rfl rfl ?_); try simp only [go_sem])
      repeat ((first | refine aOps_nil ?_ | refine aOps_a rfl rfl rfl ?_); try simp only [go_sem])
      rw [wi1 k (by omega)]
      exact ⟨k + 1, ⟨hk, by omega⟩, (by ((try simp only [tpl, List.foldl_cons, List.foldl_nil, List.replicate, List.set_cons_zero, List.set_cons_succ]); repeat (first | exact trivial | refine ⟨.inr rfl, ?_⟩ | refine ⟨.inl rfl, ?_⟩))), (by
        rw [memTo_succ _ _ _ _ hk, hm]
        first
          | (rw [← encZ_set]; done)
          | (rw [set_at (memTo_get l co init k hk)]; done))⟩
  · skip
    (refine WpA.exit ?_; try simp only [go_sem])
    (apply hKx4; (try clear hKx4 Kx4); try simp only [go_sem])
    refine WpA.seq fun Kx12 hKx12 => ?_
    refine WpA.reg fun all hall => ?_
    repeat ((first | refine aOps_nil ?_ | refine aOps_a rfl rfl rfl ?_); try simp only [go_sem])
    repeat ((first | refine aOps_nil ?_ | refine aOps_a rfl rfl rfl ?_); try simp only [go_sem])
    (apply hKx12; (try clear hKx12 Kx12); try simp only [go_sem])
    (refine WpA.ret ?_; try simp only [go_sem])
    have h1 : k = init.length := by omega
    subst h1
    rw [show memL l co init = memTo l co init init.length from by simp [memL, memTo]]
    exact RetQ.val (.row _ _ _ _ _ _ rfl (by first | rfl | (simp only [go_sem]; done) | (simp [memTo_len]; done) | (simp [memTo_len]; omega) | omega))
end Go.Proofs.Ytfpbdphdahfgbaa
