/- All orders. -/
import Derived.Test.YtfpbdphdahfgbaaO3
namespace Go.Proofs.Ytfpbdphdahfgbaa
open Go Go.RowKit Go.Proofs.Ytfpbdphdahfgbaa.Fw

/-- All orders of a list, 'n' deep. -/
def allN : Nat → List Int → List (List Int)
  | 0, _ => [[]]
  | n + 1, l => (List.range l.length).flatMap fun i => (allN n (l.eraseIdx i)).map (l.getD i 0 :: ·)
def allO (l : List Int) : List (List Int) := if 6 < l.length then [] else allN l.length l
/-- .. those that begin with one of the first 'i'. -/
def allTo (l : List Int) (i : Nat) : List (List Int) := (List.range i).flatMap fun i => (allO (l.eraseIdx i)).map (l.getD i 0 :: ·)
theorem allTo_succ (l : List Int) (i : Nat) : allTo l (i + 1) = allTo l i ++ (allO (l.eraseIdx i)).map (l.getD i 0 :: ·) := by simp [allTo, List.range_succ]
theorem allO_step {l : List Int} (h : l.length ≤ 6) (h0 : 0 < l.length) : allO l = allTo l l.length := by
  rw [allO, if_neg (by omega)]
  obtain ⟨n, hn⟩ : ∃ n, l.length = n + 1 := ⟨l.length - 1, by omega⟩
  rw [hn, allN, allTo, hn]
  rw [List.flatMap_def, List.flatMap_def]
  congr 1
  apply List.map_congr_left
  intro i hi
  have h1 : (l.eraseIdx i).length = n := by rw [List.length_eraseIdx]; simp at hi; simp [hn, hi]
  rw [allO, if_neg (by omega), h1]

theorem flat_len {α β : Type} (f : α → List β) (b : Nat) : ∀ (l : List α), (∀ x ∈ l, (f x).length ≤ b) → (l.flatMap f).length ≤ l.length * b
  | [], _ => by simp
  | x :: l, h => by
    have h1 := flat_len f b l fun y hy => h y (by simp [hy])
    have h2 := h x (by simp)
    rw [List.flatMap_cons, List.length_append, List.length_cons, Nat.succ_mul]
    omega
theorem allN_len : ∀ (n : Nat) (l : List Int), l.length = n → (allN n l).length ≤ 6 ^ n ∨ 6 < n
  | 0, _, _ => by simp [allN]
  | n + 1, l, h => by
    by_cases hn : 6 < n + 1
    · exact .inr hn
    refine .inl ?_
    rw [allN]
    have := flat_len (fun i => (allN n (l.eraseIdx i)).map (l.getD i 0 :: ·)) (6 ^ n) (List.range l.length) fun i hi => by
      rw [List.length_map]
      rcases allN_len n (l.eraseIdx i) (by rw [List.length_eraseIdx]; simp at hi; simp [hi]; omega) with h1 | h1
      · exact h1
      · omega
    rw [List.length_range] at this
    rw [Nat.pow_succ]
    have h2 : l.length * 6 ^ n ≤ 6 * 6 ^ n := Nat.mul_le_mul_right _ (by omega)
    omega
theorem allO_len (l : List Int) : (allO l).length ≤ 46656 := by
  unfold allO
  split
  · simp
  · rcases allN_len l.length l rfl with h | h
    · have : 6 ^ l.length ≤ 6 ^ 6 := Nat.pow_le_pow_right (by omega) (by omega)
      omega
    · omega
theorem allTo_len (l : List Int) (i : Nat) : (allTo l i).length ≤ i * 46656 := by
  have := flat_len (fun i => (allO (l.eraseIdx i)).map (l.getD i 0 :: ·)) 46656 (List.range i) fun j _ => by rw [List.length_map]; exact allO_len _
  simpa [allTo] using this

theorem allN_mem : ∀ (n : Nat) (l : List Int), l.length = n → ∀ x ∈ allN n l, x.length = n
  | 0, _, _, x, h => by simp [allN] at h; simp [h]
  | n + 1, l, hl, x, h => by
    rw [allN, List.mem_flatMap] at h
    obtain ⟨i, hi, h⟩ := h
    obtain ⟨y, hy, rfl⟩ := List.mem_map.1 h
    have := allN_mem n (l.eraseIdx i) (by rw [List.length_eraseIdx]; simp at hi; simp [hi]; omega) y hy
    simp [this]
theorem allO_mem {l x : List Int} (h : x ∈ allO l) : x.length ≤ 6 := by
  unfold allO at h
  split at h
  · simp at h
  · have := allN_mem _ l rfl x h
    omega
theorem erase_eq (l : List Int) {i : Nat} (hi : i < l.length) : l.take i ++ l.drop (i + 1) = l.eraseIdx i := (List.eraseIdx_eq_take_drop_succ l i).symm

set_option maxHeartbeats 4000000 in
theorem oall_step (l : List Int) (ih : ∀ x : List Int, x.length < l.length → PCalls Try.prog 46 [.bor (encZ x)] (.val (.pv (.imm (encL (allO x)))))) (hl : l.length ≤ 1000) : PCalls Try.prog 46 [.bor (encZ l)] (.val (.pv (.imm (encL (allO l))))) := by
  refine PCalls.of_body Try.func46 rfl rfl Try.ntmps46 Try.results46 ?_
  simp only [go_sem, List.replicate]
  refine WpA.seq fun Kx1 hKx1 => ?_
  refine WpA.reg fun all hall => ?_
  repeat ((first | refine aOps_nil ?_ | refine aOps_a rfl rfl rfl ?_); try simp only [go_sem])
  repeat ((first | refine aOps_nil ?_ | refine aOps_a rfl rfl rfl ?_); try simp only [go_sem])
  (apply hKx1; (try clear hKx1 Kx1); try simp only [go_sem])
  refine WpA.seq fun Kx2 hKx2 => ?_
  refine WpA.seq fun Kx3 hKx3 => ?_
  refine WpA.reg fun all hall => ?_
  repeat ((first | refine aOps_nil ?_ | refine aOps_a rfl rfl rfl ?_); try simp only [go_sem])
  repeat ((first | refine aOps_nil ?_ | refine aOps_a rfl rfl rfl ?_); try simp only [go_sem])
  (apply hKx3; (try clear hKx3 Kx3); try simp only [go_sem])
  (refine WpA.cond rfl (fun hb10 => ?_) (fun hb10 => ?_) <;> try simp only [decide_eq_true_eq, decide_eq_false_iff_not, Bool.not_eq_true', Bool.not_eq_false'] at hb10)
  · skip
    refine WpA.seq fun Kx4 hKx4 => ?_
    refine WpA.reg fun all hall => ?_
    repeat ((first | refine aOps_nil ?_ | refine aOps_a rfl rfl rfl ?_); try simp only [go_sem])
    repeat ((first | refine aOps_nil ?_ | refine aOps_a rfl rfl rfl ?_); try simp only [go_sem])
    (apply hKx4; (try clear hKx4 Kx4); try simp only [go_sem])
    (refine WpA.ret ?_; try simp only [go_sem])
    rw [show allO l = [] from if_pos (by omega)]
    exact RetQ.val .nil
  · skip
    (refine WpA.skip ?_; try simp only [go_sem])
    (apply hKx2; (try clear hKx2 Kx2); try simp only [go_sem])
    refine WpA.seq fun Kx5 hKx5 => ?_
    refine WpA.seq fun Kx6 hKx6 => ?_
    refine WpA.reg fun all hall => ?_
    repeat ((first | refine aOps_nil ?_ | refine aOps_a rfl rfl rfl ?_); try simp only [go_sem])
    repeat ((first | refine aOps_nil ?_ | refine aOps_a rfl rfl rfl ?_); try simp only [go_sem])
    (apply hKx6; (try clear hKx6 Kx6); try simp only [go_sem])
    (refine WpA.cond rfl (fun hb13 => ?_) (fun hb13 => ?_) <;> try simp only [decide_eq_true_eq, decide_eq_false_iff_not, Bool.not_eq_true', Bool.not_eq_false'] at hb13)
    · skip
      have h0 : l = [] := by simpa using hb13
      refine WpA.seq fun Kx7 hKx7 => ?_
      refine WpA.reg fun all hall => ?_
      refine aOps_s rfl rfl (QK.lit rfl Try.underlying39 ti3 rfl rfl ?_)
      try simp only [go_sem]
      refine aOps_s rfl rfl (QK.lit rfl Try.underlying61 ti39 rfl rfl ?_)
      try simp only [go_sem]
      repeat ((first | refine aOps_nil ?_ | refine aOps_a rfl rfl rfl ?_); try simp only [go_sem])
      repeat ((first | refine aOps_nil ?_ | refine aOps_a rfl rfl rfl ?_); try simp only [go_sem])
      (apply hKx7; (try clear hKx7 Kx7); try simp only [go_sem])
      (refine WpA.ret ?_; try simp only [go_sem])
      subst h0
      exact RetQ.val (.tight _)
    · skip
      have h0 : 0 < l.length := List.length_pos_iff.2 (by simpa using hb13)
      have h6 : l.length ≤ 6 := by omega
      (refine WpA.skip ?_; try simp only [go_sem])
      (apply hKx5; (try clear hKx5 Kx5); try simp only [go_sem])
      refine WpA.seq fun Kx8 hKx8 => ?_
      refine WpA.reg fun all hall => ?_
      repeat ((first | refine aOps_nil ?_ | refine aOps_a rfl rfl rfl ?_); try simp only [go_sem])
      repeat ((first | refine aOps_nil ?_ | refine aOps_a rfl rfl rfl ?_); try simp only [go_sem])
      (apply hKx8; (try clear hKx8 Kx8); try simp only [go_sem])
      refine WpA.seq fun Kx9 hKx9 => ?_
      refine WpA.seq fun Kx10 hKx10 => ?_
      refine WpA.reg fun all hall => ?_
      repeat ((first | refine aOps_nil ?_ | refine aOps_a rfl rfl rfl ?_); try simp only [go_sem])
      repeat ((first | refine aOps_nil ?_ | refine aOps_a rfl rfl rfl ?_); try simp only [go_sem])
      (apply hKx10; (try clear hKx10 Kx10); try simp only [go_sem])
      refine WpA.block ?_
      refine WpA.view 3 39 (sz := 1) (by decide) rfl ?_
      try simp only [go_sem]
      refine WpA.iter (fun (i : Nat) => i ≤ l.length) (fun (i : Nat) => tpl 45 [(0, .bor (encZ l)), (3, .row 0 (allTo l i).length), (16, .bor (encZ l)), (17, iv l.length), (18, iv i)]) (fun (i : Nat) => [.row false 39 1 (encL (allTo l i))]) (fun (i : Nat) => l.length - i) 0 (by omega) (by ((try simp only [tpl, List.foldl_cons, List.foldl_nil, List.replicate, List.set_cons_zero, List.set_cons_succ]); repeat (first | exact trivial | refine ⟨.inr rfl, ?_⟩ | refine ⟨.inl rfl, ?_⟩))) rfl ?_
      rintro i hp0
      simp only [tpl, List.foldl_cons, List.foldl_nil, List.replicate, List.set_cons_zero, List.set_cons_succ]
      refine WpA.seq fun Kx11 hKx11 => ?_
      refine WpA.reg fun all hall => ?_
      repeat ((first | refine aOps_nil ?_ | refine aOps_a rfl rfl rfl ?_); try simp only [go_sem])
      repeat ((first | refine aOps_nil ?_ | refine aOps_a rfl rfl rfl ?_); try simp only [go_sem])
      (apply hKx11; (try clear hKx11 Kx11); try simp only [go_sem])
      refine WpA.seq fun Kx12 hKx12 => ?_
      (refine WpA.cond rfl (fun hb19 => ?_) (fun hb19 => ?_) <;> try simp only [decide_eq_true_eq, decide_eq_false_iff_not, Bool.not_eq_true', Bool.not_eq_false'] at hb19)
      · skip
        have hi : i < l.length := by omega
        have hn : allTo l (i + 1) = allTo l i ++ (allO (l.eraseIdx i)).map (l[i] :: ·) := by rw [allTo_succ]; simp [hi]
        have hb := allTo_len l i
        have hb3 : i * 46656 ≤ 6 * 46656 := Nat.mul_le_mul_right _ (by omega)
        have hb2 := allO_len (l.eraseIdx i)
        (refine WpA.skip ?_; try simp only [go_sem])
        (apply hKx12; (try clear hKx12 Kx12); try simp only [go_sem])
        refine WpA.seq fun Kx13 hKx13 => ?_
        refine WpA.block ?_
        refine WpA.seq fun Kx14 hKx14 => ?_
        refine WpA.reg fun all hall => ?_
        repeat ((first | refine aOps_nil ?_ | refine aOps_a rfl rfl rfl ?_); try simp only [go_sem])
        refine aOps_s rfl rfl (QK.at rfl Try.underlying39 ti3 rfl (by first | exact .inl rfl | exact .inr (.inl rfl) | exact .inr (.inr rfl)) rfl (encZ_get hi) rfl ?_)
        try simp only [go_sem]
        repeat ((first | refine aOps_nil ?_ | refine aOps_a rfl rfl rfl ?_); try simp only [go_sem])
        repeat ((first | refine aOps_nil ?_ | refine aOps_a rfl rfl rfl ?_); try simp only [go_sem])
        (apply hKx14; (try clear hKx14 Kx14); try simp only [go_sem])
        refine WpA.seq fun Kx15 hKx15 => ?_
        refine WpA.reg fun all hall => ?_
        repeat ((first | refine aOps_nil ?_ | refine aOps_a rfl rfl rfl ?_); try simp only [go_sem])
        refine aOps_s rfl rfl (QK.call rfl rfl rfl (clone_calls l h0 hl) (by repeat' (first | exact ConvL.nil | refine ConvL.cons ?_ ?_ | first | exact Conv.pv _ | exact Conv.imm_bor _ | exact Conv.bor _ | exact Conv.tight_imm _ | exact Conv.tight_bor _ | exact Conv.nil_imm | exact Conv.nil_bor | exact Conv.tight _ | exact Conv.at _ | exact Conv.row _ _ _ _ _ _ rfl (by first | rfl | (simp only [go_sem]; done) | (simp []; done) | (simp []; omega) | omega) | exact Conv.bat _ _ _ _ _ rfl rfl | exact Conv.aggp _ _ rfl | refine Conv.fnL _ ?_ | exact Conv.any _)) ?_)
        try simp only [go_sem]
        ((first | refine aOps_nil ?_ | refine aOps_a rfl rfl rfl ?_); try simp only [go_sem])
        ((first | refine aOps_nil ?_ | refine aOps_a rfl rfl rfl ?_); try simp only [go_sem])
        ((first | refine aOps_nil ?_ | refine aOps_a rfl rfl rfl ?_); try simp only [go_sem])
        rw [wi1 i (by omega)]
        refine aOps_n rfl (aOp.acall rfl rfl rfl (.cons (.refl _) (.cons (.refl _) (.cons (.refl _) .nil))) (delete_acalls plain78 Try.slices_Delete_int rfl (show i ≤ i + 1 by omega) hi h0) (fun v H' hv => ?_))
        try simp only [go_sem]
        obtain ⟨rfl, rfl⟩ := hv
        rw [erase_eq l hi]
        refine aOps_s rfl rfl (QK.call rfl rfl rfl (ih (l.eraseIdx i) (by rw [List.length_eraseIdx]; simp [hi]; omega)) (.cons (.sub _ _ _ _ _ _ (front_elems rfl (by simp [List.length_eraseIdx, hi]; omega) (by simp [List.length_eraseIdx, hi]))) .nil) ?_)
        try simp only [go_sem]
        repeat ((first | refine aOps_nil ?_ | refine aOps_a rfl rfl rfl ?_); try simp only [go_sem])
        repeat ((first | refine aOps_nil ?_ | refine aOps_a rfl rfl rfl ?_); try simp only [go_sem])
        (apply hKx15; (try clear hKx15 Kx15); try simp only [go_sem])
        refine WpA.block ?_
        refine WpA.cut 1 (by decide) (by first | rfl | simp only [go_sem]) ?_
        try simp only [go_sem]
        have hm : ∀ x ∈ allO (l.eraseIdx i), x.length ≤ 6 := fun x hx => allO_mem hx
        generalize allO (l.eraseIdx i) = rs at hn hb2 hm
        refine WpA.iter (fun (k : Nat) => k ≤ rs.length) (fun (k : Nat) => tpl 45 [(0, .bor (encZ l)), (3, .row 0 (allTo l i ++ (rs.take k).map (l[i] :: ·)).length), (5, iv l[i]), (16, .bor (encZ l)), (17, iv l.length), (18, iv i), (29, .pv (.imm (encL rs))), (30, iv rs.length), (31, iv k)]) (fun (k : Nat) => [.row false 39 1 (encL (allTo l i ++ (rs.take k).map (l[i] :: ·)))]) (fun (k : Nat) => rs.length - k) 0 (by omega) (by simp only [List.take_zero, List.map_nil, List.append_nil]; ((try simp only [tpl, List.foldl_cons, List.foldl_nil, List.replicate, List.set_cons_zero, List.set_cons_succ]); repeat (first | exact trivial | refine ⟨.inr rfl, ?_⟩ | refine ⟨.inl rfl, ?_⟩))) (by simp) ?_
        rintro k hp2
        simp only [tpl, List.foldl_cons, List.foldl_nil, List.replicate, List.set_cons_zero, List.set_cons_succ]
        refine WpA.seq fun Kx16 hKx16 => ?_
        refine WpA.reg fun all hall => ?_
        repeat ((first | refine aOps_nil ?_ | refine aOps_a rfl rfl rfl ?_); try simp only [go_sem])
        repeat ((first | refine aOps_nil ?_ | refine aOps_a rfl rfl rfl ?_); try simp only [go_sem])
        (apply hKx16; (try clear hKx16 Kx16); try simp only [go_sem])
        refine WpA.seq fun Kx17 hKx17 => ?_
        (refine WpA.cond rfl (fun hb32 => ?_) (fun hb32 => ?_) <;> try simp only [decide_eq_true_eq, decide_eq_false_iff_not, Bool.not_eq_true', Bool.not_eq_false'] at hb32)
        · skip
          have hk : k < rs.length := by omega
          have hres : (rs.take (k + 1)).map (l[i] :: ·) = (rs.take k).map (l[i] :: ·) ++ [l[i] :: rs[k]] := by rw [List.take_add_one, List.getElem?_eq_getElem hk, List.map_append]; rfl
          (refine WpA.skip ?_; try simp only [go_sem])
          (apply hKx17; (try clear hKx17 Kx17); try simp only [go_sem])
          refine WpA.seq fun Kx18 hKx18 => ?_
          refine WpA.block ?_
          refine WpA.seq fun Kx19 hKx19 => ?_
          refine WpA.reg fun all hall => ?_
          refine aOps_s rfl rfl (QK.at rfl Try.underlying61 ti39 rfl (by first | exact .inl rfl | exact .inr (.inl rfl) | exact .inr (.inr rfl)) rfl (encL_get hk) rfl ?_)
          try simp only [go_sem]
          repeat ((first | refine aOps_nil ?_ | refine aOps_a rfl rfl rfl ?_); try simp only [go_sem])
          repeat ((first | refine aOps_nil ?_ | refine aOps_a rfl rfl rfl ?_); try simp only [go_sem])
          (apply hKx19; (try clear hKx19 Kx19); try simp only [go_sem])
          refine WpA.reg fun all hall => ?_
          repeat ((first | refine aOps_nil ?_ | refine aOps_a rfl rfl rfl ?_); try simp only [go_sem])
          refine aOps_s rfl rfl (QK.lit rfl Try.underlying39 ti3 rfl rfl ?_)
          try simp only [go_sem]
          repeat ((first | refine aOps_nil ?_ | refine aOps_a rfl rfl rfl ?_); try simp only [go_sem])
          first | refine aOps_s rfl rfl (QK.app rfl (by first | exact .inl rfl | exact .inr ⟨rfl, rfl⟩) rfl (by simp [eI]; exact encZ_one _) Try.underlying39 ti3 rfl (by decide) (by have := hm _ (List.getElem_mem hk); simp [encZ_len]; omega) (by decide) ?_) | refine aOps_n rfl (aOp.ofQapp rfl (by first | exact .inl ⟨_, rfl⟩ | exact .inr rfl) (QK.app rfl (by first | exact .inl rfl | exact .inr ⟨rfl, rfl⟩) rfl (by simp [eI]; exact encZ_one _) Try.underlying39 ti3 rfl (by decide) (by have := hm _ (List.getElem_mem hk); simp [encZ_len]; omega) (by decide) ?_))
          try simp only [go_sem]
          refine aOps_s rfl rfl (QK.lit rfl Try.underlying61 ti39 rfl rfl ?_)
          try simp only [go_sem]
          refine aOps_n rfl (aOp.app rfl rfl rfl (by first | rfl | (simp only [go_sem]; done) | (simp [encL_len]; done) | (simp [encL_len]; omega) | omega) rfl (by simp) Try.underlying61 ti39 rfl (by simp only [List.length_append, List.length_map, List.length_take, List.length_cons, List.length_nil]; omega) ?_ (by decide))
          try simp only [go_sem]
          repeat ((first | refine aOps_nil ?_ | refine aOps_a rfl rfl rfl ?_); try simp only [go_sem])
          repeat ((first | refine aOps_nil ?_ | refine aOps_a rfl rfl rfl ?_); try simp only [go_sem])
          (apply hKx18; (try clear hKx18 Kx18); try simp only [go_sem])
          refine WpA.reg fun all hall => ?_
          repeat ((first | refine aOps_nil ?_ | refine aOps_a rfl rfl rfl ?_); try simp only [go_sem])
          repeat ((first | refine aOps_nil ?_ | refine aOps_a rfl rfl rfl ?_); try simp only [go_sem])
          rw [wi1 k (by omega)]
          exact ⟨k + 1, ⟨hk, by omega⟩, (by rw [hres]; simp only [List.length_append, List.length_map, List.length_cons, List.length_nil]; ((try simp only [tpl, List.foldl_cons, List.foldl_nil, List.replicate, List.set_cons_zero, List.set_cons_succ]); repeat (first | exact trivial | refine ⟨.inr rfl, ?_⟩ | refine ⟨.inl rfl, ?_⟩))), (by rw [hres]; simp [encL, eL, encZ, eI])⟩
        · skip
          have hk : k = rs.length := by omega
          subst hk
          (refine WpA.exit ?_; try simp only [go_sem])
          (apply hKx13; (try clear hKx13 Kx13); try simp only [go_sem])
          refine WpA.reg fun all hall => ?_
          repeat ((first | refine aOps_nil ?_ | refine aOps_a rfl rfl rfl ?_); try simp only [go_sem])
          repeat ((first | refine aOps_nil ?_ | refine aOps_a rfl rfl rfl ?_); try simp only [go_sem])
          rw [wi1 i (by omega)]
          exact ⟨i + 1, ⟨hi, by omega⟩, (by rw [hn]; simp only [List.length_append, List.length_map, List.length_take, Nat.min_self]; ((try simp only [tpl, List.foldl_cons, List.foldl_nil, List.replicate, List.set_cons_zero, List.set_cons_succ]); repeat (first | exact trivial | refine ⟨.inr rfl, ?_⟩ | refine ⟨.inl rfl, ?_⟩))), (by rw [hn, List.take_length])⟩
      · skip
        (refine WpA.exit ?_; try simp only [go_sem])
        (apply hKx9; (try clear hKx9 Kx9); try simp only [go_sem])
        refine WpA.seq fun Kx20 hKx20 => ?_
        refine WpA.reg fun all hall => ?_
        repeat ((first | refine aOps_nil ?_ | refine aOps_a rfl rfl rfl ?_); try simp only [go_sem])
        repeat ((first | refine aOps_nil ?_ | refine aOps_a rfl rfl rfl ?_); try simp only [go_sem])
        (apply hKx20; (try clear hKx20 Kx20); try simp only [go_sem])
        (refine WpA.ret ?_; try simp only [go_sem])
        have h1 : i = l.length := by omega
        subst h1
        rw [allO_step h6 h0]
        exact RetQ.val (.row _ _ _ _ _ _ rfl (by first | rfl | (simp only [go_sem]; done) | (simp [encL_len]; done) | (simp [encL_len]; omega) | omega))

theorem oall_calls (l : List Int) (hl : l.length ≤ 1000) : PCalls Try.prog 46 [.bor (encZ l)] (.val (.pv (.imm (encL (allO l))))) := by
  have key : ∀ (n : Nat) (l : List Int), l.length < n → l.length ≤ 1000 → PCalls Try.prog 46 [.bor (encZ l)] (.val (.pv (.imm (encL (allO l))))) := by
    intro n
    induction n with
    | zero => intro l h; omega
    | succ n ih => exact fun l h hl => oall_step l (fun x hx => ih x (by omega) (by omega)) hl
  exact key (l.length + 1) l (by omega) hl
end Go.Proofs.Ytfpbdphdahfgbaa
