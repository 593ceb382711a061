/- Whence reads may read. -/
import Derived.Test.YtfpbdphdahfgbaaO5
namespace Go.Proofs.Ytfpbdphdahfgbaa
open Go Go.RowKit Go.Proofs.Ytfpbdphdahfgbaa.Fw

attribute [go_sem] Try.underlying2 Try.underlying43
/-- Whence a read may read: memory as it was, or a write. -/
def mayW (x : Ev) (y : Ev) : Bool := y.kind == 2 && (y.loc == x.loc && y.val == x.val)
def mayTo (l : List Ev) (x : Ev) (k : Nat) : List Int := ((List.range k).filter fun i => mayW x (l.getD i default)).map fun (i : Nat) => (i : Int)
def may0 (x : Ev) (init : List Int) : List Int := if 0 ≤ x.loc ∧ x.loc < init.length ∧ init.getD x.loc.toNat 0 = x.val then [-1] else []
def mayE (l : List Ev) (init : List Int) (r : Nat) : List Int := may0 (l.getD r default) init ++ mayTo l (l.getD r default) l.length
theorem mayTo_succ (l : List Ev) (x : Ev) {k : Nat} (hk : k < l.length) : mayTo l x (k + 1) = mayTo l x k ++ if mayW x l[k] then [(k : Int)] else [] := by
  simp only [mayTo, List.range_succ, List.filter_append, List.map_append]
  congr 1
  by_cases h : mayW x l[k] <;> simp [hk, h]
theorem mayTo_len (l : List Ev) (x : Ev) (k : Nat) : (mayTo l x k).length ≤ k := by
  rw [mayTo, List.length_map]
  exact Nat.le_trans (List.length_filter_le _ _) (by simp)
theorem may0_len (x : Ev) (init : List Int) : (may0 x init).length ≤ 1 := by unfold may0; split <;> simp

set_option maxHeartbeats 4000000 in
theorem may_calls (l : List Ev) (s : Six) (init : List Int) (r : Nat) (hl : l.length ≤ 1000) (hr : r < l.length) (hk1 : l[r].kind = 1) : PCalls Try.prog 89 [exA l s, .pv (.imm (encZ init)), iv r] (.val (.pv (.imm (encZ (mayE l init r))))) := by
  refine PCalls.of_body Try.func89 rfl rfl Try.ntmps89 Try.results89 ?_
  simp only [go_sem, List.replicate]
  rw [show mayE l init r = may0 l[r] init ++ mayTo l l[r] l.length from by rw [mayE, show l.getD r default = l[r] from by simp [hr]]]
  refine WpA.seq fun Kx1 hKx1 => ?_
  refine WpA.reg fun all hall => ?_
  repeat ((first | refine aOps_nil ?_ | refine aOps_a rfl rfl rfl ?_); try simp only [go_sem])
  repeat ((first | refine aOps_nil ?_ | refine aOps_a rfl rfl rfl ?_); try simp only [go_sem])
  (apply hKx1; (try clear hKx1 Kx1); try simp only [go_sem])
  refine WpA.seq fun Kx2 hKx2 => ?_
  refine WpA.seq fun Kx3 hKx3 => ?_
  refine WpA.reg fun all hall => ?_
  repeat ((first | refine aOps_nil ?_ | refine aOps_a rfl rfl rfl ?_); try simp only [go_sem])
  refine aOps_split (d := 13) rfl (fun hg1_2 => ?_) (fun hg1_2 => ?_) <;> (try simp only [decide_eq_true_eq, decide_eq_false_iff_not] at hg1_2) <;> try simp only [go_sem]
  · skip
    omega
  · skip
    (refine aOps_ya rfl rfl rfl (by rw [hall]; rfl) rfl ?_; try simp only [go_sem])
    (refine aOps_ya rfl rfl rfl (by rw [hall]; rfl) rfl ?_; try simp only [go_sem])
    (refine aOps_ya rfl rfl rfl (by rw [hall]; rfl) rfl ?_; try simp only [go_sem])
    (refine aOps_ya rfl rfl rfl (by rw [hall]; rfl) rfl ?_; try simp only [go_sem])
    (refine aOps_ya rfl rfl rfl (by rw [hall]; rfl) rfl ?_; try simp only [go_sem])
    repeat ((first | refine aOps_nil ?_ | refine aOps_a rfl rfl rfl ?_); try simp only [go_sem])
    refine aOps_split (d := 20) rfl (fun hg1_9 => ?_) (fun hg1_9 => ?_) <;> (try simp only [decide_eq_true_eq, decide_eq_false_iff_not] at hg1_9) <;> try simp only [go_sem]
    · skip
      simp at hg1_9; omega
    · skip
      (refine aOps_ya rfl rfl rfl (by rw [hall]; rfl) rfl ?_; try simp only [go_sem])
      (refine aOps_ya rfl rfl rfl (by rw [hall]; rfl) rfl ?_; try simp only [go_sem])
      (refine aOps_ya rfl rfl rfl (by rw [hall]; rfl) rfl ?_; try simp only [go_sem])
      refine aOps_y rfl rfl (by rw [hall]; rfl) rfl (QK.at rfl Try.underlying22 ti25 rfl (by first | exact .inl rfl | exact .inr (.inl rfl) | exact .inr (.inr rfl)) rfl (encE_get hr) rfl ?_)
      try simp only [go_sem]
      (refine aOps_ya rfl rfl rfl (by rw [hall]; rfl) rfl ?_; try simp only [go_sem])
      (refine aOps_ya rfl rfl rfl (by rw [hall]; rfl) rfl ?_; try simp only [go_sem])
      (refine aOps_ya rfl rfl rfl (by rw [hall]; rfl) rfl ?_; try simp only [go_sem])
      repeat ((first | refine aOps_nil ?_ | refine aOps_a rfl rfl rfl ?_); try simp only [go_sem])
      repeat ((first | refine aOps_nil ?_ | refine aOps_a rfl rfl rfl ?_); try simp only [go_sem])
      (apply hKx3; (try clear hKx3 Kx3); try simp only [go_sem])
      (refine WpA.cond rfl (fun hb28 => ?_) (fun hb28 => ?_) <;> try simp only [decide_eq_true_eq, decide_eq_false_iff_not, Bool.not_eq_true', Bool.not_eq_false'] at hb28)
      · skip
        simp [hk1] at hb28
      · skip
        (refine WpA.skip ?_; try simp only [go_sem])
        (apply hKx2; (try clear hKx2 Kx2); try simp only [go_sem])
        refine WpA.seq fun Kx4 hKx4 => ?_
        refine WpA.reg fun all hall => ?_
        repeat ((first | refine aOps_nil ?_ | refine aOps_a rfl rfl rfl ?_); try simp only [go_sem])
        refine aOps_s rfl rfl (QK.at rfl Try.underlying22 ti25 rfl (by first | exact .inl rfl | exact .inr (.inl rfl) | exact .inr (.inr rfl)) rfl (encE_get hr) rfl ?_)
        try simp only [go_sem]
        repeat ((first | refine aOps_nil ?_ | refine aOps_a rfl rfl rfl ?_); try simp only [go_sem])
        refine aOps_s rfl rfl (QK.alloc rfl ti25 (by kernel_rfl) rfl ?_)
        try simp only [go_sem]
        refine aOps_n rfl (aOp.set rfl rfl rfl rfl ?_ ti25 ?_)
        · exact ⟨rfl, (by first | rfl | (simp only [go_sem]; done) | (simp []; done) | (simp []; omega) | omega)⟩
        try simp only [go_sem]
        repeat ((first | refine aOps_nil ?_ | refine aOps_a rfl rfl rfl ?_); try simp only [go_sem])
        (apply hKx4; (try clear hKx4 Kx4); try simp only [go_sem])
        refine WpA.seq fun Kx5 hKx5 => ?_
        refine WpA.reg fun all hall => ?_
        repeat ((first | refine aOps_nil ?_ | refine aOps_a rfl rfl rfl ?_); try simp only [go_sem])
        repeat ((first | refine aOps_nil ?_ | refine aOps_a rfl rfl rfl ?_); try simp only [go_sem])
        (apply hKx5; (try clear hKx5 Kx5); try simp only [go_sem])
        refine WpA.mid (fun (u : Nat) => True) (fun (u : Nat) => tpl 88 [(3, .bat 0 0), (7, .bat 1 0), (8, .row 2 (may0 l[r] init).length)]) (fun (u : Nat) => [.box 30 (exC l s), .box 25 (evC l[r]), .row false 3 1 (encZ (may0 l[r] init))]) ?_ ?_
        · skip
          refine WpA.mid (fun (b : Bool) => may0 l[r] init = if b then [-1] else []) (fun (b : Bool) => tpl 88 [(3, .bat 0 0), (7, .bat 1 0), (8, .row 2 0), (53, bv b)]) (fun (b : Bool) => [.box 30 (exC l s), .box 25 (evC l[r]), .row false 3 1 []]) ?_ ?_
          · skip
            refine WpA.view 8 3 (sz := 1) (by decide) rfl ?_
            try simp only [go_sem]
            refine WpA.regD (0 + 1 + 1 + 1 + 1 + 1 + 1 + 1 + 1 + 1 + 1 + 1 + 1 + 1 + 1 + 1 + 1 + 1 + 1) mixed (by kernel_rfl) fun all hall => ?_
            repeat ((first | refine aOps_nil ?_ | refine aOps_a rfl rfl rfl ?_); try simp only [go_sem])
            refine aOps_split (d := 37) rfl (fun hg5_3 => ?_) (fun hg5_3 => ?_) <;> (try simp only [decide_eq_true_eq, decide_eq_false_iff_not] at hg5_3) <;> try simp only [go_sem]
            · skip
              (refine aOps_ya rfl rfl rfl (by rw [hall]; rfl) rfl ?_; try simp only [go_sem])
              (refine aOps_ya rfl rfl rfl (by rw [hall]; rfl) rfl ?_; try simp only [go_sem])
              (refine aOps_ya rfl rfl rfl (by rw [hall]; rfl) rfl ?_; try simp only [go_sem])
              (refine aOps_ya rfl rfl rfl (by rw [hall]; rfl) rfl ?_; try simp only [go_sem])
              (refine aOps_ya rfl rfl rfl (by rw [hall]; rfl) rfl ?_; try simp only [go_sem])
              repeat ((first | refine aOps_nil ?_ | refine aOps_a rfl rfl rfl ?_); try simp only [go_sem])
              refine aOps_split (d := 44) rfl (fun hg5_10 => ?_) (fun hg5_10 => ?_) <;> (try simp only [decide_eq_true_eq, decide_eq_false_iff_not] at hg5_10) <;> try simp only [go_sem]
              · skip
                obtain ⟨lc, hlc⟩ := Int.eq_ofNat_of_zero_le hg5_3
                have hlt : lc < init.length := by omega
                (refine aOps_ya rfl rfl rfl (by rw [hall]; rfl) rfl ?_; try simp only [go_sem])
                (refine aOps_ya rfl rfl rfl (by rw [hall]; rfl) rfl ?_; try simp only [go_sem])
                (refine aOps_ya rfl rfl rfl (by rw [hall]; rfl) rfl ?_; try simp only [go_sem])
                refine aOps_y rfl rfl (by rw [hall]; rfl) rfl (QK.at rfl Try.underlying43 ti2 rfl (.inr (.inl rfl)) (congrArg (fun z => AV.pv (PV.val (Value.int IntKind.i64 z))) hlc) (encZ_get hlt) rfl ?_)
                try simp only [go_sem]
                (refine aOps_ya rfl rfl rfl (by rw [hall]; rfl) rfl ?_; try simp only [go_sem])
                (refine aOps_ya rfl rfl rfl (by rw [hall]; rfl) rfl ?_; try simp only [go_sem])
                (refine aOps_ya rfl rfl rfl (by rw [hall]; rfl) rfl ?_; try simp only [go_sem])
                (refine aOps_ya rfl rfl rfl (by rw [hall]; rfl) rfl ?_; try simp only [go_sem])
                repeat ((first | refine aOps_nil ?_ | refine aOps_a rfl rfl rfl ?_); try simp only [go_sem])
                repeat ((first | refine aOps_nil ?_ | refine aOps_a rfl rfl rfl ?_); try simp only [go_sem])
                first
                  | exact ⟨_, h0, (by ((try simp only [tpl, List.foldl_cons, List.foldl_nil, List.replicate, List.set_cons_zero, List.set_cons_succ]); repeat (first | exact trivial | refine ⟨.inr rfl, ?_⟩ | refine ⟨.inl rfl, ?_⟩))), rfl⟩
                  | (refine ⟨_, ?_, (by ((try simp only [tpl, List.foldl_cons, List.foldl_nil, List.replicate, List.set_cons_zero, List.set_cons_succ]); repeat (first | exact trivial | refine ⟨.inr rfl, ?_⟩ | refine ⟨.inl rfl, ?_⟩))), rfl⟩
                     rw [may0]
                     have e0 : 0 ≤ l[r].loc ∧ l[r].loc < init.length := ⟨by omega, by omega⟩
                     simp only [e0, true_and]
                     rw [hlc]
                     simp [hlt])
              · skip
                have h0 : may0 l[r] init = if false then [-1] else [] := if_neg (by rintro ⟨_, h, _⟩; first | exact hg5_10 h | exact hg5_3 ‹_›)
                (refine aOps_z rfl (by rw [hall]; rfl) rfl ?_; try simp only [go_sem])
                (refine aOps_z rfl (by rw [hall]; rfl) rfl ?_; try simp only [go_sem])
                (refine aOps_z rfl (by rw [hall]; rfl) rfl ?_; try simp only [go_sem])
                (refine aOps_z rfl (by rw [hall]; rfl) rfl ?_; try simp only [go_sem])
                (refine aOps_z rfl (by rw [hall]; rfl) rfl ?_; try simp only [go_sem])
                (refine aOps_z rfl (by rw [hall]; rfl) rfl ?_; try simp only [go_sem])
                (refine aOps_z rfl (by rw [hall]; rfl) rfl ?_; try simp only [go_sem])
                (refine aOps_z rfl (by rw [hall]; rfl) rfl ?_; try simp only [go_sem])
                repeat ((first | refine aOps_nil ?_ | refine aOps_a rfl rfl rfl ?_); try simp only [go_sem])
                repeat ((first | refine aOps_nil ?_ | refine aOps_a rfl rfl rfl ?_); try simp only [go_sem])
                first
                  | exact ⟨_, h0, (by ((try simp only [tpl, List.foldl_cons, List.foldl_nil, List.replicate, List.set_cons_zero, List.set_cons_succ]); repeat (first | exact trivial | refine ⟨.inr rfl, ?_⟩ | refine ⟨.inl rfl, ?_⟩))), rfl⟩
                  | (refine ⟨_, ?_, (by ((try simp only [tpl, List.foldl_cons, List.foldl_nil, List.replicate, List.set_cons_zero, List.set_cons_succ]); repeat (first | exact trivial | refine ⟨.inr rfl, ?_⟩ | refine ⟨.inl rfl, ?_⟩))), rfl⟩
                     rw [may0]
                     have e0 : 0 ≤ l[r].loc ∧ l[r].loc < init.length := ⟨by omega, by omega⟩
                     simp only [e0, true_and]
                     rw [hlc]
                     simp [hlt])
            · skip
              have h0 : may0 l[r] init = if false then [-1] else [] := if_neg (by rintro ⟨h, _⟩; exact hg5_3 h)
              (refine aOps_z rfl (by rw [hall]; rfl) rfl ?_; try simp only [go_sem])
              (refine aOps_z rfl (by rw [hall]; rfl) rfl ?_; try simp only [go_sem])
              (refine aOps_z rfl (by rw [hall]; rfl) rfl ?_; try simp only [go_sem])
              (refine aOps_z rfl (by rw [hall]; rfl) rfl ?_; try simp only [go_sem])
              (refine aOps_z rfl (by rw [hall]; rfl) rfl ?_; try simp only [go_sem])
              repeat ((first | refine aOps_nil ?_ | refine aOps_a rfl rfl rfl ?_); try simp only [go_sem])
              (refine aOps_z rfl (by rw [hall]; rfl) rfl ?_; try simp only [go_sem])
              (refine aOps_z rfl (by rw [hall]; rfl) rfl ?_; try simp only [go_sem])
              (refine aOps_z rfl (by rw [hall]; rfl) rfl ?_; try simp only [go_sem])
              (refine aOps_z rfl (by rw [hall]; rfl) rfl ?_; try simp only [go_sem])
              (refine aOps_z rfl (by rw [hall]; rfl) rfl ?_; try simp only [go_sem])
              (refine aOps_z rfl (by rw [hall]; rfl) rfl ?_; try simp only [go_sem])
              (refine aOps_z rfl (by rw [hall]; rfl) rfl ?_; try simp only [go_sem])
              (refine aOps_z rfl (by rw [hall]; rfl) rfl ?_; try simp only [go_sem])
              repeat ((first | refine aOps_nil ?_ | refine aOps_a rfl rfl rfl ?_); try simp only [go_sem])
              repeat ((first | refine aOps_nil ?_ | refine aOps_a rfl rfl rfl ?_); try simp only [go_sem])
              first
                | exact ⟨_, h0, (by ((try simp only [tpl, List.foldl_cons, List.foldl_nil, List.replicate, List.set_cons_zero, List.set_cons_succ]); repeat (first | exact trivial | refine ⟨.inr rfl, ?_⟩ | refine ⟨.inl rfl, ?_⟩))), rfl⟩
                | (refine ⟨_, ?_, (by ((try simp only [tpl, List.foldl_cons, List.foldl_nil, List.replicate, List.set_cons_zero, List.set_cons_succ]); repeat (first | exact trivial | refine ⟨.inr rfl, ?_⟩ | refine ⟨.inl rfl, ?_⟩))), rfl⟩
                   rw [may0]
                   have e0 : 0 ≤ l[r].loc ∧ l[r].loc < init.length := ⟨by omega, by omega⟩
                   simp only [e0, true_and]
                   rw [hlc]
                   simp [hlt])
          · skip
            rintro b hp6
            simp only [tpl, List.foldl_cons, List.foldl_nil, List.replicate, List.set_cons_zero, List.set_cons_succ]
            (refine WpA.cond rfl (fun hb53 => ?_) (fun hb53 => ?_) <;> try simp only [decide_eq_true_eq, decide_eq_false_iff_not, Bool.not_eq_true', Bool.not_eq_false'] at hb53)
            · skip
              have hb0 : may0 l[r] init = [-1] := by rw [hp6, hb53]; rfl
              refine WpA.reg fun all hall => ?_
              repeat ((first | refine aOps_nil ?_ | refine aOps_a rfl rfl rfl ?_); try simp only [go_sem])
              refine aOps_s rfl rfl (QK.lit rfl Try.underlying39 ti3 rfl rfl ?_)
              try simp only [go_sem]
              refine aOps_n rfl (aOp.app rfl rfl rfl (by first | rfl | (simp only [go_sem]; done) | (simp []; done) | (simp []; omega) | omega) rfl (by simp [eI, eN, eU]) Try.underlying39 ti3 rfl (by simp) ?_ (by decide))
              try simp only [go_sem]
              repeat ((first | refine aOps_nil ?_ | refine aOps_a rfl rfl rfl ?_); try simp only [go_sem])
              repeat ((first | refine aOps_nil ?_ | refine aOps_a rfl rfl rfl ?_); try simp only [go_sem])
              exact ⟨trivial, (by rw [hb0]; ((try simp only [tpl, List.foldl_cons, List.foldl_nil, List.replicate, List.set_cons_zero, List.set_cons_succ]); repeat (first | exact trivial | refine ⟨.inr rfl, ?_⟩ | refine ⟨.inl rfl, ?_⟩))), (by rw [hb0]; rfl)⟩
            · skip
              have hb0 : may0 l[r] init = [] := by rw [hp6, hb53]; rfl
              (refine WpA.skip ?_; try simp only [go_sem])
              exact ⟨trivial, (by rw [hb0]; ((try simp only [tpl, List.foldl_cons, List.foldl_nil, List.replicate, List.set_cons_zero, List.set_cons_succ]); repeat (first | exact trivial | refine ⟨.inr rfl, ?_⟩ | refine ⟨.inl rfl, ?_⟩))), (by rw [hb0]; rfl)⟩
        · skip
          rintro u hp7
          simp only [tpl, List.foldl_cons, List.foldl_nil, List.replicate, List.set_cons_zero, List.set_cons_succ]
          refine WpA.seq fun Kx6 hKx6 => ?_
          refine WpA.seq fun Kx7 hKx7 => ?_
          refine WpA.reg fun all hall => ?_
          repeat ((first | refine aOps_nil ?_ | refine aOps_a rfl rfl rfl ?_); try simp only [go_sem])
          repeat ((first | refine aOps_nil ?_ | refine aOps_a rfl rfl rfl ?_); try simp only [go_sem])
          (apply hKx7; (try clear hKx7 Kx7); try simp only [go_sem])
          refine WpA.block ?_
          refine WpA.iter (fun (k : Nat) => k ≤ l.length) (fun (k : Nat) => tpl 88 [(7, .bat 1 0), (8, .row 2 (may0 l[r] init ++ mayTo l l[r] k).length), (58, .pv (.imm (encE l))), (59, iv l.length), (60, iv k)]) (fun (k : Nat) => [.box 30 (exC l s), .box 25 (evC l[r]), .row false 3 1 (encZ (may0 l[r] init ++ mayTo l l[r] k))]) (fun (k : Nat) => l.length - k) 0 (by omega) (by simp only [mayTo, List.range_zero, List.filter_nil, List.map_nil, List.append_nil] <;> ((try simp only [tpl, List.foldl_cons, List.foldl_nil, List.replicate, List.set_cons_zero, List.set_cons_succ]); repeat (first | exact trivial | refine ⟨.inr rfl, ?_⟩ | refine ⟨.inl rfl, ?_⟩))) (by simp only [mayTo, List.range_zero, List.filter_nil, List.map_nil, List.append_nil]; rfl) ?_
          rintro k hp0
          simp only [tpl, List.foldl_cons, List.foldl_nil, List.replicate, List.set_cons_zero, List.set_cons_succ]
          refine WpA.seq fun Kx8 hKx8 => ?_
          refine WpA.reg fun all hall => ?_
          repeat ((first | refine aOps_nil ?_ | refine aOps_a rfl rfl rfl ?_); try simp only [go_sem])
          repeat ((first | refine aOps_nil ?_ | refine aOps_a rfl rfl rfl ?_); try simp only [go_sem])
          (apply hKx8; (try clear hKx8 Kx8); try simp only [go_sem])
          refine WpA.seq fun Kx9 hKx9 => ?_
          (refine WpA.cond rfl (fun hb61 => ?_) (fun hb61 => ?_) <;> try simp only [decide_eq_true_eq, decide_eq_false_iff_not, Bool.not_eq_true', Bool.not_eq_false'] at hb61)
          · skip
            have hk : k < l.length := by omega
            have hres := mayTo_succ l l[r] hk
            have hb1 := mayTo_len l l[r] k
            have hb0 := may0_len l[r] init
            (refine WpA.skip ?_; try simp only [go_sem])
            (apply hKx9; (try clear hKx9 Kx9); try simp only [go_sem])
            refine WpA.seq fun Kx10 hKx10 => ?_
            refine WpA.block ?_
            refine WpA.seq fun Kx11 hKx11 => ?_
            refine WpA.reg fun all hall => ?_
            repeat ((first | refine aOps_nil ?_ | refine aOps_a rfl rfl rfl ?_); try simp only [go_sem])
            refine aOps_s rfl rfl (QK.at rfl Try.underlying22 ti25 rfl (by first | exact .inl rfl | exact .inr (.inl rfl) | exact .inr (.inr rfl)) rfl (encE_get hk) rfl ?_)
            try simp only [go_sem]
            repeat ((first | refine aOps_nil ?_ | refine aOps_a rfl rfl rfl ?_); try simp only [go_sem])
            refine aOps_s rfl rfl (QK.alloc rfl ti25 (by kernel_rfl) rfl ?_)
            try simp only [go_sem]
            repeat ((first | refine aOps_nil ?_ | refine aOps_a rfl rfl rfl ?_); try simp only [go_sem])
            refine aOps_n rfl (aOp.set rfl rfl rfl rfl ?_ ti25 ?_)
            · exact ⟨rfl, (by first | rfl | (simp only [go_sem]; done) | (simp []; done) | (simp []; omega) | omega)⟩
            try simp only [go_sem]
            repeat ((first | refine aOps_nil ?_ | refine aOps_a rfl rfl rfl ?_); try simp only [go_sem])
            (apply hKx11; (try clear hKx11 Kx11); try simp only [go_sem])
            refine WpA.seq fun Kx12 hKx12 => ?_
            refine WpA.reg fun all hall => ?_
            repeat ((first | refine aOps_nil ?_ | refine aOps_a rfl rfl rfl ?_); try simp only [go_sem])
            refine aOps_split (d := 68) rfl (fun hg10_3 => ?_) (fun hg10_3 => ?_) <;> (try simp only [decide_eq_true_eq, decide_eq_false_iff_not] at hg10_3) <;> try simp only [go_sem]
            · skip
              (refine aOps_ya rfl rfl rfl (by rw [hall]; rfl) rfl ?_; try simp only [go_sem])
              (refine aOps_ya rfl rfl rfl (by rw [hall]; rfl) rfl ?_; try simp only [go_sem])
              (refine aOps_ya rfl rfl rfl (by rw [hall]; rfl) rfl ?_; try simp only [go_sem])
              (refine aOps_ya rfl rfl rfl (by rw [hall]; rfl) rfl ?_; try simp only [go_sem])
              (refine aOps_ya rfl rfl rfl (by rw [hall]; rfl) rfl ?_; try simp only [go_sem])
              repeat ((first | refine aOps_nil ?_ | refine aOps_a rfl rfl rfl ?_); try simp only [go_sem])
              refine aOps_split (d := 75) rfl (fun hg10_10 => ?_) (fun hg10_10 => ?_) <;> (try simp only [decide_eq_true_eq, decide_eq_false_iff_not] at hg10_10) <;> try simp only [go_sem]
              · skip
                (refine aOps_ya rfl rfl rfl (by rw [hall]; rfl) rfl ?_; try simp only [go_sem])
                (refine aOps_ya rfl rfl rfl (by rw [hall]; rfl) rfl ?_; try simp only [go_sem])
                (refine aOps_ya rfl rfl rfl (by rw [hall]; rfl) rfl ?_; try simp only [go_sem])
                (refine aOps_ya rfl rfl rfl (by rw [hall]; rfl) rfl ?_; try simp only [go_sem])
                (refine aOps_ya rfl rfl rfl (by rw [hall]; rfl) rfl ?_; try simp only [go_sem])
                repeat ((first | refine aOps_nil ?_ | refine aOps_a rfl rfl rfl ?_); try simp only [go_sem])
                repeat ((first | refine aOps_nil ?_ | refine aOps_a rfl rfl rfl ?_); try simp only [go_sem])
                (apply hKx12; (try clear hKx12 Kx12); try simp only [go_sem])
                (refine WpA.cond rfl (fun hb81 => ?_) (fun hb81 => ?_) <;> try simp only [decide_eq_true_eq, decide_eq_false_iff_not, Bool.not_eq_true', Bool.not_eq_false'] at hb81)
                · skip
                  rw [if_pos (by simp only [mayW, hg10_3, hg10_10, hb81]; rfl)] at hres
                  refine WpA.reg fun all hall => ?_
                  repeat ((first | refine aOps_nil ?_ | refine aOps_a rfl rfl rfl ?_); try simp only [go_sem])
                  refine aOps_s rfl rfl (QK.lit rfl Try.underlying39 ti3 rfl rfl ?_)
                  try simp only [go_sem]
                  refine aOps_n rfl (aOp.app rfl rfl rfl (by first | rfl | (simp only [go_sem]; done) | (simp []; done) | (simp []; omega) | omega) rfl (by simp [eI, eN, eU]) Try.underlying39 ti3 rfl (by simp only [List.length_append, List.length_cons, List.length_nil]; omega) ?_ (by decide))
                  try simp only [go_sem]
                  repeat ((first | refine aOps_nil ?_ | refine aOps_a rfl rfl rfl ?_); try simp only [go_sem])
                  repeat ((first | refine aOps_nil ?_ | refine aOps_a rfl rfl rfl ?_); try simp only [go_sem])
                  (apply hKx10; (try clear hKx10 Kx10); try simp only [go_sem])
                  refine WpA.cut 3 (by decide) (by first | rfl | simp only [go_sem]) ?_
                  try simp only [go_sem]
                  refine WpA.reg fun all hall => ?_
                  repeat ((first | refine aOps_nil ?_ | refine aOps_a rfl rfl rfl ?_); try simp only [go_sem])
                  repeat ((first | refine aOps_nil ?_ | refine aOps_a rfl rfl rfl ?_); try simp only [go_sem])
                  rw [wi1 k (by omega)]
                  exact ⟨k + 1, ⟨hk, by omega⟩, (by rw [hres]; simp only [← List.append_assoc, List.length_append, List.length_cons, List.length_nil, List.append_nil]; ((try simp only [tpl, List.foldl_cons, List.foldl_nil, List.replicate, List.set_cons_zero, List.set_cons_succ]); repeat (first | exact trivial | refine ⟨.inr rfl, ?_⟩ | refine ⟨.inl rfl, ?_⟩))), (by rw [hres]; simp [encZ, eI])⟩
                · skip
                  try rw [if_neg (by simp only [mayW, hg10_3, hg10_10, hb81]; decide)] at hres
                  (refine WpA.skip ?_; try simp only [go_sem])
                  (apply hKx10; (try clear hKx10 Kx10); try simp only [go_sem])
                  refine WpA.cut 3 (by decide) (by first | rfl | simp only [go_sem]) ?_
                  try simp only [go_sem]
                  refine WpA.reg fun all hall => ?_
                  repeat ((first | refine aOps_nil ?_ | refine aOps_a rfl rfl rfl ?_); try simp only [go_sem])
                  repeat ((first | refine aOps_nil ?_ | refine aOps_a rfl rfl rfl ?_); try simp only [go_sem])
                  rw [wi1 k (by omega)]
                  exact ⟨k + 1, ⟨hk, by omega⟩, (by rw [hres]; simp only [← List.append_assoc, List.length_append, List.length_cons, List.length_nil, List.append_nil]; ((try simp only [tpl, List.foldl_cons, List.foldl_nil, List.replicate, List.set_cons_zero, List.set_cons_succ]); repeat (first | exact trivial | refine ⟨.inr rfl, ?_⟩ | refine ⟨.inl rfl, ?_⟩))), (by rw [hres]; simp [encZ, eI])⟩
              · skip
                try rw [if_neg (by simp [mayW, hg10_3, hg10_10])] at hres
                (refine aOps_z rfl (by rw [hall]; rfl) rfl ?_; try simp only [go_sem])
                (refine aOps_z rfl (by rw [hall]; rfl) rfl ?_; try simp only [go_sem])
                (refine aOps_z rfl (by rw [hall]; rfl) rfl ?_; try simp only [go_sem])
                (refine aOps_z rfl (by rw [hall]; rfl) rfl ?_; try simp only [go_sem])
                (refine aOps_z rfl (by rw [hall]; rfl) rfl ?_; try simp only [go_sem])
                repeat ((first | refine aOps_nil ?_ | refine aOps_a rfl rfl rfl ?_); try simp only [go_sem])
                repeat ((first | refine aOps_nil ?_ | refine aOps_a rfl rfl rfl ?_); try simp only [go_sem])
                (apply hKx12; (try clear hKx12 Kx12); try simp only [go_sem])
                (refine WpA.cond rfl (fun hb81 => ?_) (fun hb81 => ?_) <;> try simp only [decide_eq_true_eq, decide_eq_false_iff_not, Bool.not_eq_true', Bool.not_eq_false'] at hb81)
                · skip
                  exact absurd hb81 (by decide)
                · skip
                  try rw [if_neg (by simp only [mayW, hg10_3, hg10_10, hb81]; decide)] at hres
                  (refine WpA.skip ?_; try simp only [go_sem])
                  (apply hKx10; (try clear hKx10 Kx10); try simp only [go_sem])
                  refine WpA.cut 3 (by decide) (by first | rfl | simp only [go_sem]) ?_
                  try simp only [go_sem]
                  refine WpA.reg fun all hall => ?_
                  repeat ((first | refine aOps_nil ?_ | refine aOps_a rfl rfl rfl ?_); try simp only [go_sem])
                  repeat ((first | refine aOps_nil ?_ | refine aOps_a rfl rfl rfl ?_); try simp only [go_sem])
                  rw [wi1 k (by omega)]
                  exact ⟨k + 1, ⟨hk, by omega⟩, (by rw [hres]; simp only [← List.append_assoc, List.length_append, List.length_cons, List.length_nil, List.append_nil]; ((try simp only [tpl, List.foldl_cons, List.foldl_nil, List.replicate, List.set_cons_zero, List.set_cons_succ]); repeat (first | exact trivial | refine ⟨.inr rfl, ?_⟩ | refine ⟨.inl rfl, ?_⟩))), (by rw [hres]; simp [encZ, eI])⟩
            · skip
              rw [if_neg (by simp [mayW, hg10_3])] at hres
              (refine aOps_z rfl (by rw [hall]; rfl) rfl ?_; try simp only [go_sem])
              (refine aOps_z rfl (by rw [hall]; rfl) rfl ?_; try simp only [go_sem])
              (refine aOps_z rfl (by rw [hall]; rfl) rfl ?_; try simp only [go_sem])
              (refine aOps_z rfl (by rw [hall]; rfl) rfl ?_; try simp only [go_sem])
              (refine aOps_z rfl (by rw [hall]; rfl) rfl ?_; try simp only [go_sem])
              repeat ((first | refine aOps_nil ?_ | refine aOps_a rfl rfl rfl ?_); try simp only [go_sem])
              (refine aOps_z rfl (by rw [hall]; rfl) rfl ?_; try simp only [go_sem])
              (refine aOps_z rfl (by rw [hall]; rfl) rfl ?_; try simp only [go_sem])
              (refine aOps_z rfl (by rw [hall]; rfl) rfl ?_; try simp only [go_sem])
              (refine aOps_z rfl (by rw [hall]; rfl) rfl ?_; try simp only [go_sem])
              (refine aOps_z rfl (by rw [hall]; rfl) rfl ?_; try simp only [go_sem])
              repeat ((first | refine aOps_nil ?_ | refine aOps_a rfl rfl rfl ?_); try simp only [go_sem])
              repeat ((first | refine aOps_nil ?_ | refine aOps_a rfl rfl rfl ?_); try simp only [go_sem])
              (apply hKx12; (try clear hKx12 Kx12); try simp only [go_sem])
              (refine WpA.cond rfl (fun hb81 => ?_) (fun hb81 => ?_) <;> try simp only [decide_eq_true_eq, decide_eq_false_iff_not, Bool.not_eq_true', Bool.not_eq_false'] at hb81)
              · skip
                exact absurd hb81 (by decide)
              · skip
                try rw [if_neg (by simp only [mayW, hg10_3, hg10_10, hb81]; decide)] at hres
                (refine WpA.skip ?_; try simp only [go_sem])
                (apply hKx10; (try clear hKx10 Kx10); try simp only [go_sem])
                refine WpA.cut 3 (by decide) (by first | rfl | simp only [go_sem]) ?_
                try simp only [go_sem]
                refine WpA.reg fun all hall => ?_
                repeat ((first | refine aOps_nil ?_ | refine aOps_a rfl rfl rfl ?_); try simp only [go_sem])
                repeat ((first | refine aOps_nil ?_ | refine aOps_a rfl rfl rfl ?_); try simp only [go_sem])
                rw [wi1 k (by omega)]
                exact ⟨k + 1, ⟨hk, by omega⟩, (by rw [hres]; simp only [← List.append_assoc, List.length_append, List.length_cons, List.length_nil, List.append_nil]; ((try simp only [tpl, List.foldl_cons, List.foldl_nil, List.replicate, List.set_cons_zero, List.set_cons_succ]); repeat (first | exact trivial | refine ⟨.inr rfl, ?_⟩ | refine ⟨.inl rfl, ?_⟩))), (by rw [hres]; simp [encZ, eI])⟩
          · skip
            (refine WpA.exit ?_; try simp only [go_sem])
            (apply hKx6; (try clear hKx6 Kx6); try simp only [go_sem])
            refine WpA.seq fun Kx13 hKx13 => ?_
            refine WpA.reg fun all hall => ?_
            repeat ((first | refine aOps_nil ?_ | refine aOps_a rfl rfl rfl ?_); try simp only [go_sem])
            repeat ((first | refine aOps_nil ?_ | refine aOps_a rfl rfl rfl ?_); try simp only [go_sem])
            (apply hKx13; (try clear hKx13 Kx13); try simp only [go_sem])
            (refine WpA.ret ?_; try simp only [go_sem])
            have h1 : k = l.length := by omega
            subst h1
            exact RetQ.val (.row _ _ _ _ _ _ rfl (by first | rfl | (simp only [go_sem]; done) | (simp []; done) | (simp []; omega) | omega))

def choTo (l : List Ev) (init : List Int) (k : Nat) : List (List Int) := (List.range k).map fun r => if (l.getD r default).kind = 1 then mayE l init r else [-2]
def choE (l : List Ev) (init : List Int) : List (List Int) := choTo l init l.length
theorem choTo_succ (l : List Ev) (init : List Int) {k : Nat} (hk : k < l.length) : choTo l init (k + 1) = choTo l init k ++ [if l[k].kind = 1 then mayE l init k else [-2]] := by
  simp [choTo, List.range_succ, hk]
theorem choTo_len (l : List Ev) (init : List Int) (k : Nat) : (choTo l init k).length = k := by simp [choTo]

set_option maxHeartbeats 4000000 in
theorem choices_calls (l : List Ev) (s : Six) (init : List Int) (hl : l.length ≤ 1000) : PCalls Try.prog 61 [exA l s, .pv (.imm (encZ init))] (.val (.pv (.imm (encL (choE l init))))) := by
  refine PCalls.of_body Try.func61 rfl rfl Try.ntmps61 Try.results61 ?_
  simp only [go_sem, List.replicate]
  refine WpA.seq fun Kx1 hKx1 => ?_
  refine WpA.reg fun all hall => ?_
  repeat ((first | refine aOps_nil ?_ | refine aOps_a rfl rfl rfl ?_); try simp only [go_sem])
  repeat ((first | refine aOps_nil ?_ | refine aOps_a rfl rfl rfl ?_); try simp only [go_sem])
  (apply hKx1; (try clear hKx1 Kx1); try simp only [go_sem])
  refine WpA.seq fun Kx2 hKx2 => ?_
  refine WpA.reg fun all hall => ?_
  repeat ((first | refine aOps_nil ?_ | refine aOps_a rfl rfl rfl ?_); try simp only [go_sem])
  repeat ((first | refine aOps_nil ?_ | refine aOps_a rfl rfl rfl ?_); try simp only [go_sem])
  (apply hKx2; (try clear hKx2 Kx2); try simp only [go_sem])
  refine WpA.seq fun Kx3 hKx3 => ?_
  refine WpA.seq fun Kx4 hKx4 => ?_
  refine WpA.reg fun all hall => ?_
  repeat ((first | refine aOps_nil ?_ | refine aOps_a rfl rfl rfl ?_); try simp only [go_sem])
  repeat ((first | refine aOps_nil ?_ | refine aOps_a rfl rfl rfl ?_); try simp only [go_sem])
  (apply hKx4; (try clear hKx4 Kx4); try simp only [go_sem])
  refine WpA.block ?_
  refine WpA.view 5 39 (sz := 1) (by decide) rfl ?_
  try simp only [go_sem]
  refine WpA.iter (fun (k : Nat) => k ≤ l.length) (fun (k : Nat) => tpl 31 [(1, .pv (.imm (encZ init))), (2, .bat 0 0), (5, .row 1 (choTo l init k).length), (10, .pv (.imm (encE l))), (11, iv l.length), (12, iv k)]) (fun (k : Nat) => [.box 30 (exC l s), .row false 39 1 (encL (choTo l init k))]) (fun (k : Nat) => l.length - k) 0 (by omega) (by ((try simp only [tpl, List.foldl_cons, List.foldl_nil, List.replicate, List.set_cons_zero, List.set_cons_succ]); repeat (first | exact trivial | refine ⟨.inr rfl, ?_⟩ | refine ⟨.inl rfl, ?_⟩))) rfl ?_
  rintro k hp0
  simp only [tpl, List.foldl_cons, List.foldl_nil, List.replicate, List.set_cons_zero, List.set_cons_succ]
  refine WpA.seq fun Kx5 hKx5 => ?_
  refine WpA.reg fun all hall => ?_
  repeat ((first | refine aOps_nil ?_ | refine aOps_a rfl rfl rfl ?_); try simp only [go_sem])
  repeat ((first | refine aOps_nil ?_ | refine aOps_a rfl rfl rfl ?_); try simp only [go_sem])
  (apply hKx5; (try clear hKx5 Kx5); try simp only [go_sem])
  refine WpA.seq fun Kx6 hKx6 => ?_
  (refine WpA.cond rfl (fun hb13 => ?_) (fun hb13 => ?_) <;> try simp only [decide_eq_true_eq, decide_eq_false_iff_not, Bool.not_eq_true', Bool.not_eq_false'] at hb13)
  · skip
    have hk : k < l.length := by omega
    have hres := choTo_succ l init hk
    have hcl := choTo_len l init k
    (refine WpA.skip ?_; try simp only [go_sem])
    (apply hKx6; (try clear hKx6 Kx6); try simp only [go_sem])
    refine WpA.seq fun Kx7 hKx7 => ?_
    refine WpA.block ?_
    refine WpA.seq fun Kx8 hKx8 => ?_
    refine WpA.reg fun all hall => ?_
    repeat ((first | refine aOps_nil ?_ | refine aOps_a rfl rfl rfl ?_); try simp only [go_sem])
    refine aOps_s rfl rfl (QK.at rfl Try.underlying22 ti25 rfl (by first | exact .inl rfl | exact .inr (.inl rfl) | exact .inr (.inr rfl)) rfl (encE_get hk) rfl ?_)
    try simp only [go_sem]
    repeat ((first | refine aOps_nil ?_ | refine aOps_a rfl rfl rfl ?_); try simp only [go_sem])
    refine aOps_s rfl rfl (QK.alloc rfl ti25 (by kernel_rfl) rfl ?_)
    try simp only [go_sem]
    repeat ((first | refine aOps_nil ?_ | refine aOps_a rfl rfl rfl ?_); try simp only [go_sem])
    refine aOps_n rfl (aOp.set rfl rfl rfl rfl ?_ ti25 ?_)
    · exact ⟨rfl, (by first | rfl | (simp only [go_sem]; done) | (simp []; done) | (simp []; omega) | omega)⟩
    try simp only [go_sem]
    repeat ((first | refine aOps_nil ?_ | refine aOps_a rfl rfl rfl ?_); try simp only [go_sem])
    (apply hKx8; (try clear hKx8 Kx8); try simp only [go_sem])
    refine WpA.seq fun Kx9 hKx9 => ?_
    refine WpA.reg fun all hall => ?_
    refine aOps_s rfl rfl (QK.lit rfl Try.underlying39 ti3 rfl rfl ?_)
    try simp only [go_sem]
    repeat ((first | refine aOps_nil ?_ | refine aOps_a rfl rfl rfl ?_); try simp only [go_sem])
    repeat ((first | refine aOps_nil ?_ | refine aOps_a rfl rfl rfl ?_); try simp only [go_sem])
    (apply hKx9; (try clear hKx9 Kx9); try simp only [go_sem])
    refine WpA.seq fun Kx10 hKx10 => ?_
    refine WpA.seq fun Kx11 hKx11 => ?_
    refine WpA.reg fun all hall => ?_
    repeat ((first | refine aOps_nil ?_ | refine aOps_a rfl rfl rfl ?_); try simp only [go_sem])
    repeat ((first | refine aOps_nil ?_ | refine aOps_a rfl rfl rfl ?_); try simp only [go_sem])
    (apply hKx11; (try clear hKx11 Kx11); try simp only [go_sem])
    (refine WpA.cond rfl (fun hb20 => ?_) (fun hb20 => ?_) <;> try simp only [decide_eq_true_eq, decide_eq_false_iff_not, Bool.not_eq_true', Bool.not_eq_false'] at hb20)
    · skip
      have hk1 : l[k].kind = 1 := by simpa using hb20
      rw [if_pos hk1] at hres
      refine WpA.reg fun all hall => ?_
      repeat ((first | refine aOps_nil ?_ | refine aOps_a rfl rfl rfl ?_); try simp only [go_sem])
      refine aOps_s rfl rfl (QK.call rfl rfl rfl (may_calls l s init k hl hk hk1) (by repeat' (first | exact ConvL.nil | refine ConvL.cons ?_ ?_ | first | exact Conv.pv _ | exact Conv.imm_bor _ | exact Conv.bor _ | exact Conv.tight_imm _ | exact Conv.tight_bor _ | exact Conv.nil_imm | exact Conv.nil_bor | exact Conv.tight _ | exact Conv.at _ | exact Conv.row _ _ _ _ _ _ rfl (by first | rfl | (simp only [go_sem]; done) | (simp []; done) | (simp []; omega) | omega) | exact Conv.bat _ _ _ _ _ rfl rfl | exact Conv.aggp _ _ rfl | refine Conv.fnL _ ?_ | exact Conv.any _)) ?_)
      try simp only [go_sem]
      repeat ((first | refine aOps_nil ?_ | refine aOps_a rfl rfl rfl ?_); try simp only [go_sem])
      repeat ((first | refine aOps_nil ?_ | refine aOps_a rfl rfl rfl ?_); try simp only [go_sem])
      (apply hKx10; (try clear hKx10 Kx10); try simp only [go_sem])
      refine WpA.reg fun all hall => ?_
      repeat ((first | refine aOps_nil ?_ | refine aOps_a rfl rfl rfl ?_); try simp only [go_sem])
      refine aOps_s rfl rfl (QK.lit rfl Try.underlying61 ti39 rfl rfl ?_)
      try simp only [go_sem]
      refine aOps_n rfl (aOp.app rfl rfl rfl (encL_len _) rfl (by simp) Try.underlying61 ti39 rfl (by simp only [List.length_cons, List.length_nil]; omega) ?_ (by decide))
      try simp only [go_sem]
      repeat ((first | refine aOps_nil ?_ | refine aOps_a rfl rfl rfl ?_); try simp only [go_sem])
      repeat ((first | refine aOps_nil ?_ | refine aOps_a rfl rfl rfl ?_); try simp only [go_sem])
      (apply hKx7; (try clear hKx7 Kx7); try simp only [go_sem])
      refine WpA.cut 2 (by decide) (by first | rfl | simp only [go_sem]) ?_
      try simp only [go_sem]
      refine WpA.reg fun all hall => ?_
      repeat ((first | refine aOps_nil ?_ | refine aOps_a rfl rfl rfl ?_); try simp only [go_sem])
      repeat ((first | refine aOps_nil ?_ | refine aOps_a rfl rfl rfl ?_); try simp only [go_sem])
      rw [wi1 k (by omega)]
      exact ⟨k + 1, ⟨hk, by omega⟩, (by rw [hres, List.length_append]; ((try simp only [tpl, List.foldl_cons, List.foldl_nil, List.replicate, List.set_cons_zero, List.set_cons_succ]); repeat (first | exact trivial | refine ⟨.inr rfl, ?_⟩ | refine ⟨.inl rfl, ?_⟩))), (by rw [hres]; simp [encL, eL, encZ, eI])⟩
    · skip
      rw [if_neg (by simpa using hb20)] at hres
      (refine WpA.skip ?_; try simp only [go_sem])
      (apply hKx10; (try clear hKx10 Kx10); try simp only [go_sem])
      refine WpA.reg fun all hall => ?_
      repeat ((first | refine aOps_nil ?_ | refine aOps_a rfl rfl rfl ?_); try simp only [go_sem])
      refine aOps_s rfl rfl (QK.lit rfl Try.underlying61 ti39 rfl rfl ?_)
      try simp only [go_sem]
      refine aOps_n rfl (aOp.app rfl rfl rfl (encL_len _) rfl (by simp) Try.underlying61 ti39 rfl (by simp only [List.length_cons, List.length_nil]; omega) ?_ (by decide))
      try simp only [go_sem]
      repeat ((first | refine aOps_nil ?_ | refine aOps_a rfl rfl rfl ?_); try simp only [go_sem])
      repeat ((first | refine aOps_nil ?_ | refine aOps_a rfl rfl rfl ?_); try simp only [go_sem])
      (apply hKx7; (try clear hKx7 Kx7); try simp only [go_sem])
      refine WpA.cut 2 (by decide) (by first | rfl | simp only [go_sem]) ?_
      try simp only [go_sem]
      refine WpA.reg fun all hall => ?_
      repeat ((first | refine aOps_nil ?_ | refine aOps_a rfl rfl rfl ?_); try simp only [go_sem])
      repeat ((first | refine aOps_nil ?_ | refine aOps_a rfl rfl rfl ?_); try simp only [go_sem])
      rw [wi1 k (by omega)]
      exact ⟨k + 1, ⟨hk, by omega⟩, (by rw [hres, List.length_append]; ((try simp only [tpl, List.foldl_cons, List.foldl_nil, List.replicate, List.set_cons_zero, List.set_cons_succ]); repeat (first | exact trivial | refine ⟨.inr rfl, ?_⟩ | refine ⟨.inl rfl, ?_⟩))), (by rw [hres]; simp [encL, eL, encZ, eI])⟩
  · skip
    (refine WpA.exit ?_; try simp only [go_sem])
    (apply hKx3; (try clear hKx3 Kx3); try simp only [go_sem])
    refine WpA.seq fun Kx12 hKx12 => ?_
    refine WpA.reg fun all hall => ?_
    repeat ((first | refine aOps_nil ?_ | refine aOps_a rfl rfl rfl ?_); try simp only [go_sem])
    repeat ((first | refine aOps_nil ?_ | refine aOps_a rfl rfl rfl ?_); try simp only [go_sem])
    (apply hKx12; (try clear hKx12 Kx12); try simp only [go_sem])
    (refine WpA.ret ?_; try simp only [go_sem])
    have h1 : k = l.length := by omega
    subst h1
    exact RetQ.val (.row _ _ _ _ _ _ rfl (encL_len _).symm)

set_option maxHeartbeats 4000000 in
theorem rf_calls (l : List Ev) (s : Six) (from_ : List Int) (hl : l.length ≤ 1000) (hf : from_.length ≤ 1000) : PCalls Try.prog 40 [exA l s, .pv (.imm (encZ from_))] (.val (.pv (.imm (encU ((from_.zipIdx).foldl (fun r p => putR r p.1 p.2) (newR l.length)))))) := by
  refine PCalls.of_body Try.func40 rfl rfl Try.ntmps40 Try.results40 ?_
  simp only [go_sem, List.replicate]
  refine WpA.seq fun Kx1 hKx1 => ?_
  refine WpA.reg fun all hall => ?_
  repeat ((first | refine aOps_nil ?_ | refine aOps_a rfl rfl rfl ?_); try simp only [go_sem])
  repeat ((first | refine aOps_nil ?_ | refine aOps_a rfl rfl rfl ?_); try simp only [go_sem])
  (apply hKx1; (try clear hKx1 Kx1); try simp only [go_sem])
  refine WpA.seq fun Kx2 hKx2 => ?_
  refine WpA.reg fun all hall => ?_
  repeat ((first | refine aOps_nil ?_ | refine aOps_a rfl rfl rfl ?_); try simp only [go_sem])
  refine aOps_s rfl rfl (QK.call rfl rfl rfl (new_imm l.length (by omega)) (by repeat' (first | exact ConvL.nil | refine ConvL.cons ?_ ?_ | first | exact Conv.pv _ | exact Conv.imm_bor _ | exact Conv.bor _ | exact Conv.tight_imm _ | exact Conv.tight_bor _ | exact Conv.nil_imm | exact Conv.nil_bor | exact Conv.tight _ | exact Conv.at _ | exact Conv.row _ _ _ _ _ _ rfl (by first | rfl | (simp only [go_sem]; done) | (simp []; done) | (simp []; omega) | omega) | exact Conv.bat _ _ _ _ _ rfl rfl | exact Conv.aggp _ _ rfl | refine Conv.fnL _ ?_ | exact Conv.any _)) ?_)
  try simp only [go_sem]
  repeat ((first | refine aOps_nil ?_ | refine aOps_a rfl rfl rfl ?_); try simp only [go_sem])
  repeat ((first | refine aOps_nil ?_ | refine aOps_a rfl rfl rfl ?_); try simp only [go_sem])
  (apply hKx2; (try clear hKx2 Kx2); try simp only [go_sem])
  refine WpA.seq fun Kx3 hKx3 => ?_
  refine WpA.seq fun Kx4 hKx4 => ?_
  refine WpA.reg fun all hall => ?_
  repeat ((first | refine aOps_nil ?_ | refine aOps_a rfl rfl rfl ?_); try simp only [go_sem])
  repeat ((first | refine aOps_nil ?_ | refine aOps_a rfl rfl rfl ?_); try simp only [go_sem])
  (apply hKx4; (try clear hKx4 Kx4); try simp only [go_sem])
  refine WpA.block ?_
  refine WpA.iter (fun (k : Nat) => k ≤ from_.length) (fun (k : Nat) => tpl 25 [(5, .pv (.imm (encU (((from_.zipIdx).take k).foldl (fun r p => putR r p.1 p.2) (newR l.length))))), (12, .pv (.imm (encZ from_))), (13, iv from_.length), (14, iv k)]) (fun (k : Nat) => [.box 30 (exC l s)]) (fun (k : Nat) => from_.length - k) 0 (by omega) (by ((try simp only [tpl, List.foldl_cons, List.foldl_nil, List.replicate, List.set_cons_zero, List.set_cons_succ]); repeat (first | exact trivial | refine ⟨.inr rfl, ?_⟩ | refine ⟨.inl rfl, ?_⟩))) rfl ?_
  rintro k hp0
  simp only [tpl, List.foldl_cons, List.foldl_nil, List.replicate, List.set_cons_zero, List.set_cons_succ]
  refine WpA.seq fun Kx5 hKx5 => ?_
  refine WpA.reg fun all hall => ?_
  repeat ((first | refine aOps_nil ?_ | refine aOps_a rfl rfl rfl ?_); try simp only [go_sem])
  repeat ((first | refine aOps_nil ?_ | refine aOps_a rfl rfl rfl ?_); try simp only [go_sem])
  (apply hKx5; (try clear hKx5 Kx5); try simp only [go_sem])
  refine WpA.seq fun Kx6 hKx6 => ?_
  (refine WpA.cond rfl (fun hb15 => ?_) (fun hb15 => ?_) <;> try simp only [decide_eq_true_eq, decide_eq_false_iff_not, Bool.not_eq_true', Bool.not_eq_false'] at hb15)
  · skip
    have hk : k < from_.length := by omega
    have hn : ((from_.zipIdx).take (k + 1)).foldl (fun r p => putR r p.1 p.2) (newR l.length) = putR (((from_.zipIdx).take k).foldl (fun r p => putR r p.1 p.2) (newR l.length)) from_[k] k := by
      rw [foldl_take (fun r (p : Int × Nat) => putR r p.1 p.2) (newR l.length) from_.zipIdx k (by simpa using hk)]; simp
    (refine WpA.skip ?_; try simp only [go_sem])
    (apply hKx6; (try clear hKx6 Kx6); try simp only [go_sem])
    refine WpA.seq fun Kx7 hKx7 => ?_
    refine WpA.block ?_
    refine WpA.seq fun Kx8 hKx8 => ?_
    refine WpA.reg fun all hall => ?_
    repeat ((first | refine aOps_nil ?_ | refine aOps_a rfl rfl rfl ?_); try simp only [go_sem])
    refine aOps_s rfl rfl (QK.at rfl Try.underlying39 ti3 rfl (by first | exact .inl rfl | exact .inr (.inl rfl) | exact .inr (.inr rfl)) rfl (encZ_get hk) rfl ?_)
    try simp only [go_sem]
    repeat ((first | refine aOps_nil ?_ | refine aOps_a rfl rfl rfl ?_); try simp only [go_sem])
    repeat ((first | refine aOps_nil ?_ | refine aOps_a rfl rfl rfl ?_); try simp only [go_sem])
    (apply hKx8; (try clear hKx8 Kx8); try simp only [go_sem])
    refine WpA.reg fun all hall => ?_
    repeat ((first | refine aOps_nil ?_ | refine aOps_a rfl rfl rfl ?_); try simp only [go_sem])
    refine aOps_s rfl rfl (QK.call rfl rfl rfl (put_imm _ _ _) (by repeat' (first | exact ConvL.nil | refine ConvL.cons ?_ ?_ | first | exact Conv.pv _ | exact Conv.imm_bor _ | exact Conv.bor _ | exact Conv.tight_imm _ | exact Conv.tight_bor _ | exact Conv.nil_imm | exact Conv.nil_bor | exact Conv.tight _ | exact Conv.at _ | exact Conv.row _ _ _ _ _ _ rfl (by first | rfl | (simp only [go_sem]; done) | (simp []; done) | (simp []; omega) | omega) | exact Conv.bat _ _ _ _ _ rfl rfl | exact Conv.aggp _ _ rfl | refine Conv.fnL _ ?_ | exact Conv.any _)) ?_)
    try simp only [go_sem]
    repeat ((first | refine aOps_nil ?_ | refine aOps_a rfl rfl rfl ?_); try simp only [go_sem])
    repeat ((first | refine aOps_nil ?_ | refine aOps_a rfl rfl rfl ?_); try simp only [go_sem])
    (apply hKx7; (try clear hKx7 Kx7); try simp only [go_sem])
    refine WpA.reg fun all hall => ?_
    repeat ((first | refine aOps_nil ?_ | refine aOps_a rfl rfl rfl ?_); try simp only [go_sem])
    repeat ((first | refine aOps_nil ?_ | refine aOps_a rfl rfl rfl ?_); try simp only [go_sem])
    rw [wi1 k (by omega)]
    exact ⟨k + 1, ⟨hk, by omega⟩, (by rw [hn]; ((try simp only [tpl, List.foldl_cons, List.foldl_nil, List.replicate, List.set_cons_zero, List.set_cons_succ]); repeat (first | exact trivial | refine ⟨.inr rfl, ?_⟩ | refine ⟨.inl rfl, ?_⟩))), rfl⟩
  · skip
    (refine WpA.exit ?_; try simp only [go_sem])
    (apply hKx3; (try clear hKx3 Kx3); try simp only [go_sem])
    refine WpA.seq fun Kx9 hKx9 => ?_
    refine WpA.reg fun all hall => ?_
    repeat ((first | refine aOps_nil ?_ | refine aOps_a rfl rfl rfl ?_); try simp only [go_sem])
    repeat ((first | refine aOps_nil ?_ | refine aOps_a rfl rfl rfl ?_); try simp only [go_sem])
    (apply hKx9; (try clear hKx9 Kx9); try simp only [go_sem])
    (refine WpA.ret ?_; try simp only [go_sem])
    have h1 : k = from_.length := by omega
    subst h1
    rw [List.take_of_length_le (by simp)]
    exact RetQ.val (.pv _)
end Go.Proofs.Ytfpbdphdahfgbaa
