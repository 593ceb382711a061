/- What all statements of layer 13 begin with. -/
import Derived.Test.YtfpbdphdahfgbaaL0
import Derived.Test.YtfpbdphdahfgbaaQ6
namespace Go.Proofs.Ytfpbdphdahfgbaa
open Go Go.RowKit Go.Proofs.Ytfpbdphdahfgbaa.Fw

def exN (l : List Ev) : List AV := [.pv (.imm (encE l)), .nil, .nil, .nil, .nil, .nil, .nil]
attribute [go_sem] exN
def xEv (k v : Int) : Ev := ⟨0, k, 0, v, false, false, false⟩
theorem sh13 : sameR (frE [xEv 2 0, xEv 2 1, xEv 1 0] [-2, -2, 0] [2#32, 0#32, 0#32]) [0#32, 0#32, 2#32] = true := by decide +kernel
set_option maxHeartbeats 4000000 in
theorem shown13_calls  : PCalls Try.prog 32 [] (.val (bv true)) := by
  refine PCalls.of_body Try.func32 rfl rfl Try.ntmps32 Try.results32 ?_
  simp only [go_sem, List.replicate]
  refine WpA.seq fun Kx1 hKx1 => ?_
  refine WpA.reg fun all hall => ?_
  repeat ((first | refine aOps_nil ?_ | refine aOps_a rfl rfl rfl ?_); try simp only [go_sem])
  repeat ((first | refine aOps_nil ?_ | refine aOps_a rfl rfl rfl ?_); try simp only [go_sem])
  (apply hKx1; (try clear hKx1 Kx1); try simp only [go_sem])
  refine WpA.seq fun Kx2 hKx2 => ?_
  refine WpA.reg fun all hall => ?_
  refine aOps_s rfl rfl (QK.build (l := [(0, 1), (1, 1), (2, 1), (3, 1), (4, 1), (5, 1), (6, 1)]) rfl Try.underlying25 (by kernel_rfl) ti25 rfl ?_)
  try simp only [go_sem]
  refine aOps_s rfl rfl (QK.build (l := [(0, 1), (1, 1), (2, 1), (3, 1), (4, 1), (5, 1), (6, 1)]) rfl Try.underlying25 (by kernel_rfl) ti25 rfl ?_)
  try simp only [go_sem]
  refine aOps_s rfl rfl (QK.build (l := [(0, 1), (1, 1), (2, 1), (3, 1), (4, 1), (5, 1), (6, 1)]) rfl Try.underlying25 (by kernel_rfl) ti25 rfl ?_)
  try simp only [go_sem]
  refine aOps_s rfl rfl (QK.lit rfl Try.underlying22 ti25 rfl rfl ?_)
  try simp only [go_sem]
  refine aOps_s rfl rfl (QK.build (l := [(0, 1), (1, 1), (2, 1), (3, 1), (4, 1), (5, 1), (6, 1)]) rfl Try.underlying30 (by kernel_rfl) ti30 rfl ?_)
  try simp only [go_sem]
  refine aOps_s rfl rfl (QK.alloc rfl ti30 (by kernel_rfl) rfl ?_)
  try simp only [go_sem]
  refine aOps_n rfl (aOp.set rfl rfl rfl rfl ?_ ti30 ?_)
  · exact ⟨rfl, (by first | rfl | (simp only [go_sem]; done) | (simp []; done) | (simp []; omega) | omega)⟩
  try simp only [go_sem]
  repeat ((first | refine aOps_nil ?_ | refine aOps_a rfl rfl rfl ?_); try simp only [go_sem])
  (apply hKx2; (try clear hKx2 Kx2); try simp only [go_sem])
  refine WpA.seq fun Kx3 hKx3 => ?_
  refine WpA.reg fun all hall => ?_
  repeat ((first | refine aOps_nil ?_ | refine aOps_a rfl rfl rfl ?_); try simp only [go_sem])
  refine aOps_s rfl rfl (QK.lit rfl Try.underlying39 ti3 rfl rfl ?_)
  try simp only [go_sem]
  refine aOps_s rfl rfl (QK.lit rfl Try.underlying27 ti76 rfl rfl ?_)
  try simp only [go_sem]
  refine aOps_s rfl rfl (QK.call rfl rfl rfl (fr_calls [xEv 2 0, xEv 2 1, xEv 1 0] s0 [-2, -2, 0] [2#32, 0#32, 0#32] (by simp) rfl) (.cons (.aggp _ _ rfl) (.cons (.tight_imm (encZ [-2, -2, 0])) (.cons (.tight_imm (encU [2#32, 0#32, 0#32])) .nil))) ?_)
  try simp only [go_sem]
  refine aOps_s rfl rfl (QK.lit rfl Try.underlying27 ti76 rfl rfl ?_)
  try simp only [go_sem]
  refine aOps_s rfl rfl (QK.call rfl rfl rfl (same_calls (frE [xEv 2 0, xEv 2 1, xEv 1 0] [-2, -2, 0] [2#32, 0#32, 0#32]) [0#32, 0#32, 2#32]) (.cons (.imm_bor _) (.cons (.tight_bor (encU [0#32, 0#32, 2#32])) .nil)) ?_)
  try simp only [go_sem]
  rw [sh13]
  repeat ((first | refine aOps_nil ?_ | refine aOps_a rfl rfl rfl ?_); try simp only [go_sem])
  repeat ((first | refine aOps_nil ?_ | refine aOps_a rfl rfl rfl ?_); try simp only [go_sem])
  (apply hKx3; (try clear hKx3 Kx3); try simp only [go_sem])
  (refine WpA.ret ?_; try simp only [go_sem])
  exact RetQ.val (.pv _)

theorem dr_facts {l : List Ev} (hl : l.length ≤ 8) {init a : List Int} {co : List (BitVec 32)} (h1 : a ∈ srcE l init) (h2 : co ∈ allE l) : SrcOk l a ∧ ∃ f, choice l (placesE l).length f ∧ IsWay l (placesE l).length f co := ⟨src_ok h1, ways_any (by omega) h2⟩

attribute [go_sem] Try.underlying58
end Go.Proofs.Ytfpbdphdahfgbaa
