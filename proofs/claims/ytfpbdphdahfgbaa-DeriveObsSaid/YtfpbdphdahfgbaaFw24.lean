/- Steps for the symbolic walk. -/
import Derived.Test.YtfpbdphdahfgbaaFw23
namespace Go.Proofs.Ytfpbdphdahfgbaa.Fw
open Go Go.RowKit

section
variable {P : Program} {n : Nat} {Q : Exit → List AV → List Blk → Prop} {e : List AV} {H : List Blk} {K : List AV → List Blk → Prop} {all : Array Oper} {o : Oper} {rest : List Oper} {m : Nat}

theorem aOps_nil (h : K e H) : aOps P all m [] e H K := h
theorem aOps_n (hg : o.guard = none) (h : aOp P o e H (fun v H' => aOps P all 0 rest (eput e o.dst v) H' K)) : aOps P all 0 (o :: rest) e H K := by
  unfold aOps
  simp only [hg, Nat.lt_irrefl, if_false]
  exact h
theorem aOps_q (hg : o.guard = none) (h : QK P o e H (fun v H' => aOps P all m rest (eput e o.dst v) H' K)) : aOps P all (m + 1) (o :: rest) e H K := by
  unfold aOps
  simp only [hg, Nat.zero_lt_succ, if_true, Nat.add_sub_cancel]
  exact h
theorem aOps_gn {g d : Nat} {want b : Bool} (hg : o.guard = some (g, want)) (hd : (all[g]?).bind (·.dst) = some d) (he : e[d]? = some (.pv (.val (.bool b))))
    (h1 : b = want → aOp P o (e.set d (.pv (.val (.bool want)))) H (fun v H' => aOps P all 0 rest (eput (e.set d (.pv (.val (.bool want)))) o.dst v) H' K))
    (h2 : b = !want → aOps P all 0 rest (eput (e.set d (.pv (.val (.bool !want)))) o.dst und) H K) : aOps P all 0 (o :: rest) e H K := by
  unfold aOps
  simp only [hg, hd, Nat.lt_irrefl, if_false]
  exact .inl ⟨b, he, h1, h2⟩
theorem aOps_gq {g d : Nat} {want b : Bool} (hg : o.guard = some (g, want)) (hd : (all[g]?).bind (·.dst) = some d) (he : e[d]? = some (.pv (.val (.bool b))))
    (h1 : b = want → QK P o (e.set d (.pv (.val (.bool want)))) H (fun v H' => aOps P all m rest (eput (e.set d (.pv (.val (.bool want)))) o.dst v) H' K))
    (h2 : b = !want → aOps P all m rest (eput (e.set d (.pv (.val (.bool !want)))) o.dst und) H K) : aOps P all (m + 1) (o :: rest) e H K := by
  unfold aOps
  simp only [hg, hd, Nat.zero_lt_succ, if_true, Nat.add_sub_cancel]
  exact .inl ⟨b, he, h1, h2⟩

theorem WpA.reg {id : Nat} {l : List Oper} (h : ∀ all : Array Oper, all = l.toArray → aOps P all 0 l e H (Q .normal)) : WpA P n (.region id l.toArray false) Q e H := WpA.region (by simpa using h _ rfl)
theorem WpA.regD {id : Nat} {l : List Oper} (m : Nat) (hmix : P.follows .mixedOrders = true) (hok : drawOk l.toArray m = true) (h : ∀ all : Array Oper, all = l.toArray → aOps P all m l e H (Q .normal)) : WpA P n (.region id l.toArray true) Q e H :=
  WpA.regionDraw (m := m) hmix hok (by simpa using h _ rfl)

/-- A call that turns nothing. -/
theorem QK.call {c : Call} {f : Operand} {g : FuncId} {as bs : List AV} {r : Res} {Kv : AV → List Blk → Prop} (ho : o.op = .call c) (hc : c.callee = .value f) (hf : CallF (ev e) f c.args = some (g, as)) (hp : PCalls P g bs r) (hcv : ConvL H as bs) (hK : Kv (r.av H.length) (r.add H)) : QK P o e H Kv :=
  ⟨r, by simp only [QR, ho, CallQ, hc]; exact ⟨g, as, bs, hf, hp, hcv⟩, hK⟩
theorem aOp.call {c : Call} {f : Operand} {g : FuncId} {as bs : List AV} {r : Res} {Kv : AV → List Blk → Prop} (ho : o.op = .call c) (hc : c.callee = .value f) (hf : CallF (ev e) f c.args = some (g, as)) (hp : PCalls P g bs r) (hcv : ConvL H as bs) (hK : Kv (r.av H.length) (r.add H)) : aOp P o e H Kv := by
  unfold aOp
  simp only [ho, hc]
  exact .inl (QK.call ho hc hf hp hcv hK)
theorem aOp.acall {c : Call} {f : Operand} {g : FuncId} {as bs : List AV} {R Kv : AV → List Blk → Prop} (ho : o.op = .call c) (hc : c.callee = .value f) (hf : CallF (ev e) f c.args = some (g, as)) (hw : WkL H as bs) (hp : ACalls P g bs H R) (hK : ∀ v H', R v H' → Kv v H') : aOp P o e H Kv := by
  unfold aOp
  simp only [ho, hc]
  exact .inr ⟨g, as, bs, R, hf, hw, hp, hK⟩
end
end Go.Proofs.Ytfpbdphdahfgbaa.Fw
