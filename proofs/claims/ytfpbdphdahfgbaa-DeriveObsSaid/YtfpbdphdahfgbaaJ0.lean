/- What comes in, as lists; what goes out. -/
import Derived.Test.YtfpbdphdahfgbaaL0
import Derived.Test.YtfpbdphdahfgbaaFw29
import Derived.Test.YtfpbdphdahfgbaaRows
import Derived.WalkKit
import Derived.ProofKit
import Derived.OpenShut
import Derived.ShutString
import Derived.ChangeOld
import Derived.Below
import Derived.SizedLaws
import Derived.Carry
namespace Go.Proofs.Ytfpbdphdahfgbaa
open Go Go.RowKit Go.Proofs.Ytfpbdphdahfgbaa.Fw Go.ChangeShapes Go.WideShapes Go.ChangeAt

theorem own : ownKnob Try.prog.godebug = none := by kernel_rfl
theorem laidOut : laidOutB Try.prog = true := by kernel_rfl

theorem shaped_int {P : Program} {n : Nat} {t : TypeId} {k : IntKind} {ps : List PV} (ht : P.underlying t = some (.int k)) (h : ShapedT P (n + 1) t ps) : ∃ x, ps = [.val (.int k x)] ∧ (Lit.int k x).wf = true := by simpa only [ShapedT, ht] using h
theorem shaped_bool {P : Program} {n : Nat} {t : TypeId} {ps : List PV} (ht : P.underlying t = some .bool) (h : ShapedT P (n + 1) t ps) : ∃ b, ps = [.val (.bool b)] := by simpa only [ShapedT, ht] using h
theorem shaped_slice {P : Program} {n : Nat} {t e : TypeId} {ps : List PV} (ht : P.underlying t = some (.slice e)) (h : ShapedT P (n + 1) t ps) : ∃ es, ps = [.imm es] ∧ es.length ≤ maxLen ∧ ∀ x ∈ es, ShapedT P n e x := by simpa only [ShapedT, ht] using h

theorem enc_of {α : Type} {f : α → List PV} {es : List (List PV)} {Q : α → Prop} (h : ∀ e ∈ es, ∃ x, e = f x ∧ Q x) : ∃ l : List α, es = l.map f ∧ ∀ x ∈ l, Q x := by
  induction es with
  | nil => exact ⟨[], rfl, by simp⟩
  | cons e es ih =>
    obtain ⟨l, h1, h2⟩ := ih fun e he => h e (by simp [he])
    obtain ⟨x, h3, h4⟩ := h e (by simp)
    exact ⟨x :: l, by rw [h1, h3]; rfl, fun y hy => by
      rcases List.mem_cons.1 hy with rfl | hy
      · exact h4
      · exact h2 y hy⟩
theorem list1_of {α : Type} {l : List α} {n : Nat} {x : α} (h : (l.drop n).take 1 = [x]) : l[n]? = some x := by
  have : ((l.drop n).take 1)[0]? = some x := by rw [h]; rfl
  rw [List.getElem?_take] at this
  simpa using this

/-- An event, cell by cell. -/
theorem shaped_event {n : Nat} {ps : List PV} (h : ShapedT Try.prog (n + 2) 25 ps) : ∃ x : Ev, ps = eE x := by
  unfold ShapedT at h
  rw [show Try.prog.underlying 25 = _ from Try.underlying25] at h
  simp only at h
  obtain ⟨hl, hf⟩ := h
  have c3 : Try.prog.cellsOf 3 = 1 := by kernel_rfl
  have c2 : Try.prog.cellsOf 2 = 1 := by kernel_rfl
  have c4 : Try.prog.cellsOf 4 = 1 := by kernel_rfl
  have hl7 : ps.length = 7 := by rw [hl]; kernel_rfl
  simp only [List.mem_cons, List.not_mem_nil, or_false, forall_eq_or_imp, forall_eq, c3, c2, c4] at hf
  obtain ⟨h0, h1, h2, h3, h4, h5, h6⟩ := hf
  obtain ⟨x0, e0, _⟩ := shaped_int Try.underlying3 h0
  obtain ⟨x1, e1, _⟩ := shaped_int Try.underlying3 h1
  obtain ⟨x2, e2, _⟩ := shaped_int Try.underlying3 h2
  obtain ⟨x3, e3, _⟩ := shaped_int Try.underlying2 h3
  obtain ⟨x4, e4⟩ := shaped_bool Try.underlying4 h4
  obtain ⟨x5, e5⟩ := shaped_bool Try.underlying4 h5
  obtain ⟨x6, e6⟩ := shaped_bool Try.underlying4 h6
  refine ⟨⟨x0, x1, x2, x3, x4, x5, x6⟩, ?_⟩
  have g0 := list1_of e0
  have g1 := list1_of e1
  have g2 := list1_of e2
  have g3 := list1_of e3
  have g4 := list1_of e4
  have g5 := list1_of e5
  have g6 := list1_of e6
  match ps, hl7 with
  | [a, b, c, d, e, f, g], _ =>
    simp at g0 g1 g2 g3 g4 g5 g6
    simp [eE, g0, g1, g2, g3, g4, g5, g6]

section
variable {H : Type} {enc : TypeId × Value → H} {W : World} {a : Option Addr} {len cap : Nat} {d : DataW H} {p : List MemPlace}
/-- A slice that comes in. -/
theorem open_imm {n : Nat} {t e : TypeId} (hs : simpleT Try.prog (n + 1) t = true) (ht : Try.prog.underlying t = some (.slice e)) (h : DataW.Trod enc Try.prog W 0 (fun _ => true) true t (.slice a len cap) d p) :
    ∃ es, RepP W (fun b => b < W.heap.size) (.imm es) (.slice a len cap) ∧ es.length ≤ maxLen ∧ ∀ x ∈ es, ShapedT Try.prog n e x := by
  obtain ⟨m, hm⟩ := h
  obtain ⟨ps, h1, h2⟩ := trod_shape (n + 1) t m _ _ hs hm
  obtain ⟨es, rfl, h3, h4⟩ := shaped_slice ht h2
  exact ⟨es, (h1.2 0 _ _ rfl rfl).1, h3, h4⟩
theorem open_evs (h : DataW.Trod enc Try.prog W 0 (fun _ => true) true 22 (.slice a len cap) d p) : ∃ l : List Ev, RepP W (fun b => b < W.heap.size) (.imm (encE l)) (.slice a len cap) ∧ l.length ≤ maxLen := by
  obtain ⟨es, h1, h2, h3⟩ := open_imm (n := 2) (by kernel_rfl) Try.underlying22 h
  obtain ⟨l, rfl, _⟩ := enc_of (f := eE) (Q := fun _ => True) fun e he => by obtain ⟨x, hx⟩ := shaped_event (h3 e he); exact ⟨x, hx, trivial⟩
  exact ⟨l, h1, by simpa using h2⟩
theorem open_is (h : DataW.Trod enc Try.prog W 0 (fun _ => true) true 43 (.slice a len cap) d p) : ∃ l : List Int, RepP W (fun b => b < W.heap.size) (.imm (encZ l)) (.slice a len cap) ∧ l.length ≤ maxLen := by
  obtain ⟨es, h1, h2, h3⟩ := open_imm (n := 1) (by kernel_rfl) Try.underlying43 h
  obtain ⟨l, rfl, _⟩ := enc_of (f := eI) (Q := fun _ => True) fun e he => by obtain ⟨x, hx, _⟩ := shaped_int Try.underlying2 (h3 e he); exact ⟨x, hx, trivial⟩
  exact ⟨l, h1, by simpa using h2⟩
theorem open_us (h : DataW.Trod enc Try.prog W 0 (fun _ => true) true 26 (.slice a len cap) d p) : ∃ l : List (BitVec 32), RepP W (fun b => b < W.heap.size) (.imm (encU l)) (.slice a len cap) ∧ l.length ≤ maxLen := by
  obtain ⟨es, h1, h2, h3⟩ := open_imm (n := 1) (by kernel_rfl) Try.underlying26 h
  obtain ⟨l, rfl, _⟩ := enc_of (f := eU) (Q := fun _ => True) fun e he => by
    obtain ⟨x, hx, hw⟩ := shaped_int Try.underlying76 (h3 e he)
    refine ⟨BitVec.ofInt 32 x, ?_, trivial⟩
    rw [hx, eU]
    have h0 : 0 ≤ x ∧ x ≤ 4294967295 := by simpa [Lit.wf, IntKind.min, IntKind.max, IntKind.signed, IntKind.bits] using hw
    congr 3
    rw [BitVec.toNat_ofInt]
    omega
  exact ⟨l, h1, by simpa using h2⟩
end

/-- A call that tells true. -/
theorem true_calls {f : FuncId} {args : List PV} (h : PCalls Try.prog f (args.map .pv) (.val (bv true))) {W : World} {vs : List Value} (hl : args.length = vs.length) (hr : ∀ (i : Nat) p v, args[i]? = some p → vs[i]? = some v → RepP W (fun b => b < W.heap.size) p v) :
    Calls Try.prog f vs.toArray W fun e W' => e = .returned (.bool true) ∧ Below W.heap.size W W' := by
  refine (h.run W (fun b => b < W.heap.size) vs (fun _ h => h) (by simpa using hl) fun i a v ha hv => ?_).mono fun e W' ⟨hb, u, he, G, _, hr⟩ => ?_
  · rw [List.getElem?_map] at ha
    obtain ⟨p, hp, rfl⟩ := Option.map_eq_some_iff.1 ha
    exact .pv (hr i p v hp hv)
  · subst he
    have := rep_val hr
    subst this
    exact ⟨rfl, hb⟩
end Go.Proofs.Ytfpbdphdahfgbaa
