/- Calls of the library that write over a row of integers: what they leave, said of abstract blocks. -/
import Derived.Test.YtfpbdphdahfgbaaFw26
import Derived.Sort.OwnSortedInts
import Derived.Lib.SlicesCompact
namespace Go.Proofs.Ytfpbdphdahfgbaa.Fw
open Go Go.RowKit Go.Sort

def eI (x : Int) : List PV := [.val (.int .i64 x)]
def encZ (l : List Int) : List (List PV) := l.map eI
theorem encZ_len (l : List Int) : (encZ l).length = l.length := by simp [encZ]

section
variable {w : World} {σ : Ctx} {H : List Blk} {id : Nat} {el : TypeId} {l : List Int}

theorem encZ_flat (l : List Int) : (encZ l).flatten = l.map fun x => PV.val (.int .i64 x) := by
  induction l with
  | nil => rfl
  | cons x l ih => simpa [encZ, eI] using ih

/-- Where a row of integers lies. -/
theorem row_ints (hh : HeapOk w σ H) {fz : Bool} (hid : H[id]? = some (.row fz el 1 (encZ l))) :
    (l = [] ∧ σ.row id 0 = .slice none 0 0) ∨ ∃ g cap cur, σ.row id l.length = .slice (some ⟨g, 0, none⟩) l.length cap ∧ σ.base ≤ g ∧ g < w.heap.size ∧ w.heap[g]? = some (.cells cur el (0, 0)) ∧ l.length ≤ cap ∧ cap ≤ maxLen ∧ cur.size = cap ∧ cur.toList.take l.length = l.map (Value.int .i64) := by
  obtain ⟨_, _, _, _, ⟨xs, ho, hx⟩, _⟩ := hh.ok id _ hid
  rw [encZ_len] at ho
  have hxs : xs = l.map (Value.int .i64) := by
    apply List.ext_getElem?
    intro k
    have hlen : xs.length = l.length := by have := ho.1; omega
    by_cases hk : k < l.length
    · obtain ⟨v, h1, _, h3⟩ := hx k (.val (.int .i64 l[k])) (by rw [encZ_flat]; simp [hk])
      cases h3
      rw [h1]; simp [hk]
    · rw [List.getElem?_eq_none (by omega), List.getElem?_eq_none (by simp; omega)]
  subst hxs
  rcases ho.2 with ⟨h1, h2⟩ | ⟨g, cap, cur, h1, h2, h3, h4, h5, h6, h7⟩
  · have h0 : l = [] := List.eq_nil_of_length_eq_zero h2
    subst h0
    exact .inl ⟨rfl, h1⟩
  · exact .inr ⟨g, cap, cur, h1, h2, (Array.getElem?_eq_some_iff.1 h3).1, h3, h4, h5, by omega, by simpa using h7⟩

/-- The same row, written over. -/
theorem turn_ints (hh : HeapOk w σ H) (hid : H[id]? = some (.row false el 1 (encZ l))) {g cap : Nat} (h5 : σ.row id l.length = .slice (some ⟨g, 0, none⟩) l.length cap) (ts : List Int) (hl : ts.length = l.length) (n : Nat) (os : Array Obj) :
    HeapOk (grow (putRow (Value.int .i64) (Sort.ahead w n) g 0 ts.toArray) os) σ (H.set id (.row false el 1 (encZ ts))) ∧ Step w σ H (grow (putRow (Value.int .i64) (Sort.ahead w n) g 0 ts.toArray) os) σ (H.set id (.row false el 1 (encZ ts))) := by
  have hb := hh.ok id _ hid
  have hr := row_ints hh hid
  obtain ⟨cur, h6, h7, h8, h9, h10, h11⟩ : ∃ cur, σ.base ≤ g ∧ w.heap[g]? = some (.cells cur el (0, 0)) ∧ l.length ≤ cap ∧ cap ≤ maxLen ∧ cur.size = cap ∧ cur.toList.take l.length = l.map (Value.int .i64) := by
    rcases hr with ⟨h0, h1⟩ | ⟨g', cap', cur, h1, h2, _, h3, h4, h4', h6, h7⟩
    · subst h0
      rw [List.length_nil] at h5
      rw [h5] at h1
      injection h1 with h1
      cases h1
    · rw [h5] at h1
      injection h1 with e1 _ e2
      injection e1 with e1
      injection e1 with e1
      subst e1
      subst e2
      exact ⟨cur, h2, h3, h4, h4', h6, h7⟩
  obtain ⟨_, hcur, hbox, _, _, hf⟩ := hb
  rw [encZ_len] at hcur hf
  have hgw := grownBy_sortedI (w := w) (g := g) (n := n) (os := os) ts.toArray
  have hheap : ∀ k, k < w.heap.size → blkOf σ id (.row false el 1 (encZ l)) ≠ some k → (grow (putRow (Value.int .i64) (Sort.ahead w n) g 0 ts.toArray) os).heap[k]? = w.heap[k]? := fun k hk hne => hgw.block k hk fun e => hne (by
    injection e with e
    subst e
    simp [blkOf, encZ_len, h5, Value.ownBlock])
  refine upd_ok (b' := .row false el 1 (encZ ts)) hh hid rfl ⟨hgw.os, hgw.tape, hgw.output⟩ hgw.size hheap rfl (fun _ h => .inl h) (fun _ _ => rfl) (fun _ _ => rfl)
    ⟨Nat.le_refl _, fun _ h => h, keep_cells hh hid rfl hheap, fun i c h => ⟨c, h, Nat.le_refl _, fun _ _ => rfl⟩, fun _ _ h => h⟩ ?_ (fun b hb => .inl (by simpa [blkOf, encZ_len, hl] using hb))
  refine ⟨Nat.one_pos, by rw [encZ_len, hl]; exact hcur, hbox, by simp [encZ, eI], ⟨ts.map (Value.int .i64), ?_, fun k p hk => ?_⟩, fun b hb => ⟨fun h => by simp at h, fun _ => ?_⟩⟩
  · rw [encZ_len, hl, h5]
    exact ownsRow_sortedI hl h6 h7 h8 h9 (by omega)
  · rw [encZ_flat, List.getElem?_map] at hk
    obtain ⟨x, hx, rfl⟩ := Option.map_eq_some_iff.1 hk
    exact ⟨.int .i64 x, by simp [hx], rfl, .val _⟩
  · rw [encZ_len, hl] at hb
    exact (hf b hb).2 rfl

theorem rep_row_eq {n : Nat} {v : Value} (h : Rep w σ (.row id n) v) : v = σ.row id n := by cases h; rfl
theorem rep_iv {x : Int} {v : Value} (h : Rep w σ (.pv (.val (.int .i64 x))) v) : v = .int .i64 x := rep_val h

/-- The front of a row. -/
theorem rep_front (hh : HeapOk w σ H) {fz : Bool} (hid : H[id]? = some (.row fz el 1 (encZ l))) {g cap : Nat} (h5 : σ.row id l.length = .slice (some ⟨g, 0, none⟩) l.length cap) (hc : l.length ≤ cap) {m : Nat} (hm : m ≤ l.length) : Rep w σ (.sub id l.length 1 0 m) (.slice (some ⟨g, 0, none⟩) m cap) := by
  obtain ⟨_, hcur, _⟩ := hh.ok id _ hid
  rw [encZ_len] at hcur
  have := Rep.sub (w := w) (σ := σ) id l.length 1 0 m l.length cap (some ⟨g, 0, none⟩) hcur (Nat.le_refl _) h5 (Nat.zero_le _) hm hc
  have e : (if cap = 0 then (some ⟨g, 0, none⟩ : Option Addr) else (some ⟨g, 0, none⟩ : Option Addr).map (·.add (0 * 1))) = some ⟨g, 0, none⟩ := by
    split
    · rfl
    · simp [Addr.add]
  rw [e, Nat.sub_zero, Nat.sub_zero] at this
  exact this

section
variable {P : Program} {f : FuncId} {R : AV → List Blk → Prop}

theorem set_same (hid : H[id]? = some (.row false el 1 (encZ l))) : H.set id (.row false el 1 (encZ l)) = H := by
  apply List.ext_getElem?
  intro j
  rw [List.getElem?_set]
  by_cases hj : id = j
  · subst hj; simp only [if_true]; rw [if_pos (List.getElem?_eq_some_iff.1 hid).1]; exact hid.symm
  · rw [if_neg hj]

/-- slices.Sort on an own row. -/
theorem sort_acalls (hp : ∀ vs w, (callFunc f vs).run P w = .ok (.enter f vs) w)
    (hs : ∀ (blk off cap : Nat) (zs : List Int) (w : World), Holds (Value.int .i64) w blk off zs.toArray → blk < w.heap.size → zs.length < 4611686018427387904 →
      Calls P f #[.slice (some ⟨blk, off, none⟩) zs.length cap] w fun e w' => e = .returned (.tuple #[]) ∧ ∃ n os, w' = grow (putRow (Value.int .i64) (Sort.ahead w n) blk off (zs.mergeSort fun x y => decide (x ≤ y)).toArray) os)
    (h0 : ∀ (p : Option Addr) (cap : Nat) (w : World), Calls P f #[.slice p 0 cap] w fun e w' => e = .returned (.tuple #[]) ∧ w' = w)
    (hid : H[id]? = some (.row false el 1 (encZ l))) (hl : l.length < 4611686018427387904) :
    ACalls P f [.row id l.length] H fun v H' => v = .tup [] ∧ H' = H.set id (.row false el 1 (encZ (l.mergeSort fun x y => decide (x ≤ y)))) := by
  refine ⟨hp, fun w σ vs hh hlen hr => ?_⟩
  match vs, hlen with
  | [v], _ =>
    have hv := rep_row_eq (hr 0 _ _ rfl rfl)
    subst hv
    rcases row_ints hh hid with ⟨e0, h1⟩ | ⟨g, cap, cur, h1, _, h2, h3, _, _, _, h7⟩
    · subst e0
      show Calls P f #[σ.row id 0] w _
      rw [h1]
      refine (h0 none 0 w).mono fun e w' ⟨he, hw⟩ => ?_
      subst hw
      exact ⟨_, .tup [], H, σ, he, ⟨rfl, by simp [set_same hid]⟩, hh, Step.refl _ _ _, .tup [] [] rfl fun i p v h => by simp at h⟩
    · show Calls P f #[σ.row id l.length] w _
      rw [h1]
      refine (hs g 0 cap l w (holds_of_blockI h3 h7) h2 hl).mono fun e w' ⟨he, n, os, hw⟩ => ?_
      subst hw
      have := turn_ints hh hid h1 (l.mergeSort fun x y => decide (x ≤ y)) (by simp) n os
      exact ⟨_, .tup [], _, σ, he, ⟨rfl, rfl⟩, this.1, this.2, .tup [] [] rfl fun i p v h => by simp at h⟩

/-- slices.Compact on an own row. -/
theorem compact_acalls (hp : ∀ vs w, (callFunc f vs).run P w = .ok (.enter f vs) w)
    (hs : ∀ (blk off cap : Nat) (zs : List Int) (w : World), Holds (Value.int .i64) w blk off zs.toArray → zs.length ≤ 9223372036854775807 → zs.length ≤ cap →
      Calls P f #[.slice (some ⟨blk, off, none⟩) zs.length cap] w fun e w' => e = .returned (.slice (some ⟨blk, off, none⟩) (Lib.compact zs).length cap) ∧ ∃ q, w' = putRow (Value.int .i64) (Sort.ahead w q) blk off (Lib.compact zs ++ List.replicate (zs.length - (Lib.compact zs).length) 0).toArray)
    (h0 : ∀ (a : Option Addr) (cap : Nat) (w : World), Calls P f #[.slice a 0 cap] w fun e w' => e = .returned (.slice a 0 cap) ∧ w' = w)
    (hc : (Lib.compact l).length ≤ l.length) (hid : H[id]? = some (.row false el 1 (encZ l))) :
    ACalls P f [.row id l.length] H fun v H' => v = .sub id l.length 1 0 (Lib.compact l).length ∧ H' = H.set id (.row false el 1 (encZ (Lib.compact l ++ List.replicate (l.length - (Lib.compact l).length) 0))) := by
  refine ⟨hp, fun w σ vs hh hlen hr => ?_⟩
  match vs, hlen with
  | [v], _ =>
    have hr0 := hr 0 _ _ rfl rfl
    have hv := rep_row_eq hr0
    subst hv
    rcases row_ints hh hid with ⟨e0, h1⟩ | ⟨g, cap, cur, h1, _, h2, h3, h4, h5, _, h7⟩
    · subst e0
      show Calls P f #[σ.row id 0] w _
      obtain ⟨_, hcur, _⟩ := hh.ok id _ hid
      have hr1 : Rep w σ (.sub id 0 1 0 0) (.slice none 0 0) := Rep.sub (w := w) (σ := σ) id 0 1 0 0 0 0 none hcur (Nat.le_refl _) h1 (Nat.le_refl _) (Nat.le_refl _) (Nat.le_refl _)
      rw [h1]
      refine (h0 none 0 w).mono fun e w' ⟨he, hw⟩ => ?_
      subst hw
      exact ⟨_, .sub id 0 1 0 0, H, σ, he, ⟨rfl, by simp [Lib.compact, Lib.compactUpTo, set_same hid]⟩, hh, Step.refl _ _ _, hr1⟩
    · show Calls P f #[σ.row id l.length] w _
      rw [h1]
      refine (hs g 0 cap l w (holds_of_blockI h3 h7) (by unfold maxLen at h5; omega) h4).mono fun e w' ⟨he, n, hw⟩ => ?_
      subst hw
      have hlen : (Lib.compact l ++ List.replicate (l.length - (Lib.compact l).length) (0 : Int)).length = l.length := by simp; omega
      have := turn_ints hh hid h1 _ hlen n #[]
      rw [grow_empty] at this
      refine ⟨_, .sub id l.length 1 0 (Lib.compact l).length, _, σ, he, ⟨rfl, rfl⟩, this.1, this.2, ?_⟩
      have hid' : (H.set id (.row false el 1 (encZ (Lib.compact l ++ List.replicate (l.length - (Lib.compact l).length) (0 : Int)))))[id]? = some (.row false el 1 (encZ (Lib.compact l ++ List.replicate (l.length - (Lib.compact l).length) (0 : Int)))) := by
        rw [List.getElem?_set]; simp [(List.getElem?_eq_some_iff.1 hid).1]
      have hr2 := rep_front (m := (Lib.compact l).length) this.1 hid' (by rw [hlen]; exact h1) (by rw [hlen]; exact h4) (by rw [hlen]; exact hc)
      rw [hlen] at hr2
      exact hr2

/-- slices.Delete on an own row. -/
theorem delete_acalls (hp : ∀ vs w, (callFunc f vs).run P w = .ok (.enter f vs) w)
    (hs : ∀ (blk off cap i j : Nat) (zs : List Int) (w : World), Holds (Value.int .i64) w blk off zs.toArray → zs.length ≤ cap → cap ≤ 9223372036854775807 → i ≤ j → j ≤ zs.length →
      Calls P f #[.slice (some ⟨blk, off, none⟩) zs.length cap, .int .i64 i, .int .i64 j] w fun e w' => e = .returned (.slice (some ⟨blk, off, none⟩) (zs.length - (j - i)) cap) ∧ ∃ q, w' = putRow (Value.int .i64) (Sort.ahead w q) blk off (zs.take i ++ zs.drop j ++ List.replicate (j - i) 0).toArray)
    (hid : H[id]? = some (.row false el 1 (encZ l))) {i j : Nat} (hij : i ≤ j) (hj : j ≤ l.length) (h0 : 0 < l.length) :
    ACalls P f [.row id l.length, .pv (.val (.int .i64 i)), .pv (.val (.int .i64 j))] H fun v H' => v = .sub id l.length 1 0 (l.length - (j - i)) ∧ H' = H.set id (.row false el 1 (encZ (l.take i ++ l.drop j ++ List.replicate (j - i) 0))) := by
  refine ⟨hp, fun w σ vs hh hlen hr => ?_⟩
  match vs, hlen with
  | [v, vi, vj], _ =>
    have hv := rep_row_eq (hr 0 _ _ rfl rfl)
    have hvi := rep_iv (hr 1 _ _ rfl rfl)
    have hvj := rep_iv (hr 2 _ _ rfl rfl)
    subst hv
    subst hvi
    subst hvj
    rcases row_ints hh hid with ⟨e0, _⟩ | ⟨g, cap, cur, h1, _, h2, h3, h4, h5, _, h7⟩
    · subst e0; simp at h0
    · show Calls P f #[σ.row id l.length, .int .i64 i, .int .i64 j] w _
      rw [h1]
      refine (hs g 0 cap i j l w (holds_of_blockI h3 h7) h4 (by unfold maxLen at h5; omega) hij hj).mono fun e w' ⟨he, n, hw⟩ => ?_
      subst hw
      have hlen : (l.take i ++ l.drop j ++ List.replicate (j - i) (0 : Int)).length = l.length := by simp; omega
      have := turn_ints hh hid h1 _ hlen n #[]
      rw [grow_empty] at this
      refine ⟨_, .sub id l.length 1 0 (l.length - (j - i)), _, σ, he, ⟨rfl, rfl⟩, this.1, this.2, ?_⟩
      have hid' : (H.set id (.row false el 1 (encZ (l.take i ++ l.drop j ++ List.replicate (j - i) (0 : Int)))))[id]? = some (.row false el 1 (encZ (l.take i ++ l.drop j ++ List.replicate (j - i) (0 : Int)))) := by
        rw [List.getElem?_set]; simp [(List.getElem?_eq_some_iff.1 hid).1]
      have hr2 := rep_front (m := l.length - (j - i)) this.1 hid' (by rw [hlen]; exact h1) (by rw [hlen]; exact h4) (by rw [hlen]; omega)
      rw [hlen] at hr2
      exact hr2
end
end
end Go.Proofs.Ytfpbdphdahfgbaa.Fw
