/- A variable in memory, told otherwise. -/
import Derived.Test.YtfpbdphdahfgbaaFw28
namespace Go.Proofs.Ytfpbdphdahfgbaa.Fw
open Go Go.RowKit

section
variable {P : Program} {n : Nat} {Q : Exit → List AV → List Blk → Prop} {e : List AV} {w : World} {σ : Ctx} {H : List Blk}

theorem rebox_ok (hh : HeapOk w σ H) {id : Nat} {bt : TypeId} {cs cs' : List AV} (hid : H[id]? = some (.box bt cs)) (hl : cs'.length = cs.length)
    (hc : ∀ vs : List Value, (∀ (i : Nat) a v, cs[i]? = some a → vs[i]? = some v → Rep w σ a v) → ∀ (i : Nat) a v, cs'[i]? = some a → vs[i]? = some v → Rep w σ a v) :
    HeapOk w σ (H.set id (.box bt cs')) ∧ Step w σ H w σ (H.set id (.box bt cs')) := by
  have hget : ∀ i b, (H.set id (.box bt cs'))[i]? = some b → (i = id ∧ b = .box bt cs') ∨ (i ≠ id ∧ H[i]? = some b) := fun i b hb => by
    rw [List.getElem?_set] at hb
    by_cases e : id = i
    · subst e
      simp only [if_true] at hb
      split at hb
      · injection hb with hb; exact .inl ⟨rfl, hb.symm⟩
      · cases hb
    · rw [if_neg e] at hb; exact .inr ⟨fun h => e h.symm, hb⟩
  have hblk : ∀ i b, (H.set id (.box bt cs'))[i]? = some b → ∃ b', H[i]? = some b' ∧ blkOf σ i b' = blkOf σ i b ∧ b'.fz = b.fz := fun i b hb => by
    rcases hget i b hb with ⟨rfl, rfl⟩ | ⟨_, h⟩
    · exact ⟨_, hid, rfl, rfl⟩
    · exact ⟨b, h, rfl, rfl⟩
  refine ⟨⟨fun i b hb => ?_, fun i hi => hh.out i (by simpa using hi), fun i j b c g hi hj h1 h2 => ?_, hh.lt, hh.base⟩, ⟨rfl, rfl, rfl, Nat.le_refl _, fun _ _ _ => rfl, Keep.refl w σ, fun _ h => .inl h, fun b hb => ?_, rfl⟩⟩
  · rcases hget i b hb with ⟨rfl, rfl⟩ | ⟨_, h⟩
    · obtain ⟨h0, g, vs, h1, h2, h3, h4, h5, h6⟩ := hh.ok i _ hid
      exact ⟨h0, g, vs, h1, h2, h3, h4, by rw [hl, h5], fun j a v ha hv => ⟨hc vs (fun i a v ha hv => (h6 i a v ha hv).1) j a v ha hv, by
        have hj : j < cs.length := by rw [h5]; exact (List.getElem?_eq_some_iff.1 hv).1
        exact (h6 j cs[j] v (List.getElem?_eq_getElem hj) hv).2⟩⟩
    · exact hh.ok i b h
  · obtain ⟨b', hb', e1, _⟩ := hblk i b hi
    obtain ⟨c', hc', e2, _⟩ := hblk j c hj
    exact hh.sep i j b' c' g hb' hc' (by rw [e1]; exact h1) (by rw [e2]; exact h2)
  · obtain ⟨i, c, hi, hz, hg⟩ := hb
    obtain ⟨c', hc', e1, e2⟩ := hblk i c hi
    exact .inl ⟨i, c', hc', by rw [e2]; exact hz, by rw [e1]; exact hg⟩

/-- All of a slice of plain data, without room behind it. -/
theorem QK.fullImm {o : Oper} {Kv : AV → List Blk → Prop} {t el : TypeId} {x h m : Operand} {z : Option Value} {sz b i j : Nat} {es : List (List PV)} (ho : o.op = .slice t x none (some h) (some m)) (hu : P.underlying t = some (.slice el)) (ht : tinfo P el = some (z, sz, b)) (hsz : 0 < sz) (hx : ev e x = .pv (.imm es)) (hl : ∀ l ∈ es, l.length = sz)
    (hh : ev e h = .pv (.val (.int .i64 i))) (hi : i = es.length) (hm : ev e m = .pv (.val (.int .i64 j))) (hj : j = es.length) (hK : Kv (.tight es) H) : QK P o e H Kv := by
  subst hi
  subst hj
  refine ⟨.val (.tight es), ?_, hK⟩
  simp only [QR, ho]
  exact ⟨el, z, sz, b, hu, ht, hsz, es, by rw [hx]; rfl, hl, 0, es.length, Nat.zero_le _, Nat.le_refl _, rfl, hh, hm, by rw [hx]; exact .inr ⟨rfl, by rw [List.take_of_length_le (Nat.le_refl _)]; rfl⟩⟩

/-- The nil slice in a variable, as an own row. -/
theorem WpA.viewBox {c : Code} (id j : Nat) (el : TypeId) {sz : Nat} (hsz : 0 < sz) {bt : TypeId} {cs : List AV} (hid : H[id]? = some (.box bt cs)) (hj : cs[j]? = some .nil)
    (h : WpA P n c Q e (H.set id (.box bt (cs.set j (.row H.length 0))) ++ [.row false el sz []])) : WpA P n c Q e H := fun E σ w a hn s => by
  have hd := dead_ok s.heap
  have hres : ResOk w w σ (.slice none 0 0) (.row el sz []) := ⟨fun _ => False, [], fun _ h => h.elim, hsz, World.ownsRow_nil w _ _ _, by simp, fun k p h => by simp at h, fun _ h => by simp [Value.ownBlock] at h⟩
  obtain ⟨σ', h1, h2, h3, _⟩ := place_ok (id := H.length) hd.1 (by simp) (Below.refl _ _) hres
  have e1 : (H ++ [Blk.dead]).set H.length (Res.row el sz []).blk = H ++ [.row false el sz []] := by simp [Res.blk]
  rw [e1] at h1 h2
  have s1 := (s.next hd.2 hd.1).next h2 h1
  have hlt : id < H.length := (List.getElem?_eq_some_iff.1 hid).1
  have hid' : (H ++ [.row false el sz []])[id]? = some (.box bt cs) := by rw [List.getElem?_append_left hlt]; exact hid
  have h4 := rebox_ok (cs' := cs.set j (.row H.length 0)) s1.heap hid' (by simp) fun vs hvs i a v ha hv => by
    rw [List.getElem?_set] at ha
    by_cases e2 : j = i
    · subst e2
      simp only [if_true] at ha
      split at ha
      · injection ha with ha
        subst ha
        have := hvs j _ v hj hv
        cases this
        exact h3
      · cases ha
    · rw [if_neg e2] at ha
      exact hvs i a v ha hv
  have s2 := s1.next h4.2 h4.1
  rw [List.set_append_left _ _ hlt] at s2
  exact h E σ' w a hn s2
end
end Go.Proofs.Ytfpbdphdahfgbaa.Fw
