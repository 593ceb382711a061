/- How the state goes on: one block turns, or takes a name. -/
import Derived.Test.YtfpbdphdahfgbaaFw12
namespace Go.Proofs.Ytfpbdphdahfgbaa.Fw
open Go Go.RowKit

theorem get_set_iff {H : List Blk} {id i : Nat} {b c : Blk} (h : (H.set id b)[i]? = some c) : (i = id ∧ c = b ∧ i < H.length) ∨ (i ≠ id ∧ H[i]? = some c) := by
  rw [List.getElem?_set] at h
  by_cases e : id = i
  · subst e
    simp only [if_true] at h
    split at h
    · injection h with h; exact .inl ⟨rfl, h.symm, by assumption⟩
    · cases h
  · rw [if_neg e] at h
    exact .inr ⟨fun h => e h.symm, h⟩

theorem upd_ok {w w' : World} {σ σ' : Ctx} {H : List Blk} {id : Nat} {b b' : Blk} (h : HeapOk w σ H) (hid : H[id]? = some b) (hz : b.fz = false) (ho : w'.os = w.os ∧ w'.tape = w.tape ∧ w'.output = w.output) (hsize : w.heap.size ≤ w'.heap.size)
    (hheap : ∀ g, g < w.heap.size → blkOf σ id b ≠ some g → w'.heap[g]? = w.heap[g]?) (hbase : σ'.base = σ.base) (hF' : ∀ g, σ'.F g → σ.F g ∨ blkOf σ id b = some g ∨ (w.heap.size ≤ g ∧ g < w'.heap.size))
    (hcur : ∀ i, i ≠ id → σ'.cur i = σ.cur i) (hbox : ∀ i, i ≠ id → σ'.box i = σ.box i) (hk : Keep w σ w' σ') (hnew : BlkOk w' σ' id b') (hblk : ∀ g, blkOf σ' id b' = some g → blkOf σ id b = some g ∨ w.heap.size ≤ g) :
    HeapOk w' σ' (H.set id b') ∧ Step w σ H w' σ' (H.set id b') := by
  have hlen : id < H.length := (List.getElem?_eq_some_iff.1 hid).1
  have hoth : ∀ i c, i ≠ id → H[i]? = some c → BlkOk w' σ' i c ∧ blkOf σ' i c = blkOf σ i c := fun i c hne hi =>
    BlkOk.keep hk hbase (hcur i hne) (hbox i hne) (fun g hg => hheap g ((h.ok i c hi).lt hg).2 fun he => hne (h.sep i id c b g hi hid hg he)) (fun g hg hf => by
      rcases hF' g hf with h1 | h1 | h1
      · exact h1
      · exact absurd (h.sep i id c b g hi hid hg h1) hne
      · have := ((h.ok i c hi).lt hg).2
        omega) (h.ok i c hi)
  refine ⟨⟨fun i c hi => ?_, fun i hi => ?_, fun i j c d g hi hj h1 h2 => ?_, fun g hg => ?_, by rw [hbase]; exact Nat.le_trans h.base hsize⟩, ⟨ho.1, ho.2.1, ho.2.2, hsize, fun g hg hn => hheap g hg fun he => hn ⟨id, b, hid, hz, he⟩, hk, fun g hg => ?_, fun g hg => ?_, hbase⟩⟩
  · rcases get_set_iff hi with ⟨rfl, rfl, _⟩ | ⟨hne, hi'⟩
    · exact hnew
    · exact (hoth i c hne hi').1
  · rw [List.length_set] at hi
    have hne : i ≠ id := by omega
    rw [hcur i hne, hbox i hne]
    exact h.out i hi
  · rcases get_set_iff hi with ⟨rfl, rfl, _⟩ | ⟨hne, hi'⟩ <;> rcases get_set_iff hj with ⟨rfl, rfl, _⟩ | ⟨hne', hj'⟩
    · rfl
    · rw [(hoth j d hne' hj').2] at h2
      rcases hblk g h1 with h3 | h3
      · exact absurd (h.sep j i d b g hj' hid h2 h3) hne'
      · have := ((h.ok j d hj').lt h2).2
        omega
    · rw [(hoth i c hne hi').2] at h1
      rcases hblk g h2 with h3 | h3
      · exact absurd (h.sep i j c b g hi' hid h1 h3) hne
      · have := ((h.ok i c hi').lt h1).2
        omega
    · rw [(hoth i c hne hi').2] at h1
      rw [(hoth j d hne' hj').2] at h2
      exact h.sep i j c d g hi' hj' h1 h2
  · rcases hF' g hg with h1 | h1 | h1
    · exact Nat.lt_of_lt_of_le (h.lt g h1) hsize
    · exact Nat.lt_of_lt_of_le ((h.ok id b hid).lt h1).2 hsize
    · exact h1.2
  · rcases hF' g hg with h1 | h1 | h1
    · exact .inl h1
    · exact .inr (.inl ⟨id, b, hid, hz, h1⟩)
    · exact .inr (.inr h1.1)
  · obtain ⟨i, c, hi, hcz, hcg⟩ := hg
    rcases get_set_iff hi with ⟨rfl, rfl, _⟩ | ⟨hne, hi'⟩
    · rcases hblk g hcg with h3 | h3
      · exact .inl ⟨i, b, hid, hz, h3⟩
      · exact .inr h3
    · rw [(hoth i c hne hi').2] at hcg
      exact .inl ⟨i, c, hi', hcz, hcg⟩

/-- A name that leads nowhere. -/
theorem dead_ok {w : World} {σ : Ctx} {H : List Blk} (h : HeapOk w σ H) : HeapOk w σ (H ++ [.dead]) ∧ Step w σ H w σ (H ++ [.dead]) := by
  refine ⟨⟨fun i c hi => ?_, fun i hi => h.out i (by simp at hi; omega), fun i j c d g hi hj h1 h2 => ?_, h.lt, h.base⟩, ⟨rfl, rfl, rfl, Nat.le_refl _, fun _ _ _ => rfl, Keep.refl w σ, fun _ h => .inl h, fun g hg => ?_, rfl⟩⟩
  · rcases setAt_append hi with ⟨h1, _⟩ | ⟨rfl, rfl⟩
    · exact h.ok i c h1
    · exact h.out _ (Nat.le_refl _)
  · rcases setAt_append hi with ⟨hi', _⟩ | ⟨rfl, rfl⟩
    · rcases setAt_append hj with ⟨hj', _⟩ | ⟨rfl, rfl⟩
      · exact h.sep i j c d g hi' hj' h1 h2
      · simp [blkOf] at h2
    · simp [blkOf] at h1
  · obtain ⟨i, c, hi, hz, hcg⟩ := hg
    rcases setAt_append hi with ⟨hi', _⟩ | ⟨rfl, rfl⟩
    · exact .inl ⟨i, c, hi', hz, hcg⟩
    · simp [blkOf] at hcg

def Res.av (id : Nat) : Res → AV
  | .val v => v
  | .row _ _ es => .row id es.length
  | .box _ _ => .bat id 0

def Res.blk : Res → Blk
  | .val _ => .dead
  | .row e sz es => .row false e sz es
  | .box t cs => .box t cs

/-- What an operation yields takes a name that led nowhere. -/
theorem place_ok {w w' : World} {σ : Ctx} {H : List Blk} {id : Nat} {u : Value} {r : Res} (h : HeapOk w σ H) (hid : H[id]? = some .dead) (hb : Below w.heap.size w w') (hr : ResOk w w' σ u r) :
    ∃ σ', HeapOk w' σ' (H.set id r.blk) ∧ Step w σ H w' σ' (H.set id r.blk) ∧ Rep w' σ' (r.av id) u ∧ (∀ i, i ≠ id → σ'.cur i = σ.cur i ∧ σ'.box i = σ.box i) := by
  obtain ⟨hdc, hdb⟩ := h.ok id _ hid
  have hcell : ∀ ad : Addr, σ.ok ad.block → w'.cell? ad = w.cell? ad := (keep_below h hb (fun _ => False)).cell
  cases r with
  | val v =>
    obtain ⟨G, hG, hrep⟩ := hr
    have hg := grow_ok h hb G hG
    have hset : H.set id .dead = H := by
      apply List.ext_getElem?
      intro i
      rw [List.getElem?_set]
      by_cases e : id = i
      · subst e; simp only [if_true]; rw [if_pos (List.getElem?_eq_some_iff.1 hid).1]; exact hid.symm
      · rw [if_neg e]
    refine ⟨σ.more G, ?_, ?_, hrep, fun i _ => ⟨rfl, rfl⟩⟩
    · simp only [Res.blk]; rw [hset]; exact hg.1
    · simp only [Res.blk]; rw [hset]; exact hg.2
  | row e sz es =>
    obtain ⟨G, xs, hG, hsz, hown, hl, hx, hnG⟩ := hr
    let σ' : Ctx := { base := σ.base, F := fun b => σ.F b ∨ G b, row := fun i m => if i = id ∧ m = es.length then u else σ.row i m, cur := fun i => if i = id then some es.length else σ.cur i, box := σ.box }
    have hk : Keep w σ w' σ' := by
      refine ⟨Nat.le_refl _, fun _ h => Or.inl h, hcell, fun i c hc => ?_, fun _ _ h => h⟩
      have hne : i ≠ id := by rintro rfl; rw [hdc] at hc; cases hc
      exact ⟨c, by simp [σ', hne, hc], Nat.le_refl _, fun m _ => by simp [σ', hne]⟩
    have hrow : σ'.row id es.length = u := by simp [σ']
    have hub : ∀ g, u.ownBlock = some g → w.heap.size ≤ g ∧ g < w'.heap.size := fun g hg => ownsRow_lt hown hg
    have hnew : BlkOk w' σ' id (.row false e sz es) := by
      refine ⟨hsz, by simp [σ'], hdb, hl, ⟨xs, ?_, hx⟩, fun g hg => ⟨fun h0 => absurd h0 (by simp), fun _ hf => ?_⟩⟩
      · rw [hrow]
        rcases hown with ⟨h1, h2 | ⟨g, cap, cur, h2, h3, rest⟩⟩
        · exact ⟨h1, .inl h2⟩
        · exact ⟨h1, .inr ⟨g, cap, cur, h2, Nat.le_trans h.base h3, rest⟩⟩
      · rw [hrow] at hg
        rcases hf with hf | hf
        · have := (hub g hg).1
          have := h.lt g hf
          omega
        · exact hnG g hg hf
    have hu := upd_ok (b' := .row false e sz es) h hid rfl ⟨hb.os, hb.tape, hb.output⟩ hb.size (fun g hg _ => hb.block g hg) (σ' := σ') rfl (fun g hg => hg.imp (fun h => h) fun h1 => .inr (hG g h1)) (fun i hne => by simp [σ', hne]) (fun _ _ => rfl) hk hnew (fun g hg => by
      have hg' : u.ownBlock = some g := by rw [← hrow]; exact hg
      exact .inr (hub g hg').1)
    refine ⟨σ', hu.1, hu.2, ?_, fun i hne => ⟨by simp [σ', hne], rfl⟩⟩
    have := Rep.row (w := w') (σ := σ') id es.length es.length (by simp [σ']) (Nat.le_refl _) (by rw [hrow]; exact ownsRow_one hown)
    rw [hrow] at this
    exact this
  | box t cs =>
    obtain ⟨g, vs, hg, rfl, hheap, hl, hx⟩ := hr
    let σ' : Ctx := { base := σ.base, F := σ.F, row := σ.row, cur := σ.cur, box := fun i => if i = id then some g else σ.box i }
    have hk : Keep w σ w' σ' := by
      refine ⟨Nat.le_refl _, fun _ h => h, hcell, fun i c hc => ⟨c, hc, Nat.le_refl _, fun _ _ => rfl⟩, fun i g' hg' => ?_⟩
      have hne : i ≠ id := by rintro rfl; rw [hdb] at hg'; cases hg'
      simp [σ', hne, hg']
    have hk' : Keep w' σ w' σ' := ⟨Nat.le_refl _, fun _ h => h, fun _ _ => rfl, hk.cur, hk.box⟩
    have hnew : BlkOk w' σ' id (.box t cs) := ⟨hdc, g, vs, by simp [σ'], Nat.le_trans h.base hg, fun hf => by have := h.lt g hf; omega, hheap, hl, fun i a v h1 h2 => ⟨hk'.rep (hx i a v h1 h2).1, (hx i a v h1 h2).2⟩⟩
    have hu := upd_ok (b' := .box t cs) h hid rfl ⟨hb.os, hb.tape, hb.output⟩ hb.size (fun g hg _ => hb.block g hg) (σ' := σ') rfl (fun _ hf => .inl hf) (fun _ _ => rfl) (fun i hne => by simp [σ', hne]) hk hnew (fun g' hg' => by
      have : g' = g := by simpa [blkOf, σ'] using hg'.symm
      subst this
      exact .inr hg)
    exact ⟨σ', hu.1, hu.2, .bat id 0 g (by simp [σ']), fun i hne => ⟨rfl, by simp [σ', hne]⟩⟩

def Res.add (r : Res) (H : List Blk) : List Blk :=
  match r with
  | .val _ => H
  | r => H ++ [r.blk]

theorem St.res {E : Entry} {σ : Ctx} {w w' : World} {H : List Blk} {e : List AV} {a : Act} {u : Value} {r : Res} (s : St E σ w H e a) (hb : Below w.heap.size w w') (hr : ResOk w w' σ u r) (dst : Option Tmp) :
    ∃ σ', St E σ' w' (r.add H) (eput e dst (r.av H.length)) (a.put dst u) := by
  have step : ∀ r', r' = r → (∀ v, r' ≠ .val v) → ∃ σ', St E σ' w' (H ++ [r'.blk]) (eput e dst (r'.av H.length)) (a.put dst u) := fun r' he _ => by
    subst he
    have hd := dead_ok s.heap
    obtain ⟨σ', h1, h2, h3, _⟩ := place_ok (id := H.length) hd.1 (by simp) hb hr
    have e1 : (H ++ [Blk.dead]).set H.length r'.blk = H ++ [r'.blk] := by simp
    rw [e1] at h1 h2
    exact ⟨σ', ((s.next hd.2 hd.1).next h2 h1).put dst h3⟩
  cases r with
  | val v =>
    obtain ⟨G, hG, hrep⟩ := hr
    exact ⟨σ.more G, (s.grow hb G hG).put dst hrep⟩
  | row e sz es => exact step _ rfl (by simp)
  | box t cs => exact step _ rfl (by simp)
end Go.Proofs.Ytfpbdphdahfgbaa.Fw
