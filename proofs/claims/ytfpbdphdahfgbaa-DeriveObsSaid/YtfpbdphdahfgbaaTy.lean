/- Facts of types. -/
import Derived.Test.YtfpbdphdahfgbaaFw27
import Derived.Test.YtfpbdphdahfgbaaProg
namespace Go.Proofs.Ytfpbdphdahfgbaa
open Go Go.RowKit Go.Proofs.Ytfpbdphdahfgbaa.Fw

abbrev iv (n : Int) : AV := .pv (.val (.int .i64 n))
abbrev uv (n : Int) : AV := .pv (.val (.int .u32 n))
abbrev bv (b : Bool) : AV := .pv (.val (.bool b))
def eU (x : BitVec 32) : List PV := [.val (.int .u32 x.toNat)]
def encU (l : List (BitVec 32)) : List (List PV) := l.map eU
def eP (p : Nat × Nat) : List PV := [.val (.int .i64 p.1), .val (.int .i64 p.2)]
def encP (l : List (Nat × Nat)) : List (List PV) := l.map eP
structure Ev where
  thread : Int
  kind : Int
  loc : Int
  val : Int
  acq : Bool
  rel : Bool
  excl : Bool
deriving Inhabited
def eE (x : Ev) : List PV := [.val (.int .i64 x.thread), .val (.int .i64 x.kind), .val (.int .i64 x.loc), .val (.int .i64 x.val), .val (.bool x.acq), .val (.bool x.rel), .val (.bool x.excl)]
def encE (l : List Ev) : List (List PV) := l.map eE
abbrev evA (x : Ev) : AV := .pv (.agg (eE x))
/-- An execution's other lists. -/
structure Six where
  a : List (List PV)
  b : List (List PV)
  c : List (List PV)
  d : List (List PV)
  e : List (List PV)
  f : List (List PV)
abbrev exP (l : List Ev) (s : Six) : PV := .agg [.imm (encE l), .imm s.a, .imm s.b, .imm s.c, .imm s.d, .imm s.e, .imm s.f]
def exC (l : List Ev) (s : Six) : List AV := [.pv (.imm (encE l)), .pv (.imm s.a), .pv (.imm s.b), .pv (.imm s.c), .pv (.imm s.d), .pv (.imm s.e), .pv (.imm s.f)]
abbrev exA (l : List Ev) (s : Six) : AV := .pv (exP l s)
def evC (x : Ev) : List AV := (eE x).map .pv
def eN (n : Nat) : List PV := [.val (.int .i64 n)]
def encN (l : List Nat) : List (List PV) := l.map eN

theorem mixed : Try.prog.follows .mixedOrders = true := by kernel_rfl
theorem ti76 : tinfo Try.prog 76 = some (some (.int .u32 0), 1, 4) := by kernel_rfl
theorem ti3 : tinfo Try.prog 3 = some (some (.int .i64 0), 1, 8) := by kernel_rfl
theorem ti4 : tinfo Try.prog 4 = some (some (.bool false), 1, 1) := by kernel_rfl
theorem ti2 : tinfo Try.prog 2 = some (some (.int .i64 0), 1, 8) := by kernel_rfl
theorem ti27 : tinfo Try.prog 27 = some (some (.slice none 0 0), 1, 24) := by kernel_rfl
theorem ti26 : tinfo Try.prog 26 = some (some (.slice none 0 0), 1, 24) := by kernel_rfl
theorem ti39 : tinfo Try.prog 39 = some (some (.slice none 0 0), 1, 24) := by kernel_rfl
theorem ti61 : tinfo Try.prog 61 = some (some (.slice none 0 0), 1, 24) := by kernel_rfl
theorem ti22 : tinfo Try.prog 22 = some (some (.slice none 0 0), 1, 24) := by kernel_rfl
theorem ti28 : tinfo Try.prog 28 = some (some (.slice none 0 0), 1, 24) := by kernel_rfl
theorem ti66 : tinfo Try.prog 66 = some (some (.agg #[.int .i64 0, .int .i64 0]), 2, 16) := by kernel_rfl
theorem ti25 : tinfo Try.prog 25 = some (some (.agg #[.int .i64 0, .int .i64 0, .int .i64 0, .int .i64 0, .bool false, .bool false, .bool false]), 7, 40) := by kernel_rfl
theorem ti30 : tinfo Try.prog 30 = some (some (.agg #[.slice none 0 0, .slice none 0 0, .slice none 0 0, .slice none 0 0, .slice none 0 0, .slice none 0 0, .slice none 0 0]), 7, 168) := by kernel_rfl
theorem ti47 : tinfo Try.prog 47 = some (some (.agg #[.slice none 0 0, .slice none 0 0, .slice none 0 0, .slice none 0 0, .slice none 0 0, .slice none 0 0, .slice none 0 0]), 7, 168) := by kernel_rfl

/-- Slots, told by number. -/
def tpl (n : Nat) (l : List (Nat × AV)) : List AV := l.foldl (fun e p => e.set p.1 p.2) (List.replicate n .any)

theorem encU_len (l : List (BitVec 32)) : (encU l).length = l.length := by simp [encU]
theorem encN_len (l : List Nat) : (encN l).length = l.length := by simp [encN]
theorem encE_len (l : List Ev) : (encE l).length = l.length := by simp [encE]
theorem encE_get {l : List Ev} {k : Nat} (h : k < l.length) : (encE l)[k]? = some (eE l[k]) := by simp [encE, h]
theorem encP_len (l : List (Nat × Nat)) : (encP l).length = l.length := by simp [encP]
theorem encP_get {l : List (Nat × Nat)} {k : Nat} (h : k < l.length) : (encP l)[k]? = some (eP l[k]) := by simp [encP, h]
theorem encU_get {l : List (BitVec 32)} {k : Nat} (h : k < l.length) : (encU l)[k]? = some (eU l[k]) := by simp [encU, h]
theorem encZ_get {l : List Int} {k : Nat} (h : k < l.length) : (encZ l)[k]? = some (eI l[k]) := by simp [encZ, h]
theorem encN_get {l : List Nat} {k : Nat} (h : k < l.length) : (encN l)[k]? = some (eN l[k]) := by simp [encN, h]

theorem wi (n : Nat) (h : n < 9223372036854775808) : IntKind.i64.wrap (n : Int) = n := by simp [IntKind.wrap, IntKind.bits, IntKind.signed]; omega
theorem wi1 (n : Nat) (h : n + 1 < 9223372036854775808) : IntKind.i64.wrap ((n : Int) + 1) = ((n + 1 : Nat) : Int) := by simp [IntKind.wrap, IntKind.bits, IntKind.signed]; omega
theorem wu (n : Nat) (h : n < 18446744073709551616) : IntKind.u64.wrap (n : Int) = n := by simp [IntKind.wrap, IntKind.bits, IntKind.signed]; omega
theorem w32 (n : Nat) (h : n < 4294967296) : IntKind.u32.wrap (n : Int) = n := by simp [IntKind.wrap, IntKind.bits, IntKind.signed]; omega
theorem w32m (n : Nat) : IntKind.u32.wrap (n : Int) = (n % 4294967296 : Nat) := by simp [IntKind.wrap, IntKind.bits, IntKind.signed]

theorem ofI (x : BitVec 32) : BitVec.ofInt IntKind.u32.bits ↑x.toNat = x := by
  show BitVec.ofInt 32 _ = _
  apply BitVec.eq_of_toNat_eq
  have := x.isLt
  simp only [BitVec.toNat_ofInt]
  omega
theorem w32b (x : BitVec 32) : IntKind.u32.wrap ↑x.toNat = ↑x.toNat := w32 _ (by have := x.isLt; omega)
theorem and32 (x y : BitVec 32) : IntKind.u32.wrap ↑(BitVec.ofInt IntKind.u32.bits ↑x.toNat &&& BitVec.ofInt IntKind.u32.bits ↑y.toNat).toNat = ↑(x &&& y).toNat := by rw [ofI, ofI]; exact w32b (x &&& y)
theorem and32_1 (x : BitVec 32) : IntKind.u32.wrap ↑(BitVec.ofInt IntKind.u32.bits ↑x.toNat &&& BitVec.ofInt IntKind.u32.bits 1).toNat = ↑(x &&& 1#32).toNat := by rw [ofI]; exact w32b (x &&& 1#32)
theorem or32 (x y : BitVec 32) : IntKind.u32.wrap ↑(BitVec.ofInt IntKind.u32.bits ↑x.toNat ||| BitVec.ofInt IntKind.u32.bits ↑y.toNat).toNat = ↑(x ||| y).toNat := by rw [ofI, ofI]; exact w32b (x ||| y)
theorem andNot32 (x y : BitVec 32) : IntKind.u32.wrap ↑(BitVec.ofInt IntKind.u32.bits ↑x.toNat &&& ~~~BitVec.ofInt IntKind.u32.bits ↑y.toNat).toNat = ↑(x &&& ~~~y).toNat := by rw [ofI, ofI]; exact w32b (x &&& ~~~y)
theorem ofL1 : BitVec.ofInt IntKind.u32.bits 1 = (1#32) := rfl

/-- One bit of a row. -/
def bit (x : BitVec 32) (k : Nat) : Bool := x.getLsbD k

theorem shr32 (x : BitVec 32) (k : Nat) (h : k < 32) : Int.fdiv ↑x.toNat (2 ^ min k 32) = ↑(x >>> k).toNat := by
  have hm : min k 32 = k := by omega
  show _ = _
  rw [hm]
  rw [show ((2 : Int) ^ k) = ((2 ^ k : Nat) : Int) by simp, ← Int.ofNat_fdiv]
  simp [BitVec.toNat_ushiftRight, Nat.shiftRight_eq_div_pow]
theorem bit_nat (x : BitVec 32) (k : Nat) : ((x >>> k) &&& 1#32).toNat = (bit x k).toNat := by
  have h1 : ((x >>> k) &&& 1#32) = (BitVec.ofBool (bit x k)).setWidth 32 := by
    apply BitVec.eq_of_getLsbD_eq
    intro i hi
    simp only [bit, BitVec.getLsbD_and, BitVec.getLsbD_ushiftRight, BitVec.getLsbD_setWidth, BitVec.getLsbD_ofBool]
    by_cases h0 : i = 0
    · subst h0; simp
    · simp [h0, BitVec.getLsbD_one]
  rw [h1]
  cases bit x k <;> rfl
theorem bit_test (x : BitVec 32) (k : Nat) : (((x >>> k) &&& 1#32).toNat : Int) = 1 ↔ bit x k = true := by
  rw [bit_nat]
  cases bit x k <;> simp
theorem bit_b (x : BitVec 32) (k : Nat) : ((((x >>> k) &&& 1#32).toNat : Int) == 1) = bit x k := by
  rw [Bool.eq_iff_iff, beq_iff_eq, bit_test]
theorem bit_b0 (x : BitVec 32) (k : Nat) : ((((x >>> k) &&& 1#32).toNat : Int) == 0) = !bit x k := by
  rw [bit_nat]
  cases bit x k <;> simp
theorem shl1 (k : Nat) (h : k < 32) : IntKind.u32.wrap (1 * 2 ^ min k 32) = ↑((1#32) <<< k).toNat := by
  have hm : min k 32 = k := by omega
  show _ = _
  rw [hm]
  rw [show ((1 : Int) * 2 ^ k) = ((2 ^ k : Nat) : Int) by simp, w32 _ (by have := Nat.pow_lt_pow_right (a := 2) (by omega) h; omega)]
  rw [BitVec.toNat_shiftLeft, Nat.shiftLeft_eq]
  congr 1
  rw [Nat.mod_eq_of_lt]
  · simp
  · have := Nat.pow_lt_pow_right (a := 2) (by omega) h; simp; omega

theorem ret_b {t : Nat} {e : List AV} {H : List Blk} {b b' : Bool} (h : e.getD t .any = .pv (.val (.bool b))) (hb : b = b') : RetQ [.tmp t] e H (.val (bv b')) := by subst hb; exact RetQ.val (by rw [h]; exact .pv _)
theorem ret_i {t : Nat} {e : List AV} {H : List Blk} {b b' : Int} (h : e.getD t .any = .pv (.val (.int .i64 b))) (hb : b = b') : RetQ [.tmp t] e H (.val (iv b')) := by subst hb; exact RetQ.val (by rw [h]; exact .pv _)
theorem ret_u {t : Nat} {e : List AV} {H : List Blk} {b b' : Int} (h : e.getD t .any = .pv (.val (.int .u32 b))) (hb : b = b') : RetQ [.tmp t] e H (.val (uv b')) := by subst hb; exact RetQ.val (by rw [h]; exact .pv _)
theorem ret_p {t : Nat} {e : List AV} {H : List Blk} {p p' : PV} (h : Out H (e.getD t .any) (.pv p)) (hp : p = p') : RetQ [.tmp t] e H (.val (.pv p')) := by subst hp; exact RetQ.val h

theorem encU_at {l : List (BitVec 32)} {k : Nat} {x : BitVec 32} (h : l[k]? = some x) : (encU l)[k]? = some (eU x) := by simp [encU, h]
theorem encU_set0 (l : List (BitVec 32)) (k : Nat) : (encU l).set k [.val (.int .u32 0)] = encU (l.set k 0#32) := by simp [encU, eU, List.map_set]
theorem encU_set (l : List (BitVec 32)) (k : Nat) (x : BitVec 32) : (encU l).set k [.val (.int .u32 x.toNat)] = encU (l.set k x) := by simp [encU, eU, List.map_set]
attribute [simp] encU_len encZ_len encN_len encP_len encE_len
attribute [go_sem] AThen AInBlock BodyQ QK QR CallQ BuiltQ ev cv eput IntBin elemsOf toP toPs okCells cellsA AV.one PV.one aggA setAll isAggT Nat.lt_irrefl if_false if_true exists_eq_left exists_eq_left' exists_eq_right exists_and_left exists_const Res.av Res.add Res.blk List.getD_cons_zero List.getD_cons_succ List.set_cons_zero List.set_cons_succ List.getElem?_cons_zero List.getElem?_cons_succ Option.some.injEq TypeDesc.int.injEq TypeDesc.slice.injEq TypeDesc.struct.injEq TypeDesc.array.injEq List.getElem?_toArray Option.isSome_some true_and and_true and_assoc false_and and_false or_false false_or exists_false Prod.mk.injEq AV.pv.injEq PV.val.injEq Value.bool.injEq Value.int.injEq reduceCtorEq if_true_left ite_true ite_false Int.natCast_nonneg Bool.not_true Bool.not_false true_implies false_implies List.length_nil List.length_cons List.length_append List.map_nil List.map_cons List.nil_append List.append_nil List.length_replicate Int.toNat_natCast or_and_right and_or_left exists_or Nat.mul_one Nat.zero_le Nat.zero_add Nat.add_zero Int.natCast_inj eU eI eN eP encP_len encU_len encZ_len encN_len bit_b bit_b0
attribute [go_sem] BinQ Value.oneCell' exP exC evC eE encE_len Value.cells List.cons_append Blk.box.injEq Blk.row.injEq AV.agg.injEq AV.tup.injEq cutA ltA_any ltA_nil ltA_pv ltA_bor ltA_tight ltA_at ltA_row ltA_sub ltA_rat ltA_bat lt0_any lt0_nil lt0_pv lt0_bor lt0_tight lt0_at lt0_row lt0_sub lt0_rat lt0_bat ltA_agg ltA_tup ltA_fn ltBlk List.all_cons List.all_nil List.take_succ_cons List.take_zero List.drop_succ_cons List.drop_zero Nat.le_refl List.take_nil List.drop_nil Bool.and_true Bool.true_and decide_true decide_false Bool.false_eq_true
attribute [go_sem ↓] and32 and32_1 or32 andNot32
attribute [go_sem] Try.underlying27 Try.underlying107 Try.underlying76 Try.underlying77 Try.underlying3 Try.underlying4 Try.underlying39 Try.underlying61 Try.underlying22 Try.underlying25 Try.underlying30 Try.underlying66 Try.underlying64 ti76 ti3 ti4 ti2 ti27 ti26 ti39 ti61 ti22 ti28 ti66 ti25 ti30 ti47
theorem len2 {α : Type} (a b : α) : [a, b].length = 2 := rfl
theorem len3 {α : Type} (a b c : α) : [a, b, c].length = 3 := rfl
theorem len7 {α : Type} (a b c d e f g : α) : [a, b, c, d, e, f, g].length = 7 := rfl
theorem lt02 : ((0 : Nat) < 2) = True := by simp
theorem lt01 : ((0 : Nat) < 1) = True := by simp
theorem lt03 : ((0 : Nat) < 3) = True := by simp
theorem lt07 : ((0 : Nat) < 7) = True := by simp
theorem ad11 : (1 : Nat) + 1 = 2 := rfl
theorem ad21 : (2 : Nat) + 1 = 3 := rfl
theorem ad31 : (3 : Nat) + 1 = 4 := rfl
theorem lt12 : ((1 : Nat) < 2) = True := by simp
attribute [go_sem ↓] len2 len3 len7
attribute [go_sem] Nat.zero_sub Nat.add_one_sub_one lt01 lt02 lt03 lt07 lt12 ad11 ad21 ad31
end Go.Proofs.Ytfpbdphdahfgbaa
