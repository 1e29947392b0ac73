/- Texts that the proof rests on, part 2: what each holds stands at its head. -/
import Derived.Test.YtgkkilbeingleaaZo1
import Derived.ChangeKeysEq
import Derived.Lib.UnsafeStr
import Derived.Laws.IdiomStrings

/- Operations that touch no memory, on abstract values. Nothing of the program is named here. -/
namespace Go.Proofs.Ytgkkilbeingleaa
open Go.RowKit

inductive PO where
  | mv | pick | nilck | addOff (n : Nat) | idx (sz : Nat) | aidx (len sz : Nat) | fld (off n : Nat) (agg : Bool) | ext (i : Nat)
  | bin (op : BinOp) (t : TypeId) | un (op : UnOp) | conv (k : IntKind) | same | len | slen | slc (sz : Nat) (lo hi : Bool) | ssl (lo hi : Bool) | sidx
  | vidx (len sz : Nat) (agg : Bool) | cap | sld (sz : Nat) | mn | mx | mkfn (f : Fn) (nf : Nat) | bld (z : List AV) (pl : List (Nat × Nat))
def AV.part (a : AV) : Bool := a.one || match a with
  | .agg _ => true
  | _ => false
def AV.cells : AV → List AV
  | .agg cs => cs
  | a => [a]
def vals : List AV → Option (List Value)
  | [] => some []
  | .p v :: r => match vals r with
    | some l => some (v :: l)
    | none => none
  | _ :: _ => none
def AV.val : AV → Option Value
  | .p v => some v
  | .agg cs => match vals cs with
    | some l => some (.agg l.toArray)
    | none => none
  | _ => none
/-- parts laid over cells -/
def fillA : List AV → List (Nat × Nat) → List AV → Option (List AV)
  | cs, [], [] => some cs
  | cs, (off, n) :: pl, a :: ps =>
    match a with
    | .agg ds => if ds.length = n ∧ off + n ≤ cs.length then fillA (cs.take off ++ ds ++ cs.drop (off + n)) pl ps else none
    | a => if n = 1 ∧ off + 1 ≤ cs.length then fillA (cs.set off a) pl ps else none
  | _, _, _ => none
inductive PuR (P : Program) : PO → List AV → AV → Prop
  | mv (a : AV) : PuR P .mv [a] a
  | pick (c : Bool) (a b : AV) : PuR P .pick [.p (.bool c), a, b] (if c then a else b)
  | nil_ptr (id off : Nat) : PuR P .nilck [.ptr id off] (.ptr id off)
  | nil_eptr (id sz i j : Nat) : PuR P .nilck [.eptr id sz i j] (.eptr id sz i j)
  | nil_dptr (sz : Nat) (xs : List (List AV)) (i j : Nat) : PuR P .nilck [.dptr sz xs i j] (.dptr sz xs i j)
  | nil_fn (f : Nat) (xs ys : List AV) : PuR P .nilck [.fn (.func f) xs ys] (.fn (.func f) xs ys)
  | add_ptr (n id off : Nat) : PuR P (.addOff n) [.ptr id off] (.ptr id (off + n))
  | add_eptr (n id sz i j : Nat) : PuR P (.addOff n) [.eptr id sz i j] (.eptr id sz i (j + n))
  | add_dptr (n sz : Nat) (xs : List (List AV)) (i j : Nat) : PuR P (.addOff n) [.dptr sz xs i j] (.dptr sz xs i (j + n))
  | idx_dsl (sz : Nat) (xs : List (List AV)) (k : IntKind) (i : Int) : 0 < sz → 0 ≤ i → i < xs.length → PuR P (.idx sz) [.dsl sz xs, .p (.int k i)] (.dptr sz xs i.toNat 0)
  | idx_osl (sz id off n : Nat) (k : IntKind) (i : Int) : 0 ≤ i → i < n → PuR P (.idx sz) [.osl id sz off n, .p (.int k i)] (.eptr id sz (off + i.toNat) 0)
  | aidx_ptr (len sz id off : Nat) (k : IntKind) (i : Int) : 0 ≤ i → i < len → PuR P (.aidx len sz) [.ptr id off, .p (.int k i)] (.ptr id (off + i.toNat * sz))
  | aidx_eptr (len sz id sz' i' j : Nat) (k : IntKind) (i : Int) : 0 ≤ i → i < len → PuR P (.aidx len sz) [.eptr id sz' i' j, .p (.int k i)] (.eptr id sz' i' (j + i.toNat * sz))
  | aidx_dptr (len sz sz' i' j : Nat) (xs : List (List AV)) (k : IntKind) (i : Int) : 0 ≤ i → i < len → PuR P (.aidx len sz) [.dptr sz' xs i' j, .p (.int k i)] (.dptr sz' xs i' (j + i.toNat * sz))
  | fld_agg (off n : Nat) (cs : List AV) : off + n ≤ cs.length → PuR P (.fld off n true) [.agg cs] (.agg ((cs.drop off).take n))
  | fld_one (off n : Nat) (cs : List AV) (a : AV) : cs[off]? = some a → PuR P (.fld off n false) [.agg cs] a
  | ext (i : Nat) (cs : List AV) (a : AV) : cs[i]? = some a → PuR P (.ext i) [.tup cs] a
  | add_i (t : TypeId) (k : IntKind) (x y z : Int) : k.wrap (x + y) = z → PuR P (.bin .add t) [.p (.int k x), .p (.int k y)] (.p (.int k z))
  | sub_i (t : TypeId) (k : IntKind) (x y z : Int) : k.wrap (x - y) = z → PuR P (.bin .sub t) [.p (.int k x), .p (.int k y)] (.p (.int k z))
  | mul_i (t : TypeId) (k : IntKind) (x y z : Int) : k.wrap (x * y) = z → PuR P (.bin .mul t) [.p (.int k x), .p (.int k y)] (.p (.int k z))
  | quo_i (t : TypeId) (k : IntKind) (x y z : Int) : y ≠ 0 → k.wrap (x.tdiv y) = z → PuR P (.bin .quo t) [.p (.int k x), .p (.int k y)] (.p (.int k z))
  | rem_i (t : TypeId) (k : IntKind) (x y z : Int) : y ≠ 0 → x.tmod y = z → PuR P (.bin .rem t) [.p (.int k x), .p (.int k y)] (.p (.int k z))
  | and_i (t : TypeId) (k : IntKind) (x y z : Int) : k.wrap (BitVec.ofInt k.bits x &&& BitVec.ofInt k.bits y).toNat = z → PuR P (.bin .and t) [.p (.int k x), .p (.int k y)] (.p (.int k z))
  | or_i (t : TypeId) (k : IntKind) (x y z : Int) : k.wrap (BitVec.ofInt k.bits x ||| BitVec.ofInt k.bits y).toNat = z → PuR P (.bin .or t) [.p (.int k x), .p (.int k y)] (.p (.int k z))
  | xor_i (t : TypeId) (k : IntKind) (x y z : Int) : k.wrap (BitVec.ofInt k.bits x ^^^ BitVec.ofInt k.bits y).toNat = z → PuR P (.bin .xor t) [.p (.int k x), .p (.int k y)] (.p (.int k z))
  | eql_i (t : TypeId) (k : IntKind) (x y : Int) : PuR P (.bin .eql t) [.p (.int k x), .p (.int k y)] (.p (.bool (decide (x = y))))
  | neq_i (t : TypeId) (k : IntKind) (x y : Int) : PuR P (.bin .neq t) [.p (.int k x), .p (.int k y)] (.p (.bool (decide (x ≠ y))))
  | lss_i (t : TypeId) (k : IntKind) (x y : Int) : PuR P (.bin .lss t) [.p (.int k x), .p (.int k y)] (.p (.bool (decide (x < y))))
  | leq_i (t : TypeId) (k : IntKind) (x y : Int) : PuR P (.bin .leq t) [.p (.int k x), .p (.int k y)] (.p (.bool (decide (x ≤ y))))
  | gtr_i (t : TypeId) (k : IntKind) (x y : Int) : PuR P (.bin .gtr t) [.p (.int k x), .p (.int k y)] (.p (.bool (decide (x > y))))
  | geq_i (t : TypeId) (k : IntKind) (x y : Int) : PuR P (.bin .geq t) [.p (.int k x), .p (.int k y)] (.p (.bool (decide (x ≥ y))))
  | shl_i (t : TypeId) (k k' : IntKind) (x y z : Int) : 0 ≤ y → k.wrap (x * 2 ^ (min y.toNat k.bits)) = z → PuR P (.bin .shl t) [.p (.int k x), .p (.int k' y)] (.p (.int k z))
  | shr_i (t : TypeId) (k k' : IntKind) (x y z : Int) : 0 ≤ y → x.fdiv (2 ^ (min y.toNat k.bits)) = z → PuR P (.bin .shr t) [.p (.int k x), .p (.int k' y)] (.p (.int k z))
  | eql_b (t : TypeId) (x y : Bool) : P.underlying t = some .bool → PuR P (.bin .eql t) [.p (.bool x), .p (.bool y)] (.p (.bool (x == y)))
  | neq_b (t : TypeId) (x y : Bool) : P.underlying t = some .bool → PuR P (.bin .neq t) [.p (.bool x), .p (.bool y)] (.p (.bool (!(x == y))))
  | eql_v (t : TypeId) (a b : AV) (us vs : Array Value) (r : Bool) : a.val = some (.agg us) → b.val = some (.agg vs) → P.eqGuardType P.depth t = false → (∀ w, (Op.equal t (.agg us) (.agg vs)).run P w = .ok r w) → PuR P (.bin .eql t) [a, b] (.p (.bool r))
  | neq_v (t : TypeId) (a b : AV) (us vs : Array Value) (r : Bool) : a.val = some (.agg us) → b.val = some (.agg vs) → P.eqGuardType P.depth t = false → (∀ w, (Op.equal t (.agg us) (.agg vs)).run P w = .ok r w) → PuR P (.bin .neq t) [a, b] (.p (.bool (!r)))
  | eqnil_dsl (t e : TypeId) (sz : Nat) (xs : List (List AV)) : P.underlying t = some (.slice e) → 0 < sz → 0 < xs.length → PuR P (.bin .eql t) [.dsl sz xs, .p (.slice none 0 0)] (.p (.bool false))
  | eqnil_osl (t e : TypeId) (id sz off n : Nat) : P.underlying t = some (.slice e) → 0 < n → PuR P (.bin .eql t) [.osl id sz off n, .p (.slice none 0 0)] (.p (.bool false))
  | eqnil_p (t e : TypeId) (A : Option Addr) (n c : Nat) : P.underlying t = some (.slice e) → PuR P (.bin .eql t) [.p (.slice A n c), .p (.slice none 0 0)] (.p (.bool A.isNone))
  | nenil_dsl (t e : TypeId) (sz : Nat) (xs : List (List AV)) : P.underlying t = some (.slice e) → 0 < sz → 0 < xs.length → PuR P (.bin .neq t) [.dsl sz xs, .p (.slice none 0 0)] (.p (.bool true))
  | nenil_osl (t e : TypeId) (id sz off n : Nat) : P.underlying t = some (.slice e) → 0 < n → PuR P (.bin .neq t) [.osl id sz off n, .p (.slice none 0 0)] (.p (.bool true))
  | eqnil_mp (t k e : TypeId) (id : Nat) : P.underlying t = some (.map k e) → PuR P (.bin .eql t) [.mp id, .p (.map none)] (.p (.bool false))
  | eqnil_mpp (t k e : TypeId) : P.underlying t = some (.map k e) → PuR P (.bin .eql t) [.p (.map none), .p (.map none)] (.p (.bool true))
  | nenil_mp (t k e : TypeId) (id : Nat) : P.underlying t = some (.map k e) → PuR P (.bin .neq t) [.mp id, .p (.map none)] (.p (.bool true))
  | nenil_mpp (t k e : TypeId) : P.underlying t = some (.map k e) → PuR P (.bin .neq t) [.p (.map none), .p (.map none)] (.p (.bool false))
  | nenil_p (t e : TypeId) (A : Option Addr) (n c : Nat) : P.underlying t = some (.slice e) → PuR P (.bin .neq t) [.p (.slice A n c), .p (.slice none 0 0)] (.p (.bool (!A.isNone)))
  | eql_s (t : TypeId) (x y : ByteArray) : PuR P (.bin .eql t) [.p (.string x), .p (.string y)] (.p (.bool (x.toList == y.toList)))
  | neq_s (t : TypeId) (x y : ByteArray) : PuR P (.bin .neq t) [.p (.string x), .p (.string y)] (.p (.bool (!(x.toList == y.toList))))
  | add_s (t : TypeId) (x y : ByteArray) : x.size + y.size ≤ maxLen → PuR P (.bin .add t) [.p (.string x), .p (.string y)] (.p (.string (x ++ y)))
  | lss_s (t : TypeId) (x y : ByteArray) : PuR P (.bin .lss t) [.p (.string x), .p (.string y)] (.p (.bool (Op.bytesLess x.toList y.toList)))
  | neg_i (k : IntKind) (x z : Int) : k.wrap (0 - x) = z → PuR P (.un .neg) [.p (.int k x)] (.p (.int k z))
  | not_b (x : Bool) : PuR P (.un .not) [.p (.bool x)] (.p (.bool (!x)))
  | conv_i (k j : IntKind) (x z : Int) : k.wrap x = z → PuR P (.conv k) [.p (.int j x)] (.p (.int k z))
  | same_s (x : ByteArray) : PuR P .same [.p (.string x)] (.p (.string x))
  | len_dsl (sz : Nat) (xs : List (List AV)) : PuR P .len [.dsl sz xs] (.p (.int .i64 xs.length))
  | len_osl (id sz off n : Nat) : PuR P .len [.osl id sz off n] (.p (.int .i64 n))
  | len_nil (A : Option Addr) (c : Nat) : PuR P .len [.p (.slice A 0 c)] (.p (.int .i64 0))
  | len_s (x : ByteArray) : PuR P .slen [.p (.string x)] (.p (.int .i64 x.size))
  | slc_00 (sz : Nat) (xs : List (List AV)) : PuR P (.slc sz false false) [.dsl sz xs] (.dsl sz xs)
  | slc_10 (sz : Nat) (xs : List (List AV)) (k : IntKind) (lo : Int) : 0 ≤ lo → lo ≤ xs.length → PuR P (.slc sz true false) [.dsl sz xs, .p (.int k lo)] (.dsl sz (xs.drop lo.toNat))
  | slc_01 (sz : Nat) (xs : List (List AV)) (k : IntKind) (hi : Int) : 0 ≤ hi → hi ≤ xs.length → PuR P (.slc sz false true) [.dsl sz xs, .p (.int k hi)] (.dsl sz (xs.take hi.toNat))
  | slc_11 (sz : Nat) (xs : List (List AV)) (k k' : IntKind) (lo hi : Int) : 0 ≤ lo → lo ≤ hi → hi ≤ xs.length → PuR P (.slc sz true true) [.dsl sz xs, .p (.int k lo), .p (.int k' hi)] (.dsl sz ((xs.drop lo.toNat).take (hi.toNat - lo.toNat)))
  | slo_00 (sz id off n : Nat) : PuR P (.slc sz false false) [.osl id sz off n] (.osl id sz off n)
  | slo_10 (sz id off n : Nat) (k : IntKind) (lo : Int) : 0 ≤ lo → lo ≤ n → PuR P (.slc sz true false) [.osl id sz off n, .p (.int k lo)] (.osl id sz (off + lo.toNat) (n - lo.toNat))
  | slo_01 (sz id off n : Nat) (k : IntKind) (hi : Int) : 0 ≤ hi → hi ≤ n → PuR P (.slc sz false true) [.osl id sz off n, .p (.int k hi)] (.osl id sz off hi.toNat)
  | slo_11 (sz id off n : Nat) (k k' : IntKind) (lo hi : Int) : 0 ≤ lo → lo ≤ hi → hi ≤ n → PuR P (.slc sz true true) [.osl id sz off n, .p (.int k lo), .p (.int k' hi)] (.osl id sz (off + lo.toNat) (hi.toNat - lo.toNat))
  | ssl_00 (s : ByteArray) : PuR P (.ssl false false) [.p (.string s)] (.p (.string (s.extract 0 s.size)))
  | ssl_10 (s : ByteArray) (k : IntKind) (lo : Int) : 0 ≤ lo → lo ≤ s.size → PuR P (.ssl true false) [.p (.string s), .p (.int k lo)] (.p (.string (s.extract lo.toNat s.size)))
  | ssl_01 (s : ByteArray) (k : IntKind) (hi : Int) : 0 ≤ hi → hi ≤ s.size → PuR P (.ssl false true) [.p (.string s), .p (.int k hi)] (.p (.string (s.extract 0 hi.toNat)))
  | ssl_11 (s : ByteArray) (k k' : IntKind) (lo hi : Int) : 0 ≤ lo → lo ≤ hi → hi ≤ s.size → PuR P (.ssl true true) [.p (.string s), .p (.int k lo), .p (.int k' hi)] (.p (.string (s.extract lo.toNat hi.toNat)))
  | sidx (s : ByteArray) (k : IntKind) (i : Int) (b : UInt8) : 0 ≤ i → s[i.toNat]? = some b → PuR P .sidx [.p (.string s), .p (.int k i)] (.p (.int .u8 b.toNat))
  | vidx_agg (len sz : Nat) (k : IntKind) (i : Int) (cs : List AV) : 0 ≤ i → i < len → i.toNat * sz + sz ≤ cs.length → PuR P (.vidx len sz true) [.agg cs, .p (.int k i)] (.agg ((cs.drop (i.toNat * sz)).take sz))
  | vidx_one (len sz : Nat) (k : IntKind) (i : Int) (cs : List AV) (a : AV) : 0 ≤ i → i < len → cs[i.toNat * sz]? = some a → PuR P (.vidx len sz false) [.agg cs, .p (.int k i)] a
  | cap_nil (c : Nat) : PuR P .cap [.p (.slice none 0 c)] (.p (.int .i64 c))
  | sld_osl (sz id off n : Nat) : 0 < n → PuR P (.sld sz) [.osl id sz off n] (.eptr id sz off 0)
  | sld_nil (sz c : Nat) : PuR P (.sld sz) [.p (.slice none 0 c)] (.p (.pointer none))
  | slc_nil (sz : Nat) (k : IntKind) : PuR P (.slc sz false true) [.p (.slice none 0 0), .p (.int k 0)] (.p (.slice none 0 0))
  | mn_i (k : IntKind) (x y : Int) : PuR P .mn [.p (.int k x), .p (.int k y)] (.p (.int k (if y < x then y else x)))
  | mx_i (k : IntKind) (x y : Int) : PuR P .mx [.p (.int k x), .p (.int k y)] (.p (.int k (if y > x then y else x)))
  | mkfn (f : Fn) (nf : Nat) (xs : List AV) : nf ≤ xs.length → PuR P (.mkfn f nf) xs (.fn f (xs.take nf) (xs.drop nf))
  | bld (z : List AV) (pl : List (Nat × Nat)) (xs : List AV) (cs : List AV) : xs.all AV.part = true → fillA z pl xs = some cs → PuR P (.bld z pl) xs (.agg cs)

/-- which operation it is; the operands in order -/
def optL : Option Operand → List Operand
  | none => []
  | some x => [x]
def aggB (P : Program) (t : TypeId) : Option Bool :=
  match P.underlying t with
  | some (.struct _) => some true
  | some (.array _ _) => some true
  | some _ => some false
  | none => none
def zeroA (P : Program) (t : TypeId) : Option (List AV) :=
  match P.info? t with
  | some i => match i.zero with
    | some z => if z.cells.all (·.oneCell') then some (z.cells.toList.map .p) else none
    | none => none
  | none => none
def clsP (P : Program) (o : Op) : Option (PO × List Operand) :=
  match o with
  | .move x | .assign x => some (.mv, [x])
  | .pick c a b => some (.pick, [c, a, b])
  | .nilCheck x => some (.nilck, [x])
  | .fieldAddr t x f => match P.underlying t with
    | some (.struct fields) => match fields[f]? with
      | some fd => match P.info? fd.type with
        | some i => if i.size = 0 then none else some (.addOff fd.offset, [x])
        | none => none
      | none => none
    | _ => none
  | .indexAddr t x i => match P.underlying t with
    | some (.slice e) => (P.info? e).map fun j => (.idx j.size, [x, i])
    | some (.array n e) => (P.info? e).map fun j => (.aidx n j.size, [x, i])
    | _ => none
  | .field t x f => match P.underlying t with
    | some (.struct fields) => match fields[f]? with
      | some fd => match aggB P fd.type, P.info? fd.type with
        | some b, some j => some (.fld fd.offset j.size b, [x])
        | _, _ => none
      | none => none
    | _ => none
  | .extract x i => some (.ext i, [x])
  | .binOp op t x y _ => some (.bin op t, [x, y])
  | .unOp op _ x => some (.un op, [x])
  | .convert s d x => match P.underlying s, P.underlying d with
    | some (.int _), some (.int k) => some (.conv k, [x])
    | some .string, some .string => some (.same, [x])
    | _, _ => none
  | .slice t x lo hi none => match P.underlying t with
    | some (.slice e) => (P.info? e).map fun j => (.slc j.size lo.isSome hi.isSome, x :: optL lo ++ optL hi)
    | some .string => some (.ssl lo.isSome hi.isSome, x :: optL lo ++ optL hi)
    | _ => none
  | .index t x i => match P.underlying t with
    | some .string => some (.sidx, [x, i])
    | some (.array n e) => match aggB P e, P.info? e with
      | some b, some j => some (.vidx n j.size b, [x, i])
      | _, _ => none
    | _ => none
  | .makeFunc f xs ys => some (.mkfn f xs.size, xs.toList ++ ys.toList)
  | .build t parts => match P.underlying t, zeroA P t with
    | some (.struct fields), some z => match fields.toList.mapM (fun f => (P.info? f.type).map fun i => (f.offset, i.size)) with
      | some places => match parts.toList.mapM (fun x => places[x.1]?) with
        | some pl => some (.bld z pl, parts.toList.map (·.2))
        | none => none
      | none => none
    | some (.array _ e), some z => match P.info? e with
      | some j => some (.bld z (parts.toList.map fun x => (x.1 * j.size, j.size)), parts.toList.map (·.2))
      | none => none
    | _, _ => none
  | .call c => match c.callee with
    | .builtin .len => match (c.argTypes[0]?).bind P.underlying with
      | some .string => match c.args.toList with | [x] => some (.slen, [x]) | _ => none
      | some (.slice _) => match c.args.toList with | [x] => some (.len, [x]) | _ => none
      | _ => none
    | .builtin .cap => match (c.argTypes[0]?).bind P.underlying with
      | some (.slice _) => match c.args.toList with | [x] => some (.cap, [x]) | _ => none
      | _ => none
    | .builtin .unsafeSliceData => match (c.argTypes[0]?).bind P.underlying with
      | some (.slice e) => match c.args.toList with | [x] => (P.info? e).map fun j => (.sld j.size, [x]) | _ => none
      | _ => none
    | .builtin .min => match c.args.toList with | [x, y] => some (.mn, [x, y]) | _ => none
    | .builtin .max => match c.args.toList with | [x, y] => some (.mx, [x, y]) | _ => none
    | _ => none
  | _ => none
end Go.Proofs.Ytgkkilbeingleaa

/- Operations that touch no memory: what the model does is what the abstract rules say. Nothing of the program is named here. -/
namespace Go.Proofs.Ytgkkilbeingleaa
open Go.RowKit

section
variable {P : Program} {w : World} {S : Nat → Prop} {σ : Nat → Option Value} {ev : Operand → Value}
theorem Rps.one_inv {a : AV} {vs : List Value} (h : Rps w S σ [a] vs) : ∃ v, vs = [v] ∧ Rp w S σ a v := by
  obtain ⟨v, r, rfl, h1, h2⟩ := h.uncons
  obtain rfl := h2.nil_inv
  exact ⟨v, rfl, h1⟩
theorem Rps.two_inv {a b : AV} {vs : List Value} (h : Rps w S σ [a, b] vs) : ∃ v u, vs = [v, u] ∧ Rp w S σ a v ∧ Rp w S σ b u := by
  obtain ⟨v, r, rfl, h1, h2⟩ := h.uncons
  obtain ⟨u, rfl, h3⟩ := h2.one_inv
  exact ⟨v, u, rfl, h1, h3⟩
theorem Rps.three_inv {a b c : AV} {vs : List Value} (h : Rps w S σ [a, b, c] vs) : ∃ v u x, vs = [v, u, x] ∧ Rp w S σ a v ∧ Rp w S σ b u ∧ Rp w S σ c x := by
  obtain ⟨v, r, rfl, h1, h2⟩ := h.uncons
  obtain ⟨u, x, rfl, h3, h4⟩ := h2.two_inv
  exact ⟨v, u, x, rfl, h1, h3, h4⟩
theorem Rps.drop {cs : List AV} {vs : List Value} (h : Rps w S σ cs vs) (n : Nat) : Rps w S σ (cs.drop n) (vs.drop n) :=
  ⟨by rw [List.length_drop, List.length_drop, h.1], fun i a v ha hv => h.2 (n + i) a v (by rw [List.getElem?_drop] at ha; exact ha) (by rw [List.getElem?_drop] at hv; exact hv)⟩
theorem Rps.take {cs : List AV} {vs : List Value} (h : Rps w S σ cs vs) (n : Nat) : Rps w S σ (cs.take n) (vs.take n) := by
  refine ⟨by rw [List.length_take, List.length_take, h.1], fun i a v ha hv => ?_⟩
  rw [List.getElem?_take] at ha hv
  split at ha
  · rename_i hi; rw [if_pos hi] at hv; exact h.2 i a v ha hv
  · cases ha
theorem Rps.set {cs : List AV} {vs : List Value} (h : Rps w S σ cs vs) {a : AV} {v : Value} (ha : Rp w S σ a v) (n : Nat) : Rps w S σ (cs.set n a) (vs.set n v) := by
  refine ⟨by rw [List.length_set, List.length_set, h.1], fun i b u hb hu => ?_⟩
  by_cases hi : n = i
  · subst hi
    rw [List.getElem?_set] at hb hu
    rw [if_pos rfl] at hb hu
    split at hb
    · split at hu
      · injection hb with hb; injection hu with hu; subst hb; subst hu; exact ha
      · cases hu
    · cases hb
  · rw [List.getElem?_set_ne hi] at hb hu; exact h.2 i b u hb hu
theorem Rps.at_ {cs : List AV} {vs : List Value} (h : Rps w S σ cs vs) {i : Nat} {a : AV} (ha : cs[i]? = some a) : ∃ v, vs[i]? = some v ∧ Rp w S σ a v := by
  have hi : i < vs.length := by rw [← h.1]; exact (List.getElem?_eq_some_iff.1 ha).1
  exact ⟨_, List.getElem?_eq_getElem hi, h.2 i a _ ha (List.getElem?_eq_getElem hi)⟩
theorem addr_add (g o n : Nat) : Addr.add ⟨g, o, none⟩ n = ⟨g, o + n, none⟩ := by
  unfold Addr.add
  split
  · rename_i h; subst h; rfl
  · rfl
def Val1 (P : Program) (w : World) (S : Nat → Prop) (σ : Nat → Option Value) (ev : Operand → Value) (o : Oper) (a : AV) : Prop := ∃ v, (execOp ev o).run P w = .ok (.value v) w ∧ Rp w S σ a v

theorem pu_mv {o : Oper} {x : Operand} {a : AV} {args : List AV} (ho : o.op = .move x ∨ o.op = .assign x) (hp : PuR P .mv args a) (hr : Rps w S σ args [ev x]) : Val1 P w S σ ev o a := by
  cases hp
  obtain ⟨v, e, h⟩ := hr.one_inv
  injection e with e; subst e
  refine ⟨_, ?_, h⟩
  rcases ho with ho | ho <;> simp [execOp, ho, pure, Sem.run]
theorem pu_pick {o : Oper} {x y z : Operand} {a : AV} {args : List AV} (ho : o.op = .pick x y z) (hp : PuR P .pick args a) (hr : Rps w S σ args [ev x, ev y, ev z]) : Val1 P w S σ ev o a := by
  cases hp with
  | pick c a b =>
    obtain ⟨v, u, r, e, h1, h2, h3⟩ := hr.three_inv
    simp only [List.cons.injEq, and_true] at e
    obtain ⟨rfl, rfl, rfl⟩ := e
    obtain ⟨hx, _⟩ := h1.p_inv
    refine ⟨if c then ev y else ev z, ?_, by cases c; exact h3; exact h2⟩
    cases c <;> go_simp <;> simp [execOp, ho, hx, asBool, pure, Sem.run, bind, Sem.bind]
theorem pu_nilck {o : Oper} {x : Operand} {a : AV} {args : List AV} (ho : o.op = .nilCheck x) (hp : PuR P .nilck args a) (hr : Rps w S σ args [ev x]) : Val1 P w S σ ev o a := by
  cases hp
  all_goals
    obtain ⟨v, e, h⟩ := hr.one_inv
    injection e with e; subst e
    refine ⟨ev x, ?_, h⟩
  · obtain ⟨g, hx, _⟩ := h.ptr_inv
    simp [execOp, ho, hx, pure, Sem.run]
  · obtain ⟨g, o1, n, c, hx, _⟩ := h.eptr_inv
    simp [execOp, ho, hx, pure, Sem.run]
  · obtain ⟨g, o1, c, hx, _⟩ := h.dptr_inv
    simp [execOp, ho, hx, pure, Sem.run]
  · obtain ⟨fs, cs, hx, _⟩ := h.fn_inv
    simp [execOp, ho, hx, pure, Sem.run]
theorem pu_addOff {o : Oper} {t : TypeId} {x : Operand} {f : Nat} {fields : Array Field} {fd : Field} {i : TypeInfo} {a : AV} {args : List AV} (ho : o.op = .fieldAddr t x f)
    (h1 : P.underlying t = some (.struct fields)) (h2 : fields[f]? = some fd) (h3 : P.info? fd.type = some i) (h4 : i.size ≠ 0) (hp : PuR P (.addOff fd.offset) args a) (hr : Rps w S σ args [ev x]) : Val1 P w S σ ev o a := by
  have run : ∀ g off, ev x = .pointer (some ⟨g, off, none⟩) → (execOp ev o).run P w = .ok (.value (.pointer (some ⟨g, off + fd.offset, none⟩))) w := by
    intro g off hx
    simp [execOp, ho, Instr.fieldAt, run_underlying h1, h2, hx, Instr.sureAddr, fieldPlace, sizeOf, typeInfo, h3, h4, addr_add]
  cases hp
  all_goals
    obtain ⟨v, e, h⟩ := hr.one_inv
    injection e with e; subst e
  · obtain ⟨g, hx, hs⟩ := h.ptr_inv
    exact ⟨_, run _ _ hx, .ptr _ _ g hs⟩
  · obtain ⟨g, o1, n, c, hx, hs⟩ := h.eptr_inv
    refine ⟨_, run _ _ hx, ?_⟩
    rw [Nat.add_assoc]
    exact .eptr _ _ _ _ g o1 n c hs
  · obtain ⟨g, o1, c, hx, hs, hi⟩ := h.dptr_inv
    refine ⟨_, run _ _ hx, ?_⟩
    rw [Nat.add_assoc]
    exact .dptr _ _ _ _ g o1 c hs hi
theorem pu_idx {o : Oper} {t e : TypeId} {x y : Operand} {j : TypeInfo} {a : AV} {args : List AV} (ho : o.op = .indexAddr t x y)
    (h1 : P.underlying t = some (.slice e)) (h3 : P.info? e = some j) (hp : PuR P (.idx j.size) args a) (hr : Rps w S σ args [ev x, ev y]) (hsz : ∀ id A n c, σ id = some (.slice A n c) → n ≤ c ∧ (0 < c → ∃ g o, A = some ⟨g, o, none⟩)) : Val1 P w S σ ev o a := by
  cases hp with
  | idx_dsl sz xs k i hpos hi0 hi1 =>
    obtain ⟨v, u, e, q1, q2⟩ := hr.two_inv
    simp only [List.cons.injEq, and_true] at e
    obtain ⟨rfl, rfl⟩ := e
    obtain ⟨hy, _⟩ := q2.p_inv
    have hD := q1.dsl_inv
    obtain ⟨A, c, z, hx, r1, r2, r3, r4, r5, r6⟩ := hD.dsl_inv
    have hlt : i.toNat < xs.length := by omega
    have hel := r3 _ (List.getElem_mem hlt)
    obtain ⟨g, off, rfl, _, _⟩ := r4 i.toNat _ 0 _ (List.getElem?_eq_getElem hlt) (List.getElem?_eq_getElem (by omega))
    refine ⟨.pointer (some ⟨g, off + i.toNat * j.size + 0, none⟩), ?_, .dptr _ _ _ _ g off c (by rw [← hx]; exact hD) hlt⟩
    have hlt' : i < (xs.length : Int) := hi1
    simp [execOp, ho, Instr.indexAt, run_underlying h1, hx, hy, asIntOf, hi0, hlt', sizeOf, typeInfo, h3, addr_add]
  | idx_osl sz id off n k i hi0 hi1 =>
    obtain ⟨v, u, e, q1, q2⟩ := hr.two_inv
    simp only [List.cons.injEq, and_true] at e
    obtain ⟨rfl, rfl⟩ := e
    obtain ⟨hy, _⟩ := q2.p_inv
    obtain ⟨A, B, N, c, cc, hx, hs, hle, hoc, hB⟩ := q1.osl_inv
    obtain ⟨hN, hNc⟩ := hsz id A N c hs
    obtain ⟨g, o1, rfl⟩ := hNc (by omega)
    obtain rfl := hB (by omega)
    rw [Option.map_some, addr_add] at hx
    refine ⟨.pointer (some ⟨g, o1 + (off + i.toNat) * j.size + 0, none⟩), ?_, .eptr _ _ _ _ g o1 N c hs⟩
    have hlt' : i < (n : Int) := hi1
    simp [execOp, ho, Instr.indexAt, run_underlying h1, hx, hy, asIntOf, hi0, hlt', sizeOf, typeInfo, h3, addr_add, Nat.add_mul, Nat.add_assoc]
theorem pu_aidx {o : Oper} {t e : TypeId} {m : Nat} {x y : Operand} {j : TypeInfo} {a : AV} {args : List AV} (ho : o.op = .indexAddr t x y)
    (h1 : P.underlying t = some (.array m e)) (h3 : P.info? e = some j) (hp : PuR P (.aidx m j.size) args a) (hr : Rps w S σ args [ev x, ev y]) : Val1 P w S σ ev o a := by
  have run : ∀ g off k (i : Int), ev x = .pointer (some ⟨g, off, none⟩) → ev y = .int k i → 0 ≤ i → i < (m : Int) → (execOp ev o).run P w = .ok (.value (.pointer (some ⟨g, off + i.toNat * j.size, none⟩))) w := by
    intro g off k i hx hy h0 h2
    simp [execOp, ho, Instr.indexAt, run_underlying h1, hx, hy, asIntOf, h0, h2, sizeOf, typeInfo, h3, addr_add, Instr.sureAddr]
  cases hp
  all_goals
    obtain ⟨v, u, e, q1, q2⟩ := hr.two_inv
    simp only [List.cons.injEq, and_true] at e
    obtain ⟨rfl, rfl⟩ := e
    obtain ⟨hy, _⟩ := q2.p_inv
  · obtain ⟨g, hx, hs⟩ := q1.ptr_inv
    exact ⟨_, run _ _ _ _ hx hy ‹_› ‹_›, .ptr _ _ g hs⟩
  · obtain ⟨g, o1, n, c, hx, hs⟩ := q1.eptr_inv
    refine ⟨_, run _ _ _ _ hx hy ‹_› ‹_›, ?_⟩
    rw [Nat.add_assoc]
    exact .eptr _ _ _ _ g o1 n c hs
  · obtain ⟨g, o1, c, hx, hs, hi⟩ := q1.dptr_inv
    refine ⟨_, run _ _ _ _ hx hy ‹_› ‹_›, ?_⟩
    rw [Nat.add_assoc]
    exact .dptr _ _ _ _ g o1 c hs hi
theorem run_isAggB {t : TypeId} {b : Bool} (h : aggB P t = some b) : (isAgg t).run P w = .ok b w := by
  unfold aggB at h
  cases hu : P.underlying t with
  | none => rw [hu] at h; cases h
  | some d =>
    rw [hu] at h
    cases d <;> simp only [Option.some.injEq] at h <;> subst h <;> simp [isAgg, run_underlying hu]
theorem pu_fld {o : Oper} {t : TypeId} {x : Operand} {f : Nat} {fields : Array Field} {fd : Field} {j : TypeInfo} {b : Bool} {a : AV} {args : List AV} (ho : o.op = .field t x f)
    (h1 : P.underlying t = some (.struct fields)) (h2 : fields[f]? = some fd) (h3 : aggB P fd.type = some b) (h4 : P.info? fd.type = some j) (hp : PuR P (.fld fd.offset j.size b) args a) (hr : Rps w S σ args [ev x]) : Val1 P w S σ ev o a := by
  have hag := run_isAggB (w := w) h3
  cases hp with
  | fld_agg off n cs hle =>
    obtain ⟨v, e, h⟩ := hr.one_inv
    injection e with e; subst e
    obtain ⟨vs, hx, hv, hv1⟩ := h.agg_inv
    refine ⟨.agg (vs.extract fd.offset (fd.offset + j.size)), ?_, ?_⟩
    · simp [execOp, ho, Instr.field, run_underlying h1, h2, hx, asAgg, part, hag, sizeOf, typeInfo, h4]
    · refine Rps.agg ?_ (fun u hu => hv1 u (by have h1 := Array.mem_toList_iff.2 hu; rw [Array.toList_extract] at h1; simp only [List.extract] at h1; exact Array.mem_toList_iff.1 (List.mem_of_mem_drop (List.mem_of_mem_take h1))))
      have : (vs.extract fd.offset (fd.offset + j.size)).toList = (vs.toList.drop fd.offset).take j.size := by
        rw [Array.toList_extract]; simp [List.extract]
      rw [this]
      exact (hv.drop _).take _
  | fld_one off n cs a ha =>
    obtain ⟨v, e, h⟩ := hr.one_inv
    injection e with e; subst e
    obtain ⟨vs, hx, hv, hv1⟩ := h.agg_inv
    obtain ⟨u, hu, hau⟩ := hv.at_ ha
    refine ⟨u, ?_, hau⟩
    rw [Array.getElem?_toList] at hu
    simp [execOp, ho, Instr.field, run_underlying h1, h2, hx, asAgg, part, hag, hu]
theorem pu_vidx {o : Oper} {t e : TypeId} {x y : Operand} {n : Nat} {j : TypeInfo} {b : Bool} {a : AV} {args : List AV} (ho : o.op = .index t x y)
    (h1 : P.underlying t = some (.array n e)) (h3 : aggB P e = some b) (h4 : P.info? e = some j) (hp : PuR P (.vidx n j.size b) args a) (hr : Rps w S σ args [ev x, ev y]) : Val1 P w S σ ev o a := by
  have hag := run_isAggB (w := w) h3
  cases hp with
  | vidx_agg _ _ k i cs i0 i1 hle =>
    obtain ⟨v, u, e, h, h'⟩ := hr.two_inv
    simp only [List.cons.injEq, and_true] at e
    obtain ⟨rfl, rfl⟩ := e
    obtain ⟨vs, hx, hv, hv1⟩ := h.agg_inv
    have hy := h'.p_inv.1
    refine ⟨.agg (vs.extract (i.toNat * j.size) (i.toNat * j.size + j.size)), ?_, ?_⟩
    · simp [execOp, ho, Instr.index, run_underlying h1, hx, hy, asIntOf, i0, i1, part, hag, sizeOf, typeInfo, h4]
    · refine Rps.agg ?_ (fun u hu => hv1 u (by have h1 := Array.mem_toList_iff.2 hu; rw [Array.toList_extract] at h1; simp only [List.extract] at h1; exact Array.mem_toList_iff.1 (List.mem_of_mem_drop (List.mem_of_mem_take h1))))
      have : (vs.extract (i.toNat * j.size) (i.toNat * j.size + j.size)).toList = (vs.toList.drop (i.toNat * j.size)).take j.size := by
        rw [Array.toList_extract]; simp [List.extract]
      rw [this]
      exact (hv.drop _).take _
  | vidx_one _ _ k i cs a i0 i1 ha =>
    obtain ⟨v, u, e, h, h'⟩ := hr.two_inv
    simp only [List.cons.injEq, and_true] at e
    obtain ⟨rfl, rfl⟩ := e
    obtain ⟨vs, hx, hv, hv1⟩ := h.agg_inv
    have hy := h'.p_inv.1
    obtain ⟨u, hu, hau⟩ := hv.at_ ha
    refine ⟨u, ?_, hau⟩
    rw [Array.getElem?_toList] at hu
    simp [execOp, ho, Instr.index, run_underlying h1, hx, hy, asIntOf, i0, i1, part, hag, sizeOf, typeInfo, h4, hu]
theorem pu_ext {o : Oper} {x : Operand} {i : Nat} {a : AV} {args : List AV} (ho : o.op = .extract x i) (hp : PuR P (.ext i) args a) (hr : Rps w S σ args [ev x]) : Val1 P w S σ ev o a := by
  cases hp with
  | ext _ cs a ha =>
    obtain ⟨v, e, h⟩ := hr.one_inv
    injection e with e; subst e
    obtain ⟨vs, hx, hv⟩ := h.tup_inv
    obtain ⟨u, hu, hau⟩ := hv.at_ ha
    refine ⟨u, ?_, hau⟩
    rw [Array.getElem?_toList] at hu
    simp [execOp, ho, Instr.extract, hx, hu]
theorem int_beq (a b : Int) : (a == b) = decide (a = b) := by by_cases h : a = b <;> simp [h]
theorem run_equal_bool {t : TypeId} (h : P.underlying t = some .bool) (x y : Bool) : (Op.equal t (.bool x) (.bool y)).run P w = .ok (x == y) w := by
  rw [Op.equal, Op.maxDepth, show (10000 : Nat) = 9999 + 1 from rfl, Op.equalIn]
  simp [run_underlying h]
theorem run_equal_nil {t e : TypeId} (h : P.underlying t = some (.slice e)) (A : Option Addr) (n c : Nat) : (Op.equal t (.slice A n c) (.slice none 0 0)).run P w = .ok A.isNone w := by
  rw [Op.equal, Op.maxDepth, show (10000 : Nat) = 9999 + 1 from rfl, Op.equalIn]
  cases A <;> simp [run_underlying h]
theorem run_equal_mnil {t k e : TypeId} (h : P.underlying t = some (.map k e)) (A : Option Nat) : (Op.equal t (.map A) (.map none)).run P w = .ok A.isNone w := by
  rw [Op.equal, Op.maxDepth, show (10000 : Nat) = 9999 + 1 from rfl, Op.equalIn]
  cases A <;> simp [run_underlying h]
theorem eqGuard_agg {op : BinOp} {t : TypeId} {x y : Operand} {us vs : Array Value} (h : P.eqGuardType P.depth t = false) : (eqGuard op t x y (.agg us) (.agg vs)).run P w = .ok () w := by
  unfold eqGuard
  split <;> simp [h]
theorem vals_sound : ∀ {cs : List AV} {l vs : List Value}, vals cs = some l → Rps w S σ cs vs → vs = l
  | [], l, vs, h, hr => by simp only [vals, Option.some.injEq] at h; subst h; exact hr.nil_inv
  | a :: r, l, vs, h, hr => by
    cases a <;> simp only [vals] at h <;> try (cases h; done)
    rename_i v
    cases h1 : vals r with
    | none => rw [h1] at h; cases h
    | some l' =>
      rw [h1] at h
      simp only [Option.some.injEq] at h
      subst h
      obtain ⟨u, us, rfl, q1, q2⟩ := hr.uncons
      rw [q1.p_inv.1, vals_sound h1 q2]
theorem AV.val_sound {a : AV} {u v : Value} (h : a.val = some u) (hr : Rp w S σ a v) : v = u := by
  cases a <;> simp only [AV.val] at h <;> try (cases h; done)
  · injection h with h; subst h; exact hr.p_inv.1
  · rename_i cs
    cases h1 : vals cs with
    | none => rw [h1] at h; cases h
    | some l =>
      rw [h1] at h
      simp only [Option.some.injEq] at h
      subst h
      obtain ⟨vs, rfl, q, _⟩ := hr.agg_inv
      rw [← vals_sound h1 q, Array.toArray_toList]
theorem pu_bin {o : Oper} {op : BinOp} {t ty : TypeId} {x y : Operand} {a : AV} {args : List AV} (ho : o.op = .binOp op t x y ty) (hp : PuR P (.bin op t) args a) (hr : Rps w S σ args [ev x, ev y]) (hsz : ∀ id A n c, σ id = some (.slice A n c) → n ≤ c ∧ (0 < c → ∃ g o, A = some ⟨g, o, none⟩)) : Val1 P w S σ ev o a := by
  have key : ∀ v u r, ev x = v → ev y = u → (eqGuard op t x y v u).run P w = .ok () w → (binOp op t v u).run P w = .ok r w → (execOp ev o).run P w = .ok (.value r) w := by
    intro v u r hx hy h1 h2
    simp [execOp, ho, hx, hy, h1, h2]
  cases hp
  all_goals
    obtain ⟨v, u, e, q1, q2⟩ := hr.two_inv
    simp only [List.cons.injEq, and_true] at e
    obtain ⟨rfl, rfl⟩ := e
  case eql_v us vs r hu hv hg he => exact ⟨_, key _ _ _ (AV.val_sound hu q1) (AV.val_sound hv q2) (eqGuard_agg hg) (by simp [binOp, he]), .data _ _ (.p _ rfl)⟩
  case neq_v us vs r hu hv hg he => exact ⟨_, key _ _ _ (AV.val_sound hu q1) (AV.val_sound hv q2) (eqGuard_agg hg) (by simp [binOp, he]), .data _ _ (.p _ rfl)⟩
  case eqnil_mp hu =>
    obtain ⟨g, hv, _⟩ := q1.mp_inv
    exact ⟨_, key _ _ _ hv q2.p_inv.1 (by simp [eqGuard]) (by simp [binOp, run_equal_mnil hu]), .data _ _ (.p _ rfl)⟩
  case nenil_mp hu =>
    obtain ⟨g, hv, _⟩ := q1.mp_inv
    exact ⟨_, key _ _ _ hv q2.p_inv.1 (by simp [eqGuard]) (by simp [binOp, run_equal_mnil hu]), .data _ _ (.p _ rfl)⟩
  case eqnil_dsl =>
    rename_i e sz xs hn' hsz0' hu'
    have hu : P.underlying t = some (.slice e) := by assumption
    have hn : 0 < xs.length := by assumption
    have hsz0 : 0 < sz := by assumption
    obtain ⟨A, c, z, hv, r1, r2, r3, r4, _⟩ := q1.dsl_inv.dsl_inv
    obtain ⟨e0, he0⟩ : ∃ e0, xs[0]? = some e0 := ⟨_, List.getElem?_eq_getElem hn⟩
    have hl0 := r3 e0 (List.mem_of_getElem? he0)
    obtain ⟨a0, ha0⟩ : ∃ a0, e0[0]? = some a0 := ⟨_, List.getElem?_eq_getElem (by omega)⟩
    obtain ⟨g, o', hA, _⟩ := r4 0 e0 0 a0 he0 ha0
    subst hA
    exact ⟨_, key _ _ _ hv q2.p_inv.1 (by simp [eqGuard]) (by simp [binOp, run_equal_nil hu]), .data _ _ (.p _ rfl)⟩
  case nenil_dsl =>
    rename_i e sz xs hn' hsz0' hu'
    have hu : P.underlying t = some (.slice e) := by assumption
    have hn : 0 < xs.length := by assumption
    have hsz0 : 0 < sz := by assumption
    obtain ⟨A, c, z, hv, r1, r2, r3, r4, _⟩ := q1.dsl_inv.dsl_inv
    obtain ⟨e0, he0⟩ : ∃ e0, xs[0]? = some e0 := ⟨_, List.getElem?_eq_getElem hn⟩
    have hl0 := r3 e0 (List.mem_of_getElem? he0)
    obtain ⟨a0, ha0⟩ : ∃ a0, e0[0]? = some a0 := ⟨_, List.getElem?_eq_getElem (by omega)⟩
    obtain ⟨g, o', hA, _⟩ := r4 0 e0 0 a0 he0 ha0
    subst hA
    exact ⟨_, key _ _ _ hv q2.p_inv.1 (by simp [eqGuard]) (by simp [binOp, run_equal_nil hu]), .data _ _ (.p _ rfl)⟩
  case eqnil_osl =>
    rename_i e id sz off n hn' hu'
    have hu : P.underlying t = some (.slice e) := by assumption
    have hn : 0 < n := by assumption
    obtain ⟨A, B, N, c, cc, hv, hsg, hle, hoc, hB⟩ := q1.osl_inv
    obtain ⟨g, o', hA⟩ := (hsz _ _ _ _ hsg).2 (by omega)
    subst hA
    have hBs := hB (by omega)
    rw [Option.map_some] at hBs
    subst hBs
    exact ⟨_, key _ _ _ hv q2.p_inv.1 (by simp [eqGuard]) (by simp [binOp, run_equal_nil hu]), .data _ _ (.p _ rfl)⟩
  case nenil_osl =>
    rename_i e id sz off n hn' hu'
    have hu : P.underlying t = some (.slice e) := by assumption
    have hn : 0 < n := by assumption
    obtain ⟨A, B, N, c, cc, hv, hsg, hle, hoc, hB⟩ := q1.osl_inv
    obtain ⟨g, o', hA⟩ := (hsz _ _ _ _ hsg).2 (by omega)
    subst hA
    have hBs := hB (by omega)
    rw [Option.map_some] at hBs
    subst hBs
    exact ⟨_, key _ _ _ hv q2.p_inv.1 (by simp [eqGuard]) (by simp [binOp, run_equal_nil hu]), .data _ _ (.p _ rfl)⟩
  all_goals
    have hx := q1.p_inv.1
    have hy := q2.p_inv.1
    refine ⟨_, key _ _ _ hx hy (by simp [eqGuard]) ?_, .data _ _ (.p _ rfl)⟩
    clear hr q1 q2 key hx hy
  case add_s hm =>
    simp only [binOp, Op.stringOp]
    rw [if_neg (by unfold maxLen at hm; simp [IntKind.max, IntKind.signed, IntKind.bits]; omega)]
    rfl
  case eqnil_mpp h => simp [binOp, run_equal_mnil h]
  case nenil_mpp h => simp [binOp, run_equal_mnil h]
  case eqnil_p h => simp [binOp, run_equal_nil h]
  case nenil_p h => simp [binOp, run_equal_nil h]
  case eql_b _ _ h => simp [binOp, run_equal_bool h]
  case neq_b _ _ h => simp [binOp, run_equal_bool h]
  case eql_i a b => simp only [binOp, ne_eq, not_true_eq_false, if_false, Op.intCmp, int_beq]; rfl
  case neq_i a b => simp only [binOp, ne_eq, not_true_eq_false, if_false, Op.intCmp, bne, int_beq, decide_not]; rfl
  case shl_i h e => subst e; simp [binOp, Op.shift, Int.not_lt.2 h]
  case shr_i h e => subst e; simp [binOp, Op.shift, Int.not_lt.2 h]
  all_goals
    subst_vars
    first
    | rfl
    | (simp [binOp, Op.intArith, Op.intDiv, Op.intBits, Op.intCmp, Op.shift, Op.stringOp, *]; done)
    | skip
theorem pu_un {o : Oper} {op : UnOp} {t : TypeId} {x : Operand} {a : AV} {args : List AV} (ho : o.op = .unOp op t x) (hp : PuR P (.un op) args a) (hr : Rps w S σ args [ev x]) : Val1 P w S σ ev o a := by
  cases hp
  all_goals
    obtain ⟨v, e, h⟩ := hr.one_inv
    injection e with e; subst e
    have hx := h.p_inv.1
    refine ⟨_, ?_, .data _ _ (.p _ rfl)⟩
    subst_vars
    simp [execOp, ho, hx, Op.unary, Op.intArith]
theorem pu_conv {o : Oper} {s d : TypeId} {x : Operand} {k k0 : IntKind} {a : AV} {args : List AV} (ho : o.op = .convert s d x) (h1 : P.underlying s = some (.int k0)) (h2 : P.underlying d = some (.int k)) (hp : PuR P (.conv k) args a) (hr : Rps w S σ args [ev x]) : Val1 P w S σ ev o a := by
  cases hp
  obtain ⟨v, e, h⟩ := hr.one_inv
  injection e with e; subst e
  have hx := h.p_inv.1
  refine ⟨_, ?_, .data _ _ (.p _ rfl)⟩
  subst_vars
  simp [execOp, ho, hx, convert, run_underlying h1, run_underlying h2, Conv.intToInt]
theorem pu_same {o : Oper} {s d : TypeId} {x : Operand} {a : AV} {args : List AV} (ho : o.op = .convert s d x) (h1 : P.underlying s = some .string) (h2 : P.underlying d = some .string) (hp : PuR P .same args a) (hr : Rps w S σ args [ev x]) : Val1 P w S σ ev o a := by
  cases hp
  obtain ⟨v, e, h⟩ := hr.one_inv
  injection e with e; subst e
  have hx := h.p_inv.1
  refine ⟨_, ?_, .data _ _ (.p _ rfl)⟩
  subst_vars
  simp [execOp, ho, hx, convert, run_underlying h1, run_underlying h2]
theorem pu_len {o : Oper} {c : Call} {e : TypeId} {x : Operand} {ty : TypeId} {a : AV} {args : List AV} (ho : o.op = .call c) (hc : c.callee = .builtin .len) (h0 : c.argTypes[0]? = some ty) (h1 : P.underlying ty = some (.slice e)) (h2 : c.args.toList = [x])
    (hp : PuR P .len args a) (hr : Rps w S σ args [ev x]) : Val1 P w S σ ev o a := by
  have hx : c.args = #[x] := Array.toList_inj.1 h2
  have run : ∀ A n cc, ev x = .slice A n cc → (execOp ev o).run P w = .ok (.value (.int .i64 n)) w := by
    intro A n cc h
    simp [execOp, ho, resolve, hc, hx, invoke, builtin, Builtin.len_, h0, run_underlying h1, h, goInt]
  cases hp
  all_goals
    obtain ⟨v, e, h⟩ := hr.one_inv
    injection e with e; subst e
  · obtain ⟨A, cc, z, hv, _⟩ := h.dsl_inv.dsl_inv
    exact ⟨_, run _ _ _ hv, .data _ _ (.p _ rfl)⟩
  · obtain ⟨A, B, N, c, cc, hv, _⟩ := h.osl_inv
    exact ⟨_, run _ _ _ hv, .data _ _ (.p _ rfl)⟩
  · exact ⟨_, run _ _ _ h.p_inv.1, .data _ _ (.p _ rfl)⟩
theorem pu_cap {o : Oper} {c : Call} {e : TypeId} {x : Operand} {ty : TypeId} {a : AV} {args : List AV} (ho : o.op = .call c) (hc : c.callee = .builtin .cap) (h0 : c.argTypes[0]? = some ty) (h1 : P.underlying ty = some (.slice e)) (h2 : c.args.toList = [x])
    (hp : PuR P .cap args a) (hr : Rps w S σ args [ev x]) : Val1 P w S σ ev o a := by
  have hx : c.args = #[x] := Array.toList_inj.1 h2
  cases hp
  obtain ⟨v, e, h⟩ := hr.one_inv
  injection e with e; subst e
  refine ⟨_, ?_, .data _ _ (.p _ rfl)⟩
  simp [execOp, ho, resolve, hc, hx, invoke, builtin, Builtin.cap_, h0, run_underlying h1, h.p_inv.1, goInt]
theorem pu_sld {o : Oper} {c : Call} {e : TypeId} {x : Operand} {ty : TypeId} {j : TypeInfo} {a : AV} {args : List AV} (ho : o.op = .call c) (hc : c.callee = .builtin .unsafeSliceData) (h0 : c.argTypes[0]? = some ty) (h1 : P.underlying ty = some (.slice e)) (h2 : c.args.toList = [x])
    (hp : PuR P (.sld j.size) args a) (hr : Rps w S σ args [ev x]) (hsz : ∀ id A n c, σ id = some (.slice A n c) → n ≤ c ∧ (0 < c → ∃ g o, A = some ⟨g, o, none⟩)) : Val1 P w S σ ev o a := by
  have hx : c.args = #[x] := Array.toList_inj.1 h2
  cases hp with
  | sld_osl _ id off n h0 =>
    obtain ⟨v, e, h⟩ := hr.one_inv
    injection e with e; subst e
    obtain ⟨A, B, N, c', cc, hx', hs, hle, hoc, hB⟩ := h.osl_inv
    obtain ⟨hN, hNc⟩ := hsz id A N c' hs
    obtain ⟨g, o1, rfl⟩ := hNc (by omega)
    obtain rfl := hB (by omega)
    rw [Option.map_some, addr_add] at hx'
    have hcc : cc ≠ 0 := by omega
    refine ⟨.pointer (some ⟨g, o1 + off * j.size + 0, none⟩), ?_, .eptr _ _ _ _ g o1 N c' hs⟩
    simp [execOp, ho, resolve, hc, hx, invoke, builtin, hx', Lib.run_unsafeSliceData_row _ _ _ _ _ _ hcc]
  | sld_nil _ c' =>
    obtain ⟨v, e, h⟩ := hr.one_inv
    injection e with e; subst e
    refine ⟨_, ?_, .data _ _ (.p _ rfl)⟩
    simp [execOp, ho, resolve, hc, hx, invoke, builtin, h.p_inv.1, Lib.run_unsafeSliceData_nil]
theorem pu_mn {o : Oper} {c : Call} {x y : Operand} {a : AV} {args : List AV} (ho : o.op = .call c) (hc : c.callee = .builtin .min) (h2 : c.args.toList = [x, y])
    (hp : PuR P .mn args a) (hr : Rps w S σ args [ev x, ev y]) : Val1 P w S σ ev o a := by
  have hx : c.args = #[x, y] := Array.toList_inj.1 h2
  cases hp
  obtain ⟨v, u, e, h, k⟩ := hr.two_inv
  simp only [List.cons.injEq, and_true] at e
  obtain ⟨rfl, rfl⟩ := e
  refine ⟨_, ?_, .data _ _ (.p _ rfl)⟩
  simp [execOp, ho, resolve, hc, hx, invoke, builtin, Builtin.min_, Builtin.min2, h.p_inv.1, k.p_inv.1]
theorem pu_mx {o : Oper} {c : Call} {x y : Operand} {a : AV} {args : List AV} (ho : o.op = .call c) (hc : c.callee = .builtin .max) (h2 : c.args.toList = [x, y])
    (hp : PuR P .mx args a) (hr : Rps w S σ args [ev x, ev y]) : Val1 P w S σ ev o a := by
  have hx : c.args = #[x, y] := Array.toList_inj.1 h2
  cases hp
  obtain ⟨v, u, e, h, k⟩ := hr.two_inv
  simp only [List.cons.injEq, and_true] at e
  obtain ⟨rfl, rfl⟩ := e
  refine ⟨_, ?_, .data _ _ (.p _ rfl)⟩
  simp [execOp, ho, resolve, hc, hx, invoke, builtin, Builtin.max_, Builtin.max2, h.p_inv.1, k.p_inv.1]
theorem pu_slen {o : Oper} {c : Call} {x : Operand} {ty : TypeId} {a : AV} {args : List AV} (ho : o.op = .call c) (hc : c.callee = .builtin .len) (h0 : c.argTypes[0]? = some ty) (h1 : P.underlying ty = some .string) (h2 : c.args.toList = [x])
    (hp : PuR P .slen args a) (hr : Rps w S σ args [ev x]) : Val1 P w S σ ev o a := by
  have hx : c.args = #[x] := Array.toList_inj.1 h2
  cases hp
  obtain ⟨v, e, h⟩ := hr.one_inv
  injection e with e; subst e
  refine ⟨_, ?_, .data _ _ (.p _ rfl)⟩
  simp [execOp, ho, resolve, hc, hx, invoke, builtin, Builtin.len_, h0, run_underlying h1, h.p_inv.1, goInt]
theorem RpD.dsl_cut {sz : Nat} {xs : List (List AV)} {A : Option Addr} {n c : Nat} (h : RpD w S (.dsl sz xs) (.slice A n c)) (lo hi : Nat) (h1 : lo ≤ hi) (h2 : hi ≤ xs.length) :
    RpD w S (.dsl sz ((xs.drop lo).take (hi - lo))) (.slice (if c = lo then A else A.map (·.add (lo * sz))) (hi - lo) (c - lo)) := by
  obtain ⟨A', c', z, e, r1, r2, r3, r4, r5, r6⟩ := h.dsl_inv
  injection e with e1 e2 e3
  subst e1; subst e2; subst e3
  have hl : ((xs.drop lo).take (hi - lo)).length = hi - lo := by rw [List.length_take, List.length_drop]; omega
  have hel : ∀ (i : Nat) (e : List AV), ((xs.drop lo).take (hi - lo))[i]? = some e → i < hi - lo ∧ xs[lo + i]? = some e := by
    intro i e he
    rw [List.getElem?_take] at he
    split at he
    · rw [List.getElem?_drop] at he; exact ⟨‹_›, he⟩
    · cases he
  have := RpD.dsl (w := w) (S := S) sz ((xs.drop lo).take (hi - lo)) (if c = lo then A else A.map (·.add (lo * sz))) (c - lo) (fun i j => z (lo + i) j) (by rw [hl]; omega) (by omega) (fun e he => r3 e (List.mem_of_mem_drop (List.mem_of_mem_take he)))
    (fun i e j a he ha => by
      obtain ⟨hi', he'⟩ := hel i e he
      obtain ⟨g, o, rfl, hg, hc⟩ := r4 (lo + i) e j a he' ha
      rw [if_neg (by omega)]
      refine ⟨g, o + lo * sz, by simp [addr_add], hg, ?_⟩
      rw [show o + lo * sz + i * sz + j = o + (lo + i) * sz + j by rw [Nat.add_mul]; omega]
      exact hc)
    (fun i e j a he ha => r5 (lo + i) e j a (hel i e he).2 ha) (fun i j => r6 _ _)
  rwa [hl] at this
theorem run_slc {t e : TypeId} {j : TypeInfo} (h1 : P.underlying t = some (.slice e)) (h2 : P.info? e = some j) {A : Option Addr} {n c : Nat} (lo hi : Option Value) (l h : Nat) (hl : match lo with | none => l = 0 | some v => ∃ k, v = .int k l) (hh : match hi with | none => h = n | some v => ∃ k, v = .int k h) (hlh : l ≤ h) (hhc : h ≤ c) :
    (Instr.sliceAt t (.slice A n c) lo hi none).run P w = .ok (.slice (if c = l then A else A.map (·.add (l * j.size))) (h - l) (c - l)) w := by
  cases lo <;> cases hi <;> simp only at hl hh
  · subst hl; subst hh; simp [Instr.sliceAt, Instr.slice, Instr.sliceBounds, run_underlying h1, sizeOf, typeInfo, h2]
  · subst hl; obtain ⟨k, rfl⟩ := hh
    have : (h : Int) ≤ (c : Int) := by omega
    simp [Instr.sliceAt, Instr.slice, Instr.sliceBounds, Instr.sliceBound, asIntOf, run_underlying h1, sizeOf, typeInfo, h2, this, hlh, hhc]
  · obtain ⟨k, rfl⟩ := hl
    have : (l : Int) ≤ (h : Int) := by omega
    subst hh
    simp [Instr.sliceAt, Instr.slice, Instr.sliceBounds, Instr.sliceBound, asIntOf, run_underlying h1, sizeOf, typeInfo, h2, this, hlh, hhc]
  · obtain ⟨k, rfl⟩ := hl; obtain ⟨k', rfl⟩ := hh
    have a1 : (l : Int) ≤ (h : Int) := by omega
    have a2 : (h : Int) ≤ (c : Int) := by omega
    simp [Instr.sliceAt, Instr.slice, Instr.sliceBounds, Instr.sliceBound, asIntOf, run_underlying h1, sizeOf, typeInfo, h2, a1, a2, hlh, hhc]
theorem pu_slc {o : Oper} {t e : TypeId} {x : Operand} {lo hi : Option Operand} {j : TypeInfo} {a : AV} {args : List AV} (ho : o.op = .slice t x lo hi none) (h1 : P.underlying t = some (.slice e)) (h2 : P.info? e = some j) (hp : PuR P (.slc j.size lo.isSome hi.isSome) args a) (hr : Rps w S σ args ((x :: optL lo ++ optL hi).map ev)) : Val1 P w S σ ev o a := by
  have run : ∀ (xs : List (List AV)) (l h : Nat) (v : Value), ev x = v → RpD w S (.dsl j.size xs) v → (match lo.map ev with | none => l = 0 | some v => ∃ k, v = .int k l) → (match hi.map ev with | none => h = xs.length | some v => ∃ k, v = .int k h) → l ≤ h → h ≤ xs.length → Val1 P w S σ ev o (.dsl j.size ((xs.drop l).take (h - l))) := by
    intro xs l h v hx hD hl hh hlh hhx
    obtain ⟨A, c, z, rfl, r1, _⟩ := hD.dsl_inv
    refine ⟨_, ?_, .data _ _ (hD.dsl_cut l h hlh hhx)⟩
    have := run_slc (P := P) (w := w) h1 h2 (A := A) (n := xs.length) (c := c) (lo.map ev) (hi.map ev) l h hl hh hlh (by omega)
    simp [execOp, ho, hx, this]
  have own : ∀ (id off n l h : Nat) (v : Value), ev x = v → Rp w S σ (.osl id j.size off n) v → (match lo.map ev with | none => l = 0 | some v => ∃ k, v = .int k l) → (match hi.map ev with | none => h = n | some v => ∃ k, v = .int k h) → l ≤ h → h ≤ n → Val1 P w S σ ev o (.osl id j.size (off + l) (h - l)) := by
    intro id off n l h v hx hD hl hh hlh hhx
    obtain ⟨A, B, N, c, cc, rfl, hs, hle, hoc, hB⟩ := hD.osl_inv
    have := run_slc (P := P) (w := w) h1 h2 (A := B) (n := n) (c := cc) (lo.map ev) (hi.map ev) l h hl hh hlh (by omega)
    refine ⟨.slice (if cc = l then B else B.map (·.add (l * j.size))) (h - l) (cc - l), by simp [execOp, ho, hx, this], .osl _ _ _ _ A _ N c _ hs (by omega) (by omega) (fun hcc => ?_)⟩
    rw [if_neg (by omega), hB (by omega), Option.map_map]
    congr 1
    funext a
    show (a.add (off * j.size)).add (l * j.size) = _
    rw [add_of_add, Nat.add_mul]
  cases hlo : lo <;> cases hhi : hi <;> rw [hlo, hhi] at hp hr run own <;> simp only [Option.isSome] at hp <;> cases hp <;> simp only [optL, List.cons_append, List.nil_append, List.append_nil, List.map_cons, List.map_nil] at hr
  case slc_00 xs =>
    obtain ⟨v, e, h⟩ := hr.one_inv
    injection e with e; subst e
    have := run xs 0 xs.length _ rfl h.dsl_inv rfl rfl (by omega) (by omega)
    simpa using this
  case slo_00 id off n =>
    obtain ⟨v, e, h⟩ := hr.one_inv
    injection e with e; subst e
    exact own id off n 0 n _ rfl h rfl rfl (by omega) (by omega)
  case slc_nil k =>
    obtain ⟨v, u, e, q1, q2⟩ := hr.two_inv
    simp only [List.cons.injEq, and_true] at e
    obtain ⟨rfl, rfl⟩ := e
    have := run_slc (P := P) (w := w) h1 h2 (A := none) (n := 0) (c := 0) none (some (.int k 0)) 0 0 rfl ⟨k, rfl⟩ (by omega) (by omega)
    refine ⟨.slice none 0 0, ?_, .data _ _ (.p _ rfl)⟩
    simp [execOp, ho, hlo, hhi, q1.p_inv.1, q2.p_inv.1, this]
  case slc_01 xs k hi' g0 g1 =>
    obtain ⟨v, u, e, q1, q2⟩ := hr.two_inv
    simp only [List.cons.injEq, and_true] at e
    obtain ⟨rfl, rfl⟩ := e
    have := run xs 0 hi'.toNat _ rfl q1.dsl_inv rfl ⟨k, by rw [q2.p_inv.1, Int.toNat_of_nonneg g0]⟩ (by omega) (by omega)
    simpa using this
  case slo_01 id off n k hi' g0 g1 =>
    obtain ⟨v, u, e, q1, q2⟩ := hr.two_inv
    simp only [List.cons.injEq, and_true] at e
    obtain ⟨rfl, rfl⟩ := e
    exact own id off n 0 hi'.toNat _ rfl q1 rfl ⟨k, by rw [q2.p_inv.1, Int.toNat_of_nonneg g0]⟩ (by omega) (by omega)
  case slc_10 xs k lo' g0 g1 =>
    obtain ⟨v, u, e, q1, q2⟩ := hr.two_inv
    simp only [List.cons.injEq, and_true] at e
    obtain ⟨rfl, rfl⟩ := e
    have := run xs lo'.toNat xs.length _ rfl q1.dsl_inv ⟨k, by rw [q2.p_inv.1, Int.toNat_of_nonneg g0]⟩ rfl (by omega) (by omega)
    rwa [List.take_of_length_le (by rw [List.length_drop]; omega)] at this
  case slo_10 id off n k lo' g0 g1 =>
    obtain ⟨v, u, e, q1, q2⟩ := hr.two_inv
    simp only [List.cons.injEq, and_true] at e
    obtain ⟨rfl, rfl⟩ := e
    exact own id off n lo'.toNat n _ rfl q1 ⟨k, by rw [q2.p_inv.1, Int.toNat_of_nonneg g0]⟩ rfl (by omega) (by omega)
  case slc_11 xs k k' lo' hi' g0 g1 g2 =>
    obtain ⟨v, u, y, e, q1, q2, q3⟩ := hr.three_inv
    simp only [List.cons.injEq, and_true] at e
    obtain ⟨rfl, rfl, rfl⟩ := e
    exact run xs lo'.toNat hi'.toNat _ rfl q1.dsl_inv ⟨k, by rw [q2.p_inv.1, Int.toNat_of_nonneg g0]⟩ ⟨k', by rw [q3.p_inv.1, Int.toNat_of_nonneg (by omega)]⟩ (by omega) (by omega)
  case slo_11 id off n k k' lo' hi' g0 g1 g2 =>
    obtain ⟨v, u, y, e, q1, q2, q3⟩ := hr.three_inv
    simp only [List.cons.injEq, and_true] at e
    obtain ⟨rfl, rfl, rfl⟩ := e
    exact own id off n lo'.toNat hi'.toNat _ rfl q1 ⟨k, by rw [q2.p_inv.1, Int.toNat_of_nonneg g0]⟩ ⟨k', by rw [q3.p_inv.1, Int.toNat_of_nonneg (by omega)]⟩ (by omega) (by omega)
theorem run_ssl {t : TypeId} (h1 : P.underlying t = some .string) {s : ByteArray} (lo hi : Option Value) (l h : Nat) (hl : match lo with | none => l = 0 | some v => ∃ k, v = .int k l) (hh : match hi with | none => h = s.size | some v => ∃ k, v = .int k h) (hlh : l ≤ h) (hhc : h ≤ s.size) :
    (Instr.sliceAt t (.string s) lo hi none).run P w = .ok (.string (s.extract l h)) w := by
  cases lo <;> cases hi <;> simp only at hl hh
  · subst hl; subst hh; simp [Instr.sliceAt, Instr.slice, Instr.sliceBounds, run_underlying h1]
  · subst hl; obtain ⟨k, rfl⟩ := hh
    have : (h : Int) ≤ (s.size : Int) := by omega
    simp [Instr.sliceAt, Instr.slice, Instr.sliceBounds, Instr.sliceBound, asIntOf, run_underlying h1, this, hlh, hhc]
  · subst hh; obtain ⟨k, rfl⟩ := hl
    have : (l : Int) ≤ (s.size : Int) := by omega
    simp [Instr.sliceAt, Instr.slice, Instr.sliceBounds, Instr.sliceBound, asIntOf, run_underlying h1, this, hlh, hhc]
  · obtain ⟨k, rfl⟩ := hl; obtain ⟨k', rfl⟩ := hh
    have a1 : (l : Int) ≤ (h : Int) := by omega
    have a2 : (h : Int) ≤ (s.size : Int) := by omega
    simp [Instr.sliceAt, Instr.slice, Instr.sliceBounds, Instr.sliceBound, asIntOf, run_underlying h1, a1, a2, hlh, hhc]
theorem pu_ssl {o : Oper} {t : TypeId} {x : Operand} {lo hi : Option Operand} {a : AV} {args : List AV} (ho : o.op = .slice t x lo hi none) (h1 : P.underlying t = some .string) (hp : PuR P (.ssl lo.isSome hi.isSome) args a) (hr : Rps w S σ args ((x :: optL lo ++ optL hi).map ev)) : Val1 P w S σ ev o a := by
  have run : ∀ (s : ByteArray) (l h : Nat), ev x = .string s → (match lo.map ev with | none => l = 0 | some v => ∃ k, v = .int k l) → (match hi.map ev with | none => h = s.size | some v => ∃ k, v = .int k h) → l ≤ h → h ≤ s.size → Val1 P w S σ ev o (.p (.string (s.extract l h))) := by
    intro s l h hx hl hh hlh hhx
    refine ⟨_, ?_, .data _ _ (.p _ rfl)⟩
    have := run_ssl (P := P) (w := w) h1 (s := s) (lo.map ev) (hi.map ev) l h hl hh hlh hhx
    simp [execOp, ho, hx, this]
  cases hlo : lo <;> cases hhi : hi <;> rw [hlo, hhi] at hp hr run <;> simp only [Option.isSome] at hp <;> cases hp <;> simp only [optL, List.cons_append, List.nil_append, List.append_nil, List.map_cons, List.map_nil] at hr
  · obtain ⟨v, e, h⟩ := hr.one_inv
    injection e with e; subst e
    exact run _ 0 _ h.p_inv.1 rfl rfl (by omega) (by omega)
  · rename_i s k hi' g0 g1
    obtain ⟨v, u, e, q1, q2⟩ := hr.two_inv
    simp only [List.cons.injEq, and_true] at e
    obtain ⟨rfl, rfl⟩ := e
    exact run s 0 hi'.toNat q1.p_inv.1 rfl ⟨k, by rw [q2.p_inv.1, Int.toNat_of_nonneg g0]⟩ (by omega) (by omega)
  · rename_i s k lo' g0 g1
    obtain ⟨v, u, e, q1, q2⟩ := hr.two_inv
    simp only [List.cons.injEq, and_true] at e
    obtain ⟨rfl, rfl⟩ := e
    exact run s lo'.toNat s.size q1.p_inv.1 ⟨k, by rw [q2.p_inv.1, Int.toNat_of_nonneg g0]⟩ rfl (by omega) (by omega)
  · rename_i s k k' lo' hi' g0 g1 g2
    obtain ⟨v, u, y, e, q1, q2, q3⟩ := hr.three_inv
    simp only [List.cons.injEq, and_true] at e
    obtain ⟨rfl, rfl, rfl⟩ := e
    exact run s lo'.toNat hi'.toNat q1.p_inv.1 ⟨k, by rw [q2.p_inv.1, Int.toNat_of_nonneg g0]⟩ ⟨k', by rw [q3.p_inv.1, Int.toNat_of_nonneg (by omega)]⟩ (by omega) (by omega)
theorem pu_sidx {o : Oper} {t : TypeId} {x i : Operand} {a : AV} {args : List AV} (ho : o.op = .index t x i) (h1 : P.underlying t = some .string) (hp : PuR P .sidx args a) (hr : Rps w S σ args [ev x, ev i]) : Val1 P w S σ ev o a := by
  cases hp with
  | sidx s k i b h0 hb =>
    obtain ⟨v, u, e, q1, q2⟩ := hr.two_inv
    simp only [List.cons.injEq, and_true] at e
    obtain ⟨rfl, rfl⟩ := e
    have hx := q1.p_inv.1
    have hy := q2.p_inv.1
    refine ⟨_, ?_, .data _ _ (.p _ rfl)⟩
    simp [execOp, ho, hx, hy, Instr.index, asIntOf, run_underlying h1, h0, hb]
theorem pu_mkfn {o : Oper} {f : Fn} {xs ys : Array Operand} {a : AV} {args : List AV} (ho : o.op = .makeFunc f xs ys) (hp : PuR P (.mkfn f xs.size) args a) (hr : Rps w S σ args ((xs.toList ++ ys.toList).map ev)) : Val1 P w S σ ev o a := by
  cases hp with
  | mkfn _ _ _ hle =>
    refine ⟨.func f (xs.map ev) (ys.map ev), by simp [execOp, ho, Instr.makeFunc], ?_⟩
    have hl : args.length = xs.size + ys.size := by rw [hr.1]; simp
    have h1 : Rps w S σ (args.take xs.size) (xs.map ev).toList := by
      have := hr.take xs.size
      rw [List.map_append, List.take_left' (by simp), ← Array.toList_map] at this
      exact this
    have h2 : Rps w S σ (args.drop xs.size) (ys.map ev).toList := by
      have := hr.drop xs.size
      rw [List.map_append, List.drop_left' (by simp), ← Array.toList_map] at this
      exact this
    exact .fn f _ _ _ _ (by simpa using h1.1) (by simpa using h2.1) (fun i a v ha hv => h1.2 i a v ha (by simpa using hv)) (fun i a v ha hv => h2.2 i a v ha (by simpa using hv))
end
end Go.Proofs.Ytgkkilbeingleaa

/- Struct and slice literals on abstract values; all operations that touch no memory, together. Nothing of the program is named here. -/
namespace Go.Proofs.Ytgkkilbeingleaa
open Go.RowKit

section
variable {P : Program} {w : World} {S : Nat → Prop} {σ : Nat → Option Value} {ev : Operand → Value}
theorem setFold (off : Nat) : ∀ (l : List Value) (k : Nat) (cs : Array Value), off + k + l.length ≤ cs.size →
    ((l.zipIdx k).foldl (fun (cs : Array Value) (x : Value × Nat) => cs.setIfInBounds (off + x.2) x.1) cs).toList = cs.toList.take (off + k) ++ l ++ cs.toList.drop (off + k + l.length)
  | [], k, cs, _ => by simp
  | v :: l, k, cs, h => by
    simp only [List.zipIdx_cons, List.foldl_cons, List.length_cons] at h ⊢
    rw [setFold off l (k + 1) _ (by rw [Array.size_setIfInBounds]; omega), Array.toList_setIfInBounds]
    have hlt : off + k < cs.toList.length := by rw [Array.length_toList]; omega
    rw [show off + (k + 1) = off + k + 1 by omega, List.take_set, List.drop_set_of_lt (by omega), List.take_succ_eq_append_getElem hlt, List.set_append_right _ _ (by rw [List.length_take]; omega), List.length_take,
      Nat.min_eq_left (by omega), Nat.sub_self]
    simp only [List.set_cons_zero, List.append_assoc, List.cons_append, List.nil_append]
    rw [show off + k + 1 + l.length = off + k + (l.length + 1) by omega]
theorem cells_fold (v : Value) (off : Nat) (cs : Array Value) (h : off + v.cells.size ≤ cs.size) :
    (v.cells.zipIdx.foldl (fun cs (c, j) => cs.setIfInBounds (off + j) c) cs).toList = cs.toList.take off ++ v.cells.toList ++ cs.toList.drop (off + v.cells.size) := by
  have := setFold off v.cells.toList 0 cs (by simpa using h)
  rw [Nat.add_zero, Array.length_toList] at this
  rw [← this, ← Array.foldl_toList, Array.toList_zipIdx]
theorem Rp.cells {a : AV} {v : Value} (h : Rp w S σ a v) (h1 : a.part = true) : Rps w S σ a.cells v.cells.toList ∧ ∀ u ∈ v.cells, u.oneCell' = true := by
  unfold AV.part at h1
  by_cases ho : a.one = true
  · have hv := h.one_cell ho
    have hc : v.cells = #[v] := by cases v <;> first | rfl | cases hv
    have ha : a.cells = [a] := by cases a <;> first | rfl | cases ho
    rw [hc, ha]
    exact ⟨.cons h .nil, fun u hu => by simp at hu; subst hu; exact hv⟩
  · cases a <;> first | (exfalso; exact ho rfl) | (exfalso; simp [AV.one] at h1; done) | skip
    obtain ⟨vs, rfl, q1, q2⟩ := h.agg_inv
    exact ⟨q1, q2⟩
theorem fillA_cells {cs : List AV} {off n : Nat} {pl : List (Nat × Nat)} {a : AV} {ps : List AV} {r : List AV} (h1 : a.part = true) (h : fillA cs ((off, n) :: pl) (a :: ps) = some r) :
    a.cells.length = n ∧ off + n ≤ cs.length ∧ fillA (cs.take off ++ a.cells ++ cs.drop (off + n)) pl ps = some r := by
  have one : ∀ b : AV, b.cells = [b] → (if n = 1 ∧ off + 1 ≤ cs.length then fillA (cs.set off b) pl ps else none) = some r → b.cells.length = n ∧ off + n ≤ cs.length ∧ fillA (cs.take off ++ b.cells ++ cs.drop (off + n)) pl ps = some r := by
    intro b hb hq
    by_cases hc : n = 1 ∧ off + 1 ≤ cs.length
    · rw [if_pos hc] at hq
      obtain ⟨hn, hc⟩ := hc
      subst hn
      rw [hb]
      refine ⟨rfl, hc, ?_⟩
      rw [List.set_eq_take_append_cons_drop, if_pos (by omega)] at hq
      simpa using hq
    · rw [if_neg hc] at hq; cases hq
  cases a <;> first | exact one _ rfl h | skip
  rename_i ds
  simp only [fillA] at h
  by_cases hc : ds.length = n ∧ off + n ≤ cs.length
  · rw [if_pos hc] at h; exact ⟨hc.1, hc.2, h⟩
  · rw [if_neg hc] at h; cases h
theorem fill_sound {place : Nat → Option (Nat × Nat)} : ∀ (xs : List (Nat × Value)) (pl : List (Nat × Nat)) (as_ : List AV) (cs r : List AV) (vs : Array Value), (as_.all AV.part) = true → Rps w S σ as_ (xs.map (·.2)) →
    xs.map (fun x => place x.1) = pl.map some → fillA cs pl as_ = some r → Rps w S σ cs vs.toList → (∀ u ∈ vs, u.oneCell' = true) → ∃ us : Array Value, Instr.fill place vs xs = some us ∧ Rps w S σ r us.toList ∧ ∀ u ∈ us, u.oneCell' = true
  | [], pl, as_, cs, r, vs, _, hr, hpl, hf, hc, h1 => by
    have : pl = [] := by cases pl with | nil => rfl | cons a b => simp at hpl
    subst this
    have : as_ = [] := List.eq_nil_of_length_eq_zero (by rw [hr.1]; rfl)
    subst this
    simp only [fillA, Option.some.injEq] at hf
    subst hf
    exact ⟨vs, rfl, hc, h1⟩
  | (i, v) :: xs, pl, as_, cs, r, vs, hall, hr, hpl, hf, hc, h1 => by
    match pl, as_, hpl, hr, hall with
    | (off, n) :: pl, a :: as_, hpl, hr, hall =>
      simp only [List.map_cons, List.cons.injEq] at hpl
      simp only [List.all_cons, Bool.and_eq_true] at hall
      obtain ⟨u, us, e, q1, q2⟩ := hr.uncons
      simp only [List.map_cons, List.cons.injEq] at e
      obtain ⟨rfl, rfl⟩ := e
      obtain ⟨k1, k2, k3⟩ := fillA_cells hall.1 hf
      obtain ⟨c1, c2⟩ := q1.cells hall.1
      have hsz : v.cells.size = n := by rw [← k1, c1.1, Array.length_toList]
      have hle : off + v.cells.size ≤ vs.size := by have h5 := hc.1; have h6 : vs.toList.length = vs.size := Array.length_toList; omega
      have hcf := cells_fold v off vs hle
      obtain ⟨us', g1, g2, g3⟩ := fill_sound xs pl as_ _ r (v.cells.zipIdx.foldl (fun cs (c, j) => cs.setIfInBounds (off + j) c) vs) hall.2 q2 hpl.2 k3
        (by rw [hcf, hsz]; exact ((hc.take off).append c1).append (hc.drop _))
        (fun u hu => by
          rw [← Array.mem_toList_iff, hcf] at hu
          rcases List.mem_append.1 hu with hu | hu
          · rcases List.mem_append.1 hu with hu | hu
            · exact h1 u (Array.mem_toList_iff.1 (List.mem_of_mem_take hu))
            · exact c2 u (Array.mem_toList_iff.1 hu)
          · exact h1 u (Array.mem_toList_iff.1 (List.mem_of_mem_drop hu)))
      refine ⟨us', ?_, g2, g3⟩
      rw [Instr.fill, hpl.1]
      simp only
      rw [if_neg (by simp only [Bool.or_eq_true, decide_eq_true_eq, not_or]; exact ⟨by omega, by omega⟩)]
      exact g1
theorem zeroA_run {t : TypeId} {z : List AV} (h : zeroA P t = some z) : ∃ v, (zeroValue t).run P w = .ok v w ∧ z = v.cells.toList.map .p ∧ Rps w S σ z v.cells.toList ∧ ∀ u ∈ v.cells, u.oneCell' = true := by
  unfold zeroA at h
  cases hi : P.info? t with
  | none => rw [hi] at h; cases h
  | some i =>
    rw [hi] at h
    simp only at h
    cases hz : i.zero with
    | none => rw [hz] at h; cases h
    | some v =>
      rw [hz] at h
      simp only at h
      split at h
      · rename_i hall
        injection h with h
        rw [Array.all_eq_true'] at hall
        refine ⟨v, by simp [zeroValue, typeInfo, hi, hz], h.symm, ?_, hall⟩
        subst h
        refine ⟨by simp, fun k a u ha hu => ?_⟩
        rw [List.getElem?_map, hu] at ha
        simp at ha; subst ha
        exact .data _ _ (.p _ (hall u (Array.mem_toList_iff.1 (List.mem_of_getElem? hu))))
      · cases h
theorem mapM_places {places : List (Nat × Nat)} : ∀ {xs : List (Nat × Operand)} {pl : List (Nat × Nat)}, xs.mapM (fun x => places[x.1]?) = some pl → xs.map (fun x => places[x.1]?) = pl.map some
  | [], pl, h => by simp at h; subst h; rfl
  | x :: xs, pl, h => by
    simp only [List.mapM_cons, Option.bind_eq_bind, Option.pure_def] at h
    cases h1 : places[x.1]? with
    | none => simp [h1] at h
    | some a =>
      cases h2 : xs.mapM (fun x => places[x.1]?) with
      | none => simp [h1, h2] at h
      | some r =>
        simp [h1, h2] at h
        subst h
        simp [h1, mapM_places h2]
theorem pu_bld {o : Oper} {t : TypeId} {parts : Array (Nat × Operand)} {a : AV} {args : List AV} {z : List AV} {pl : List (Nat × Nat)} (ho : o.op = .build t parts) (hc : clsP P o.op = some (.bld z pl, parts.toList.map (·.2)))
    (hp : PuR P (.bld z pl) args a) (hr : Rps w S σ args ((parts.toList.map (·.2)).map ev)) : Val1 P w S σ ev o a := by
  cases hp with
  | bld _ _ _ cs hall hf =>
    have hxs : ((parts.map fun x => (x.1, ev x.2)).toList).map (·.2) = (parts.toList.map (·.2)).map ev := by simp
    have fin : ∀ (place : Nat → Option (Nat × Nat)) (zv : Value), zeroA P t = some z → (P.info? t).bind (·.zero) = some zv → parts.toList.map (fun x => place x.1) = pl.map some →
        (∀ us, Instr.fill place zv.cells (parts.map fun x => (x.1, ev x.2)).toList = some us → P.built t (parts.map fun x => (x.1, ev x.2)).toList = some us) → Val1 P w S σ ev o (.agg cs) := by
      intro place zv hz hzv hpl hb
      obtain ⟨v, hv, _, q1, q2⟩ := zeroA_run (P := P) (w := w) (S := S) (σ := σ) hz
      have hvz : v = zv := by
        cases hi : P.info? t with
        | none => rw [hi] at hzv; cases hzv
        | some i =>
          rw [hi] at hzv
          simp only [Option.bind_some] at hzv
          simp [zeroValue, typeInfo, hi, hzv] at hv
          exact hv.symm
      subst hvz
      obtain ⟨us, g1, g2, g3⟩ := fill_sound (place := place) (parts.map fun x => (x.1, ev x.2)).toList pl args z cs v.cells hall (by rw [hxs]; exact hr) (by rw [← hpl]; simp) hf q1 q2
      exact ⟨.agg us, by simp [execOp, ho, run_build _ _ _ us (hb us g1)], Rps.agg g2 g3⟩
    rw [ho] at hc
    simp only [clsP] at hc
    cases hu : P.underlying t with
    | none => rw [hu] at hc; cases hc
    | some d =>
      rw [hu] at hc
      cases d <;> (try simp only at hc) <;> try (cases hc; done)
      case array n e =>
        cases hz : zeroA P t with
        | none => rw [hz] at hc; cases hc
        | some z' =>
          rw [hz] at hc
          simp only at hc
          cases hi : P.info? e with
          | none => rw [hi] at hc; cases hc
          | some j =>
            rw [hi] at hc
            simp only [Option.some.injEq, Prod.mk.injEq, PO.bld.injEq] at hc
            obtain ⟨⟨rfl, rfl⟩, _⟩ := hc
            cases hit : P.info? t with
            | none => unfold zeroA at hz; rw [hit] at hz; cases hz
            | some it =>
              cases hzz : it.zero with
              | none => unfold zeroA at hz; rw [hit] at hz; simp only [hzz] at hz; cases hz
              | some zv =>
                refine fin (fun i => some (i * j.size, j.size)) zv hz (by rw [hit]; exact hzz) (by simp) (fun us hus => ?_)
                unfold Program.built
                rw [hit, hu]
                simp only [hzz, hi]
                exact hus
      case struct fields =>
        cases hz : zeroA P t with
        | none => rw [hz] at hc; cases hc
        | some z' =>
          rw [hz] at hc
          simp only at hc
          cases hpl : fields.toList.mapM (fun f => (P.info? f.type).map fun i => (f.offset, i.size)) with
          | none => rw [hpl] at hc; cases hc
          | some places =>
            rw [hpl] at hc
            simp only at hc
            cases hp2 : parts.toList.mapM (fun x => places[x.1]?) with
            | none => rw [hp2] at hc; cases hc
            | some pl' =>
              rw [hp2] at hc
              simp only [Option.some.injEq, Prod.mk.injEq, PO.bld.injEq] at hc
              obtain ⟨⟨rfl, rfl⟩, _⟩ := hc
              cases hit : P.info? t with
              | none => unfold zeroA at hz; rw [hit] at hz; cases hz
              | some it =>
                cases hzz : it.zero with
                | none => unfold zeroA at hz; rw [hit] at hz; simp only [hzz] at hz; cases hz
                | some zv =>
                  refine fin (fun i => places[i]?) zv hz (by rw [hit]; exact hzz) (mapM_places hp2) (fun us hus => ?_)
                  unfold Program.built
                  rw [hit, hu]
                  simp only [hzz, hpl]
                  simpa using hus
/-- an operation that touches no memory -/
theorem pu_sound {o : Oper} {po : PO} {xs : List Operand} {args : List AV} {a : AV} (hc : clsP P o.op = some (po, xs)) (hp : PuR P po args a) (hr : Rps w S σ args (xs.map ev))
    (hsz : ∀ id A n c, σ id = some (.slice A n c) → n ≤ c ∧ (0 < c → ∃ g o, A = some ⟨g, o, none⟩)) : Val1 P w S σ ev o a := by
  have hc0 := hc
  cases ho : o.op <;> rw [ho] at hc <;> simp only [clsP] at hc <;> try (cases hc; done)
  case move x => obtain ⟨rfl, rfl⟩ := (by simpa using hc : PO.mv = po ∧ [x] = xs); exact pu_mv (.inl ho) hp hr
  case assign x => obtain ⟨rfl, rfl⟩ := (by simpa using hc : PO.mv = po ∧ [x] = xs); exact pu_mv (.inr ho) hp hr
  case pick x y z => obtain ⟨rfl, rfl⟩ := (by simpa using hc : PO.pick = po ∧ [x, y, z] = xs); exact pu_pick ho hp hr
  case nilCheck x => obtain ⟨rfl, rfl⟩ := (by simpa using hc : PO.nilck = po ∧ [x] = xs); exact pu_nilck ho hp hr
  case binOp op t x y ty => obtain ⟨rfl, rfl⟩ := (by simpa using hc : PO.bin op t = po ∧ [x, y] = xs); exact pu_bin ho hp hr hsz
  case unOp op t x => obtain ⟨rfl, rfl⟩ := (by simpa using hc : PO.un op = po ∧ [x] = xs); exact pu_un ho hp hr
  case extract x i => obtain ⟨rfl, rfl⟩ := (by simpa using hc : PO.ext i = po ∧ [x] = xs); exact pu_ext ho hp hr
  case makeFunc f ys zs => obtain ⟨rfl, rfl⟩ := (by simpa using hc : PO.mkfn f ys.size = po ∧ ys.toList ++ zs.toList = xs); exact pu_mkfn ho hp hr
  case build t parts =>
    have : ∃ z pl, po = .bld z pl ∧ xs = parts.toList.map (·.2) := by
      revert hc
      split
      · split
        · split
          · intro hc; simp at hc; exact ⟨_, _, hc.1.symm, hc.2.symm⟩
          · intro hc; cases hc
        · intro hc; cases hc
      · split
        · intro hc; simp at hc; exact ⟨_, _, hc.1.symm, hc.2.symm⟩
        · intro hc; cases hc
      · intro hc; cases hc
    obtain ⟨z, pl, rfl, rfl⟩ := this
    exact pu_bld ho hc0 hp hr
  case convert s d x =>
    cases h1 : P.underlying s with
    | none => rw [h1] at hc; cases hc
    | some u =>
      cases h2 : P.underlying d with
      | none => rw [h1, h2] at hc; cases u <;> cases hc
      | some v =>
        rw [h1, h2] at hc
        cases u <;> cases v <;> simp only at hc <;> try (cases hc; done)
        · simp only [Option.some.injEq, Prod.mk.injEq] at hc; obtain ⟨rfl, rfl⟩ := hc; exact pu_conv ho h1 h2 hp hr
        · simp only [Option.some.injEq, Prod.mk.injEq] at hc; obtain ⟨rfl, rfl⟩ := hc; exact pu_same ho h1 h2 hp hr
  case fieldAddr t x f =>
    revert hc
    split
    · rename_i fields h1
      split
      · rename_i fd h2
        split
        · rename_i i h3
          split
          · intro hc; cases hc
          · rename_i h4
            intro hc
            simp only [Option.some.injEq, Prod.mk.injEq] at hc
            obtain ⟨rfl, rfl⟩ := hc
            exact pu_addOff ho h1 h2 h3 h4 hp hr
        · intro hc; cases hc
      · intro hc; cases hc
    · intro hc; cases hc
  case indexAddr t x i =>
    revert hc
    split
    · rename_i e h1
      cases h3 : P.info? e with
      | none => intro hc; cases hc
      | some j =>
        intro hc
        simp only [Option.map_some, Option.some.injEq, Prod.mk.injEq] at hc
        obtain ⟨rfl, rfl⟩ := hc
        exact pu_idx ho h1 h3 hp hr hsz
    · rename_i n e h1
      cases h3 : P.info? e with
      | none => intro hc; cases hc
      | some j =>
        intro hc
        simp only [Option.map_some, Option.some.injEq, Prod.mk.injEq] at hc
        obtain ⟨rfl, rfl⟩ := hc
        exact pu_aidx ho h1 h3 hp hr
    · intro hc; cases hc
  case field t x f =>
    revert hc
    split
    · rename_i fields h1
      split
      · rename_i fd h2
        split
        · rename_i b j h3 h4
          intro hc
          simp only [Option.some.injEq, Prod.mk.injEq] at hc
          obtain ⟨rfl, rfl⟩ := hc
          exact pu_fld ho h1 h2 h3 h4 hp hr
        · intro hc; cases hc
      · intro hc; cases hc
    · intro hc; cases hc
  case slice t x lo hi mx =>
    cases mx with
    | some m => cases hc
    | none =>
      simp only at hc
      revert hc
      split
      · rename_i e h1
        cases h3 : P.info? e with
        | none => intro hc; cases hc
        | some j =>
          intro hc
          simp only [Option.map_some, Option.some.injEq, Prod.mk.injEq] at hc
          obtain ⟨rfl, rfl⟩ := hc
          exact pu_slc ho h1 h3 hp hr
      · rename_i h1
        intro hc
        simp only [Option.some.injEq, Prod.mk.injEq] at hc
        obtain ⟨rfl, rfl⟩ := hc
        exact pu_ssl ho h1 hp hr
      · intro hc; cases hc
  case index t x i =>
    revert hc
    split
    · rename_i h1
      intro hc
      simp only [Option.some.injEq, Prod.mk.injEq] at hc
      obtain ⟨rfl, rfl⟩ := hc
      exact pu_sidx ho h1 hp hr
    · rename_i n e h1
      split
      · rename_i b j h3 h4
        intro hc
        simp only [Option.some.injEq, Prod.mk.injEq] at hc
        obtain ⟨rfl, rfl⟩ := hc
        exact pu_vidx ho h1 h3 h4 hp hr
      · intro hc; cases hc
    · intro hc; cases hc
  case call c =>
    revert hc
    split
    · rename_i hb
      cases ht : c.argTypes[0]? with
      | none => intro hc; simp at hc
      | some ty =>
        simp only [Option.bind_some]
        split
        · rename_i h1
          split
          · rename_i x h2
            intro hc
            simp only [Option.some.injEq, Prod.mk.injEq] at hc
            obtain ⟨rfl, rfl⟩ := hc
            exact pu_slen ho hb ht h1 h2 hp hr
          · intro hc; cases hc
        · rename_i e h1
          split
          · rename_i x h2
            intro hc
            simp only [Option.some.injEq, Prod.mk.injEq] at hc
            obtain ⟨rfl, rfl⟩ := hc
            exact pu_len ho hb ht h1 h2 hp hr
          · intro hc; cases hc
        · intro hc; cases hc
    · rename_i hb
      cases ht : c.argTypes[0]? with
      | none => intro hc; simp at hc
      | some ty =>
        simp only [Option.bind_some]
        split
        · rename_i e h1
          split
          · rename_i x h2
            intro hc
            simp only [Option.some.injEq, Prod.mk.injEq] at hc
            obtain ⟨rfl, rfl⟩ := hc
            exact pu_cap ho hb ht h1 h2 hp hr
          · intro hc; cases hc
        · intro hc; cases hc
    · rename_i hb
      cases ht : c.argTypes[0]? with
      | none => intro hc; simp at hc
      | some ty =>
        simp only [Option.bind_some]
        split
        · rename_i e h1
          split
          · rename_i x h2
            intro hc
            cases hi : P.info? e with
            | none => rw [hi] at hc; cases hc
            | some j =>
              rw [hi] at hc
              simp only [Option.map_some, Option.some.injEq, Prod.mk.injEq] at hc
              obtain ⟨rfl, rfl⟩ := hc
              exact pu_sld ho hb ht h1 h2 hp hr hsz
          · intro hc; cases hc
        · intro hc; cases hc
    · rename_i hb
      split
      · rename_i x y h2
        intro hc
        simp only [Option.some.injEq, Prod.mk.injEq] at hc
        obtain ⟨rfl, rfl⟩ := hc
        exact pu_mn ho hb h2 hp hr
      · intro hc; cases hc
    · rename_i hb
      split
      · rename_i x y h2
        intro hc
        simp only [Option.some.injEq, Prod.mk.injEq] at hc
        obtain ⟨rfl, rfl⟩ := hc
        exact pu_mx ho hb h2 hp hr
      · intro hc; cases hc
    · intro hc; cases hc
end
end Go.Proofs.Ytgkkilbeingleaa

/- Operations that read memory or lay new things, on abstract memory. Nothing of the program is named here. -/
namespace Go.Proofs.Ytgkkilbeingleaa
open Go.RowKit Go.Maps

/-- the cells from a place on -/
inductive AtA (H : AH) : AV → List AV → Prop
  | box (id off : Nat) (t : TypeId) (cs : List AV) : H.get id = some (.box t cs) → AtA H (.ptr id off) (cs.drop off)
  | row (id sz i j : Nat) (t : TypeId) (es : List (List AV)) (e : List AV) : H.get id = some (.row t sz es) → es[i]? = some e → AtA H (.eptr id sz i j) (e.drop j)
  | frz (id sz i j : Nat) (es : List (List AV)) (e : List AV) : H.get id = some (.frz sz es) → es[i]? = some e → AtA H (.eptr id sz i j) (e.drop j)
  | crow (id sz i j c : Nat) (t : TypeId) (es : List (List AV)) (e : List AV) : H.get id = some (.crow t sz c es) → es[i]? = some e → AtA H (.eptr id sz i j) (e.drop j)
  | dat (sz i j : Nat) (xs : List (List AV)) (e : List AV) : xs[i]? = some e → AtA H (.dptr sz xs i j) (e.drop j)
/-- the elements of a slice -/
inductive ElA (H : AH) (sz : Nat) : AV → List (List AV) → Prop
  | dsl (xs : List (List AV)) : ElA H sz (.dsl sz xs) xs
  | row (id off n : Nat) (t : TypeId) (es : List (List AV)) : H.get id = some (.row t sz es) → off + n ≤ es.length → ElA H sz (.osl id sz off n) ((es.drop off).take n)
  | frz (id off n : Nat) (es : List (List AV)) : H.get id = some (.frz sz es) → off + n ≤ es.length → ElA H sz (.osl id sz off n) ((es.drop off).take n)
  | crow (id off n c : Nat) (t : TypeId) (es : List (List AV)) : H.get id = some (.crow t sz c es) → off + n ≤ es.length → ElA H sz (.osl id sz off n) ((es.drop off).take n)
  | nil_ (A : Option Addr) (c : Nat) : ElA H sz (.p (.slice A 0 c)) []
/-- bytes of a text as elements -/
def strE (q : ByteArray) : List (List AV) := q.data.toList.map fun b => [.p (.int .u8 b.toNat)]
inductive RO where
  | bstr
  | ld (n : Nat) (agg : Bool)
  | look (kt : TypeId) (z : AV) (ok : Bool)
inductive RdR (P : Program) (H : AH) : RO → List AV → AV → Prop
  | ld_agg (n : Nat) (a : AV) (ds : List AV) : AtA H a ds → n ≤ ds.length → RdR P H (.ld n true) [a] (.agg (ds.take n))
  | ld_one (n : Nat) (a b : AV) (ds : List AV) : AtA H a ds → ds[0]? = some b → RdR P H (.ld n false) [a] b
  | look_no (kt : TypeId) (z : AV) (ok : Bool) (id n : Nat) (f : Value → Option AV) (key : AV) (u : Value) : H.get id = some (.map kt n f) → Keyed P kt → key.val = some u → (keyOf P kt u).isSome = true → f u = none →
      RdR P H (.look kt z ok) [.mp id, key] (if ok then .tup [z, .p (.bool false)] else z)
  | look_yes (kt : TypeId) (z b : AV) (ok : Bool) (id n : Nat) (f : Value → Option AV) (key : AV) (u : Value) : H.get id = some (.map kt n f) → Keyed P kt → key.val = some u → (keyOf P kt u).isSome = true → f u = some b →
      RdR P H (.look kt z ok) [.mp id, key] (if ok then .tup [b, .p (.bool true)] else b)
  | bstr (x : AV) (q : ByteArray) : ElA H 1 x (strE q) → RdR P H .bstr [x] (.p (.string q))
def zeroV (P : Program) (t : TypeId) : Option AV :=
  match P.info? t with
  | some i => match i.zero with
    | some (.agg cs) => if cs.all (·.oneCell') then some (.agg (cs.toList.map .p)) else none
    | some v => if v.oneCell' then some (.p v) else none
    | none => none
  | none => none
def clsR (P : Program) (o : Op) : Option (RO × List Operand) :=
  match o with
  | .load t x => match aggB P t, P.info? t with
    | some b, some i => some (.ld i.size b, [x])
    | _, _ => none
  | .lookup t x k ok => match P.underlying t with
    | some (.map kt e) => match zeroV P e with
      | some z => some (.look kt z ok, [x, k])
      | none => none
    | _ => none
  | .convert s d x => match P.underlying s, P.underlying d with
    | some (.slice e), some .string => match P.underlying e with
      | some (.int .u8) => some (.bstr, [x])
      | _ => none
    | _, _ => none
  | _ => none

section
variable {P : Program} {w : World} {S : Nat → Prop} {σ : Nat → Option Value} {ev : Operand → Value} {H : AH}
theorem zeroV_run {t : TypeId} {z : AV} (h : zeroV P t = some z) : ∃ v, (zeroValue t).run P w = .ok v w ∧ Rp w S σ z v := by
  unfold zeroV at h
  cases hi : P.info? t with
  | none => rw [hi] at h; cases h
  | some i =>
    rw [hi] at h
    simp only at h
    cases hz : i.zero with
    | none => rw [hz] at h; cases h
    | some v =>
      rw [hz] at h
      refine ⟨v, by simp [zeroValue, typeInfo, hi, hz], ?_⟩
      cases v <;> simp only at h
      case agg cs =>
        split at h
        · rename_i hall
          rw [Array.all_eq_true'] at hall
          injection h with h
          subst h
          refine .agg _ _ (by simp) (fun k a u ha hu => ?_) hall
          rw [List.getElem?_map, Array.getElem?_toList, hu] at ha
          simp at ha; subst ha
          exact .data _ _ (.p _ (hall u (Array.mem_of_getElem? hu)))
        · cases h
      all_goals
        first
        | (rw [if_pos rfl] at h; injection h with h; subst h; exact .data _ _ (.p _ rfl))
        | (simp [Value.oneCell'] at h; subst h; exact .data _ _ (.p _ rfl))
        | (simp [Value.oneCell'] at h)
/-- cells that lie from a place on -/
def Lies (w : World) (S : Nat → Prop) (σ : Nat → Option Value) (g off : Nat) (ds : List AV) : Prop := ∀ (k : Nat) (b : AV), ds[k]? = some b → ∃ u, w.cell? ⟨g, off + k, none⟩ = some u ∧ Rp w S σ b u ∧ u.oneCell' = true
theorem at_sound (hs : Sat P w S σ H) {a : AV} {ds : List AV} {v : Value} (h : AtA H a ds) (hr : Rp w S σ a v) : ∃ g off, v = .pointer (some ⟨g, off, none⟩) ∧ Lies w S σ g off ds := by
  cases h with
  | box id off t cs hg =>
    obtain ⟨g, rfl, hσ⟩ := hr.ptr_inv
    obtain ⟨g', arr, h1, h2, h3, h4⟩ := hs.obj id _ hg
    rw [hσ] at h1
    simp only [Option.some.injEq, Value.pointer.injEq, Addr.mk.injEq, and_true] at h1
    subst h1
    refine ⟨g, off, rfl, fun k b hb => ?_⟩
    rw [List.getElem?_drop] at hb
    obtain ⟨u, hu, hbu⟩ := h3.at_ hb
    rw [Array.getElem?_toList] at hu
    exact ⟨u, by rw [h2.cell]; exact hu, hbu, h4 u (Array.mem_of_getElem? hu)⟩
  | row id sz i j t es e hg he =>
    obtain ⟨g, o, n, c, rfl, hσ⟩ := hr.eptr_inv
    obtain ⟨A, c', h1, h2, h3, h4, h5⟩ := hs.obj id _ hg
    rw [hσ] at h1
    simp only [Option.some.injEq, Value.slice.injEq] at h1
    obtain ⟨rfl, rfl, rfl⟩ := h1
    rcases h5 with ⟨h5, _⟩ | ⟨g', o', arr, h5, k1, k2, k3, k4⟩
    · cases h5
    · simp only [Option.some.injEq, Addr.mk.injEq, and_true] at h5
      obtain ⟨rfl, rfl⟩ := h5
      refine ⟨g, _, rfl, fun k b hb => ?_⟩
      rw [List.getElem?_drop] at hb
      obtain ⟨u, hu, hbu⟩ := k4 i e (j + k) b he hb
      exact ⟨u, by rw [k1.cell, show o + i * sz + j + k = o + i * sz + (j + k) by omega]; exact hu, hbu, k3 u (Array.mem_of_getElem? hu)⟩
  | crow id sz i j cr t es e hg he =>
    obtain ⟨g, o, n, c, rfl, hσ⟩ := hr.eptr_inv
    obtain ⟨A, c', h1, h2, h3, h4, h5⟩ := hs.obj id _ hg
    rw [hσ] at h1
    simp only [Option.some.injEq, Value.slice.injEq] at h1
    obtain ⟨rfl, rfl, rfl⟩ := h1
    rcases h5 with ⟨h5, _⟩ | ⟨g', o', arr, h5, k1, k2, k3, k4⟩
    · cases h5
    · simp only [Option.some.injEq, Addr.mk.injEq, and_true] at h5
      obtain ⟨rfl, rfl⟩ := h5
      refine ⟨g, _, rfl, fun k b hb => ?_⟩
      rw [List.getElem?_drop] at hb
      obtain ⟨u, hu, hbu⟩ := k4 i e (j + k) b he hb
      exact ⟨u, by rw [k1.cell, show o + i * sz + j + k = o + i * sz + (j + k) by omega]; exact hu, hbu, k3 u (Array.mem_of_getElem? hu)⟩
  | frz id sz i j es e hg he =>
    obtain ⟨g, o, n, c, rfl, hσ⟩ := hr.eptr_inv
    obtain ⟨A, c', h1, h2⟩ := hs.obj id _ hg
    rw [hσ] at h1
    simp only [Option.some.injEq, Value.slice.injEq] at h1
    obtain ⟨rfl, rfl, rfl⟩ := h1
    obtain ⟨A, c', z, e1, r1, r2, r3, r4, r5, r6⟩ := h2.dsl_inv
    simp only [Value.slice.injEq] at e1
    obtain ⟨rfl, _, rfl⟩ := e1
    refine ⟨g, _, rfl, fun k b hb => ?_⟩
    rw [List.getElem?_drop] at hb
    obtain ⟨g', o', e2, _, hc⟩ := r4 i e (j + k) b he hb
    simp only [Option.some.injEq, Addr.mk.injEq, and_true] at e2
    obtain ⟨rfl, rfl⟩ := e2
    exact ⟨_, by rw [show o + i * sz + j + k = o + i * sz + (j + k) by omega]; exact hc, .data _ _ (r5 i e (j + k) b he hb), r6 _ _⟩
  | dat sz i j xs e he =>
    obtain ⟨g, o, c, rfl, h2, hi⟩ := hr.dptr_inv
    obtain ⟨A, c', z, e1, r1, r2, r3, r4, r5, r6⟩ := h2.dsl_inv
    simp only [Value.slice.injEq] at e1
    obtain ⟨rfl, _, rfl⟩ := e1
    refine ⟨g, _, rfl, fun k b hb => ?_⟩
    rw [List.getElem?_drop] at hb
    obtain ⟨g', o', e2, _, hc⟩ := r4 i e (j + k) b he hb
    simp only [Option.some.injEq, Addr.mk.injEq, and_true] at e2
    obtain ⟨rfl, rfl⟩ := e2
    exact ⟨_, by rw [show o + i * sz + j + k = o + i * sz + (j + k) by omega]; exact hc, .data _ _ (r5 i e (j + k) b he hb), r6 _ _⟩
/-- cells that lie so are read so -/
theorem lies_list {g off n : Nat} {ds : List AV} (h : Lies w S σ g off ds) (hn : n ≤ ds.length) : ∃ us : List Value, us.length = n ∧ Rps w S σ (ds.take n) us ∧ (∀ u ∈ us, u.oneCell' = true) ∧ ∀ (j : Nat) (u : Value), us[j]? = some u → w.cell? ⟨g, off + j, none⟩ = some u := by
  induction n with
  | zero => exact ⟨[], rfl, by rw [List.take_zero]; exact .nil, by simp, by simp⟩
  | succ n ih =>
    obtain ⟨us, h1, h2, h3, h4⟩ := ih (by omega)
    obtain ⟨u, hu, hr, ho⟩ := h n _ (List.getElem?_eq_getElem (by omega))
    refine ⟨us ++ [u], by simp [h1], ?_, fun x hx => ?_, fun j x hx => ?_⟩
    · rw [List.take_succ_eq_append_getElem (by omega)]
      exact h2.append (.cons hr .nil)
    · rcases List.mem_append.1 hx with hx | hx
      · exact h3 x hx
      · simp at hx; subst hx; exact ho
    · by_cases hj : j < us.length
      · rw [List.getElem?_append_left hj] at hx; exact h4 j x hx
      · rw [List.getElem?_append_right (by omega)] at hx
        have : j - us.length = 0 := by have := (List.getElem?_eq_some_iff.1 hx).1; simp at this; omega
        rw [this] at hx
        simp at hx; subst hx
        rw [show j = n by omega]; exact hu
theorem rd_load {o : Oper} {t : TypeId} {x : Operand} {b : Bool} {i : TypeInfo} {a : AV} {args : List AV} (hs : Sat P w S σ H) (ho : o.op = .load t x) (h1 : aggB P t = some b) (h2 : P.info? t = some i) (hp : RdR P H (.ld i.size b) args a) (hr : Rps w S σ args [ev x]) : Val1 P w S σ ev o a := by
  have hag := run_isAggB (w := w) h1
  cases hp with
  | ld_agg n a ds hat hle =>
    obtain ⟨v, e, h⟩ := hr.one_inv
    injection e with e; subst e
    obtain ⟨g, off, hx, hl⟩ := at_sound hs hat h
    obtain ⟨us, k1, k2, k3, k4⟩ := lies_list hl hle
    refine ⟨.agg us.toArray, ?_, Rps.agg (by simpa using k2) (fun u hu => k3 u (by simpa using hu))⟩
    have := run_loadCells_list (P := P) w ⟨g, off, none⟩ us (fun j u hu => by rw [addr_add]; exact k4 j u hu)
    rw [k1] at this
    simp [execOp, ho, Instr.loadAt, hx, Instr.sureAddr, loadVar, hag, sizeOf, typeInfo, h2, this]
  | ld_one n a b ds hat hb =>
    obtain ⟨v, e, h⟩ := hr.one_inv
    injection e with e; subst e
    obtain ⟨g, off, hx, hl⟩ := at_sound hs hat h
    obtain ⟨u, hu, hru, _⟩ := hl 0 _ hb
    refine ⟨u, ?_, hru⟩
    simp [execOp, ho, Instr.loadAt, hx, Instr.sureAddr, loadVar, hag, show w.cell? ⟨g, off, none⟩ = some u from hu]
theorem flat_elem {sz : Nat} : ∀ {es : List (List AV)} (_ : ∀ e ∈ es, e.length = sz) (i : Nat) (e : List AV) (j : Nat) (a : AV), es[i]? = some e → e[j]? = some a → es.flatten[i * sz + j]? = some a
  | [], _, i, e, j, a, he, _ => by simp at he
  | x :: es, hl, i, e, j, a, he, ha => by
    have hx : x.length = sz := hl x (by simp)
    rw [List.flatten_cons]
    cases i with
    | zero =>
      simp at he; subst he
      rw [Nat.zero_mul, Nat.zero_add, List.getElem?_append_left (List.getElem?_eq_some_iff.1 ha).1]; exact ha
    | succ i =>
      rw [List.getElem?_append_right (by rw [hx, Nat.add_mul]; omega), hx, show (i + 1) * sz + j - sz = i * sz + j by rw [Nat.add_mul]; omega]
      exact flat_elem (fun e he => hl e (by simp [he])) i e j a (by simpa using he) ha
theorem flat_length {sz : Nat} : ∀ {es : List (List AV)} (_ : ∀ e ∈ es, e.length = sz), es.flatten.length = es.length * sz
  | [], _ => by simp
  | x :: es, hl => by
    rw [List.flatten_cons, List.length_append, flat_length fun e he => hl e (by simp [he]), hl x (by simp), List.length_cons, Nat.add_mul]; omega
/-- what a slice's elements read as -/
def Elts (w : World) (S : Nat → Prop) (σ : Nat → Option Value) (sz : Nat) (A : Option Addr) (ys : List (List AV)) : Prop :=
  (∀ e ∈ ys, e.length = sz) ∧ ∃ us : List Value, us.length = ys.length * sz ∧ Rps w S σ ys.flatten us ∧ (∀ u ∈ us, u.oneCell' = true) ∧ ∀ (j : Nat) (u : Value), us[j]? = some u → ∃ g o, A = some ⟨g, o, none⟩ ∧ w.cell? ⟨g, o + j, none⟩ = some u
theorem elts_of {sz : Nat} {A : Option Addr} : ∀ {ys : List (List AV)} (_ : ∀ e ∈ ys, e.length = sz) (n : Nat) (_ : n = ys.length)
    (_ : ∀ (i : Nat) (e : List AV) (j : Nat) (a : AV), ys[i]? = some e → e[j]? = some a → ∃ g o u, A = some ⟨g, o, none⟩ ∧ w.cell? ⟨g, o + i * sz + j, none⟩ = some u ∧ Rp w S σ a u ∧ u.oneCell' = true), Elts w S σ sz A ys := by
  intro ys hl n hn h
  have flat : ∀ m, m ≤ ys.flatten.length → ∃ us : List Value, us.length = m ∧ Rps w S σ (ys.flatten.take m) us ∧ (∀ u ∈ us, u.oneCell' = true) ∧ ∀ (j : Nat) (u : Value), us[j]? = some u → ∃ g o, A = some ⟨g, o, none⟩ ∧ w.cell? ⟨g, o + j, none⟩ = some u := by
    intro m
    induction m with
    | zero => intro _; exact ⟨[], rfl, by rw [List.take_zero]; exact .nil, by simp, by simp⟩
    | succ m ih =>
      intro hm
      obtain ⟨us, h1, h2, h3, h4⟩ := ih (by omega)
      have hfl := flat_length hl
      have hsz : 0 < sz := by
        rcases Nat.eq_zero_or_pos sz with h0 | h0
        · rw [h0, Nat.mul_zero] at hfl; omega
        · exact h0
      have hq : m / sz < ys.length := by rw [Nat.div_lt_iff_lt_mul hsz]; omega
      have hr : m % sz < (ys[m / sz]).length := by rw [hl _ (List.getElem_mem hq)]; exact Nat.mod_lt _ hsz
      have hm' : m / sz * sz + m % sz = m := by rw [Nat.mul_comm]; exact Nat.div_add_mod m sz
      have hfe := flat_elem hl (m / sz) _ (m % sz) _ (List.getElem?_eq_getElem hq) (List.getElem?_eq_getElem hr)
      rw [hm'] at hfe
      obtain ⟨g, o, u, rfl, hc, hru, ho⟩ := h (m / sz) _ (m % sz) _ (List.getElem?_eq_getElem hq) (List.getElem?_eq_getElem hr)
      rw [show o + m / sz * sz + m % sz = o + m by omega] at hc
      refine ⟨us ++ [u], by simp [h1], ?_, fun x hx => ?_, fun j x hx => ?_⟩
      · have hlt : m < ys.flatten.length := by omega
        rw [List.take_succ_eq_append_getElem hlt]
        rw [List.getElem?_eq_getElem hlt] at hfe
        injection hfe with hfe
        rw [hfe]
        exact h2.append (.cons hru .nil)
      · rcases List.mem_append.1 hx with hx | hx
        · exact h3 x hx
        · simp at hx; subst hx; exact ho
      · by_cases hj : j < us.length
        · rw [List.getElem?_append_left hj] at hx; exact h4 j x hx
        · rw [List.getElem?_append_right (by omega)] at hx
          have : j - us.length = 0 := by have := (List.getElem?_eq_some_iff.1 hx).1; simp at this; omega
          rw [this] at hx
          simp at hx; subst hx
          exact ⟨g, o, rfl, by rw [show j = m by omega]; exact hc⟩
  obtain ⟨us, h1, h2, h3, h4⟩ := flat ys.flatten.length (Nat.le_refl _)
  rw [List.take_length] at h2
  exact ⟨hl, us, by rw [h1, flat_length hl], h2, h3, h4⟩
theorem sub_at {es : List (List AV)} {off n i : Nat} {e : List AV} (h : ((es.drop off).take n)[i]? = some e) : i < n ∧ es[off + i]? = some e := by
  rw [List.getElem?_take] at h
  split at h
  · rw [List.getElem?_drop] at h; exact ⟨‹_›, h⟩
  · cases h
theorem sub_mem {es : List (List AV)} {off n : Nat} {e : List AV} (h : e ∈ (es.drop off).take n) : e ∈ es := List.mem_of_mem_drop (List.mem_of_mem_take h)
theorem sub_len {es : List (List AV)} {off n : Nat} (h : off + n ≤ es.length) : ((es.drop off).take n).length = n := by rw [List.length_take, List.length_drop]; omega
theorem el_sound (hs : Sat P w S σ H) {sz : Nat} {x : AV} {ys : List (List AV)} {v : Value} (h : ElA H sz x ys) (hr : Rp w S σ x v) : ∃ A c, v = .slice A ys.length c ∧ Elts w S σ sz A ys ∧ ys.length ≤ c ∨ (ys = [] ∧ v = .slice none 0 c ∧ A = none) := by
  cases h with
  | dsl xs =>
    obtain ⟨A, c, z, rfl, r1, r2, r3, r4, r5, r6⟩ := hr.dsl_inv.dsl_inv
    refine ⟨A, c, .inl ⟨rfl, elts_of r3 _ rfl (fun i e j a he ha => ?_), r1⟩⟩
    obtain ⟨g, o, rfl, _, hc⟩ := r4 i e j a he ha
    exact ⟨g, o, _, rfl, hc, .data _ _ (r5 i e j a he ha), r6 _ _⟩
  | row id off n t es hg hle =>
    obtain ⟨A, B, N, c, cc, rfl, hσ, q1, q2, q3⟩ := hr.osl_inv
    obtain ⟨A', c', m1, m2, m3, m4, m5⟩ := hs.obj id _ hg
    rw [hσ] at m1
    simp only [Option.some.injEq, Value.slice.injEq] at m1
    obtain ⟨rfl, rfl, rfl⟩ := m1
    refine ⟨B, cc, .inl ⟨by rw [sub_len hle], elts_of (fun e he => m2 e (sub_mem he)) _ rfl (fun i e j a he ha => ?_), by rw [sub_len hle]; exact q1⟩⟩
    obtain ⟨hi, he'⟩ := sub_at he
    rcases m5 with ⟨_, m5⟩ | ⟨g, o, arr, rfl, k1, k2, k3, k4⟩
    · omega
    · obtain ⟨u, hu, hru⟩ := k4 (off + i) e j a he' ha
      refine ⟨g, o + off * sz, u, ?_, ?_, hru, k3 u (Array.mem_of_getElem? hu)⟩
      · rw [q3 (by omega), Option.map_some, addr_add]
      · rw [k1.cell, show o + off * sz + i * sz + j = o + (off + i) * sz + j by rw [Nat.add_mul]; omega]; exact hu
  | crow id off n cr t es hg hle =>
    obtain ⟨A, B, N, c, cc, rfl, hσ, q1, q2, q3⟩ := hr.osl_inv
    obtain ⟨A', c', m1, m2, m3, m4, m5⟩ := hs.obj id _ hg
    rw [hσ] at m1
    simp only [Option.some.injEq, Value.slice.injEq] at m1
    obtain ⟨rfl, rfl, rfl⟩ := m1
    refine ⟨B, cc, .inl ⟨by rw [sub_len hle], elts_of (fun e he => m2 e (sub_mem he)) _ rfl (fun i e j a he ha => ?_), by rw [sub_len hle]; exact q1⟩⟩
    obtain ⟨hi, he'⟩ := sub_at he
    rcases m5 with ⟨_, m5⟩ | ⟨g, o, arr, rfl, k1, k2, k3, k4⟩
    · have := (List.getElem?_eq_some_iff.1 he').1; omega
    · obtain ⟨u, hu, hru⟩ := k4 (off + i) e j a he' ha
      refine ⟨g, o + off * sz, u, ?_, ?_, hru, k3 u (Array.mem_of_getElem? hu)⟩
      · rw [q3 (by omega), Option.map_some, addr_add]
      · rw [k1.cell, show o + off * sz + i * sz + j = o + (off + i) * sz + j by rw [Nat.add_mul]; omega]; exact hu
  | frz id off n es hg hle =>
    obtain ⟨A, B, N, c, cc, rfl, hσ, q1, q2, q3⟩ := hr.osl_inv
    obtain ⟨A', c', m1, m2⟩ := hs.obj id _ hg
    rw [hσ] at m1
    simp only [Option.some.injEq, Value.slice.injEq] at m1
    obtain ⟨rfl, rfl, rfl⟩ := m1
    obtain ⟨A', c', z, e1, r1, r2, r3, r4, r5, r6⟩ := m2.dsl_inv
    simp only [Value.slice.injEq] at e1
    obtain ⟨rfl, _, rfl⟩ := e1
    refine ⟨B, cc, .inl ⟨by rw [sub_len hle], elts_of (fun e he => r3 e (sub_mem he)) _ rfl (fun i e j a he ha => ?_), by rw [sub_len hle]; exact q1⟩⟩
    obtain ⟨hi, he'⟩ := sub_at he
    obtain ⟨g, o, rfl, _, hc⟩ := r4 (off + i) e j a he' ha
    refine ⟨g, o + off * sz, _, ?_, ?_, .data _ _ (r5 (off + i) e j a he' ha), r6 _ _⟩
    · rw [q3 (by omega), Option.map_some, addr_add]
    · rw [show o + off * sz + i * sz + j = o + (off + i) * sz + j by rw [Nat.add_mul]; omega]; exact hc
  | nil_ A c => exact ⟨A, c, .inl ⟨hr.p_inv.1, elts_of (by simp) _ rfl (fun i e j a he _ => by simp at he), Nat.zero_le _⟩⟩
theorem strE_len (q : ByteArray) : (strE q).length = q.size := by rw [strE, List.length_map, Array.length_toList]; rfl
theorem strE_flat (l : List UInt8) : (l.map fun b => [AV.p (.int .u8 b.toNat)]).flatten = l.map fun b => .p (.int .u8 b.toNat) := by
  induction l with
  | nil => rfl
  | cons a r ih => simp [ih]
theorem strE_rps (q : ByteArray) : Rps w S σ (strE q).flatten (q.data.toList.map fun b => .int .u8 b.toNat) := by
  unfold strE
  rw [strE_flat]
  refine ⟨by simp, fun i a v ha hv => ?_⟩
  rw [List.getElem?_map] at ha hv
  cases h : q.data.toList[i]? with
  | none => rw [h] at ha; cases ha
  | some b =>
    rw [h] at ha hv
    injection ha with ha; injection hv with hv
    subst ha hv
    exact .data _ _ (.p _ rfl)
theorem rd_bstr {o : Oper} {s d e : TypeId} {x : Operand} {a : AV} {args : List AV} (hs : Sat P w S σ H) (ho : o.op = .convert s d x) (h1 : P.underlying s = some (.slice e)) (h2 : P.underlying d = some .string) (h3 : P.underlying e = some (.int .u8))
    (hp : RdR P H .bstr args a) (hr : Rps w S σ args [ev x]) : Val1 P w S σ ev o a := by
  cases hp with
  | bstr xa q hel =>
    obtain ⟨v, e1, hx⟩ := hr.one_inv
    injection e1 with e1; subst e1
    have hl := strE_len q
    obtain ⟨A, c, hv⟩ := el_sound hs hel hx
    refine ⟨.string q, ?_, .data _ _ (.p _ rfl)⟩
    rcases hv with ⟨hv, ⟨_, us, h4, h5, _, h7⟩, _⟩ | ⟨hn, hv, _⟩
    · have hus : us = q.data.toList.map fun b => .int .u8 b.toNat := by
        refine List.ext_getElem? fun i => ?_
        by_cases hi : i < us.length
        · obtain ⟨g1, g2⟩ := h5
          have hb : ((strE q).flatten)[i]? = some (.p (.int .u8 (q.data.toList[i]'(by rw [h4, hl] at hi; simpa using hi)).toNat)) := by
            unfold strE
            rw [strE_flat, List.getElem?_map, List.getElem?_eq_getElem (by rw [h4, hl] at hi; simpa using hi)]; rfl
          have := (g2 i _ _ hb (List.getElem?_eq_getElem hi)).p_inv.1
          rw [List.getElem?_eq_getElem hi, this, List.getElem?_map, List.getElem?_eq_getElem (by rw [h4, hl] at hi; simpa using hi)]; rfl
        · rw [List.getElem?_eq_none (by omega), List.getElem?_eq_none (by rw [List.length_map, Array.length_toList]; rw [h4, hl] at hi; simpa using hi)]
      have hq : q = ⟨q.data.toList.toArray⟩ := by cases q; simp
      cases A with
      | none =>
        have hl0 : q.data.toList = [] := by
          cases hd : q.data.toList with
          | nil => rfl
          | cons b r => rw [hd] at hus; obtain ⟨g, o', e, _⟩ := h7 0 (.int .u8 b.toNat) (by rw [hus]; rfl); cases e
        have hq0 : q = .empty := by rw [hq, hl0]; rfl
        simp only [execOp, ho, hv]
        rw [Sem.run_bind, run_convert_bytes_string w s d e none _ c h1 h3 h2]
        simp [Conv.bytesToString, hq0, Result.andThen]
      | some b =>
        have hll : (strE q).length = q.data.toList.length := by rw [hl, Array.length_toList]; rfl
        simp only [execOp, ho, hv, hll]
        rw [Sem.run_bind, run_convert_bytes_back w s d e b c q.data.toList h1 h3 h2 (fun jj hj => by
          obtain ⟨g, o', e, hc⟩ := h7 jj (.int .u8 (q.data.toList[jj]).toNat) (by rw [hus, List.getElem?_map, List.getElem?_eq_getElem hj]; rfl)
          injection e with e; subst e
          rw [addr_add]; exact hc)]
        simp [Result.andThen, ← hq]
    · have hl0 : q.data.toList = [] := by
        have : q.data.toList.length = 0 := by rw [hn] at hl; rw [Array.length_toList]; exact hl.symm
        exact List.eq_nil_of_length_eq_zero this
      have hq0 : q = .empty := by
        have hq : q = ⟨q.data.toList.toArray⟩ := by cases q; simp
        rw [hq, hl0]; rfl
      simp only [execOp, ho, hv]
      rw [Sem.run_bind, run_convert_bytes_string w s d e none _ c h1 h3 h2]
      simp [Conv.bytesToString, hq0, Result.andThen]
theorem rd_sound {o : Oper} {ro : RO} {xs : List Operand} {args : List AV} {a : AV} (hs : Sat P w S σ H) (hc : clsR P o.op = some (ro, xs)) (hp : RdR P H ro args a) (hr : Rps w S σ args (xs.map ev)) : Val1 P w S σ ev o a := by
  cases ho : o.op <;> rw [ho] at hc <;> simp only [clsR] at hc <;> try (cases hc; done)
  case load t x =>
    cases h1 : aggB P t with
    | none => rw [h1] at hc; cases hc
    | some b =>
      cases h2 : P.info? t with
      | none => rw [h1, h2] at hc; cases hc
      | some i =>
        rw [h1, h2] at hc
        simp only [Option.some.injEq, Prod.mk.injEq] at hc
        obtain ⟨rfl, rfl⟩ := hc
        exact rd_load hs ho h1 h2 hp hr
  case lookup t x k ok =>
    cases h1 : P.underlying t with
    | none => rw [h1] at hc; cases hc
    | some d =>
      rw [h1] at hc
      cases d <;> (try simp only at hc) <;> try (cases hc; done)
      rename_i kt e
      have key : ∃ z zv, ro = .look kt z ok ∧ xs = [x, k] ∧ (zeroValue e).run P w = .ok zv w ∧ Rp w S σ z zv := by
        cases hz : zeroV P e with
        | none => rw [hz] at hc; cases hc
        | some z =>
          rw [hz] at hc
          simp only [Option.some.injEq, Prod.mk.injEq] at hc
          obtain ⟨v, hv, q1⟩ := zeroV_run (P := P) (w := w) (S := S) (σ := σ) hz
          exact ⟨z, v, hc.1.symm, hc.2.symm, hv, q1⟩
      obtain ⟨z, zv, rfl, rfl, hz, hrz⟩ := key
      have run : ∀ (id n : Nat) (f : Value → Option AV) (ka : AV) (u : Value), args = [.mp id, ka] → H.get id = some (.map kt n f) → Keyed P kt → ka.val = some u → (keyOf P kt u).isSome = true →
          ∃ f' : Value → Option Value, (execOp ev o).run P w = .ok (.value (if ok then .tuple #[(f' u).getD zv, .bool (f' u).isSome] else (f' u).getD zv)) w ∧ ((f u = none ∧ f' u = none) ∨ ∃ a v, f u = some a ∧ f' u = some v ∧ Rp w S σ a v) := by
        intro id n f ka u hargs hg K hu hk
        subst hargs
        obtain ⟨v1, v2, e1, q1, q2⟩ := hr.two_inv
        simp only [List.map_cons, List.map_nil, List.cons.injEq, and_true] at e1
        obtain ⟨rfl, rfl⟩ := e1
        obtain ⟨g, hx, hσ⟩ := q1.mp_inv
        have hku := AV.val_sound hu q2
        obtain ⟨g', f', m1, m2, m3⟩ := hs.obj id _ hg
        rw [hσ] at m1
        simp only [Option.some.injEq, Value.map.injEq] at m1
        subst m1
        refine ⟨f', ?_, m3 u⟩
        have := m2.lookAny ok K h1 hz hk
        simp [execOp, ho, hx, hku, this]
      cases hp with
      | look_no _ _ _ id n f ka u hg K hu hk hf =>
        obtain ⟨f', hrun, hff⟩ := run id n f ka u rfl hg K hu hk
        rcases hff with ⟨_, hff⟩ | ⟨a, v, hff, _⟩
        · rw [hff] at hrun
          cases ok
          · exact ⟨_, hrun, hrz⟩
          · exact ⟨_, hrun, Rps.tup (by simpa using Rps.cons hrz (.cons (.data _ _ (.p _ rfl)) .nil))⟩
        · rw [hf] at hff; cases hff
      | look_yes _ _ b _ id n f ka u hg K hu hk hf =>
        obtain ⟨f', hrun, hff⟩ := run id n f ka u rfl hg K hu hk
        rcases hff with ⟨hff, _⟩ | ⟨a, v, hff, hfv, hra⟩
        · rw [hf] at hff; cases hff
        · rw [hf] at hff
          injection hff with hff
          subst hff
          rw [hfv] at hrun
          cases ok
          · exact ⟨_, hrun, hra⟩
          · exact ⟨_, hrun, Rps.tup (by simpa using Rps.cons hra (.cons (.data _ _ (.p _ rfl)) .nil))⟩
  case convert s d x =>
    revert hc
    split
    · rename_i e h1 h2
      split
      · rename_i h3
        intro hc
        simp only [Option.some.injEq, Prod.mk.injEq] at hc
        obtain ⟨rfl, rfl⟩ := hc
        exact rd_bstr hs ho h1 h2 h3 hp hr
      · intro hc; cases hc
    · intro hc; cases hc
end
end Go.Proofs.Ytgkkilbeingleaa
