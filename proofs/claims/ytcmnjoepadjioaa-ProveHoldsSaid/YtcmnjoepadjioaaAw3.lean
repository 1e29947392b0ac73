/- Operations that touch no memory, on abstract values. Nothing of the program is named here. -/
import Derived.Test.YtcmnjoepadjioaaAw2
namespace Go.Proofs.Ytcmnjoepadjioaa
open Go.RowKit

inductive PO where
  | mv | pick | nilck | addOff (n : Nat) | idx (sz : Nat) | aidx (len sz : Nat) | fld (off n : Nat) (agg : Bool) | ext (i : Nat)
  | bin (op : BinOp) (t : TypeId) | un (op : UnOp) | conv (k : IntKind) | same | len | slen | slc (sz : Nat) (lo hi : Bool) | ssl (lo hi : Bool) | sidx
  | cap | mn | mx | mkfn (f : Fn) (nf : Nat) | bld (z : List AV) (pl : List (Nat × Nat))
def AV.part (a : AV) : Bool := a.one || match a with
  | .agg _ => true
  | _ => false
def AV.cells : AV → List AV
  | .agg cs => cs
  | a => [a]
def vals : List AV → Option (List Value)
  | [] => some []
  | .p v :: r => match vals r with
    | some l => some (v :: l)
    | none => none
  | _ :: _ => none
def AV.val : AV → Option Value
  | .p v => some v
  | .agg cs => match vals cs with
    | some l => some (.agg l.toArray)
    | none => none
  | _ => none
/-- parts laid over cells -/
def fillA : List AV → List (Nat × Nat) → List AV → Option (List AV)
  | cs, [], [] => some cs
  | cs, (off, n) :: pl, a :: ps =>
    match a with
    | .agg ds => if ds.length = n ∧ off + n ≤ cs.length then fillA (cs.take off ++ ds ++ cs.drop (off + n)) pl ps else none
    | a => if n = 1 ∧ off + 1 ≤ cs.length then fillA (cs.set off a) pl ps else none
  | _, _, _ => none
def loV : Bool → Int → Int
  | true, i => i
  | false, _ => 0
inductive PuR (P : Program) : PO → List AV → AV → Prop
  | mv (a : AV) : PuR P .mv [a] a
  | pick (c : Bool) (a b : AV) : PuR P .pick [.p (.bool c), a, b] (if c then a else b)
  | nil_ptr (id off : Nat) : PuR P .nilck [.ptr id off] (.ptr id off)
  | nil_eptr (id sz i j : Nat) : PuR P .nilck [.eptr id sz i j] (.eptr id sz i j)
  | nil_dptr (sz : Nat) (xs : List (List AV)) (i j : Nat) : PuR P .nilck [.dptr sz xs i j] (.dptr sz xs i j)
  | nil_fn (f : Nat) (xs ys : List AV) : PuR P .nilck [.fn (.func f) xs ys] (.fn (.func f) xs ys)
  | add_ptr (n id off : Nat) : PuR P (.addOff n) [.ptr id off] (.ptr id (off + n))
  | add_eptr (n id sz i j : Nat) : PuR P (.addOff n) [.eptr id sz i j] (.eptr id sz i (j + n))
  | add_dptr (n sz : Nat) (xs : List (List AV)) (i j : Nat) : PuR P (.addOff n) [.dptr sz xs i j] (.dptr sz xs i (j + n))
  | idx_dsl (sz : Nat) (xs : List (List AV)) (k : IntKind) (i : Int) : 0 < sz → 0 ≤ i → i < xs.length → PuR P (.idx sz) [.dsl sz xs, .p (.int k i)] (.dptr sz xs i.toNat 0)
  | idx_osl (sz id off n : Nat) (k : IntKind) (i : Int) : 0 ≤ i → i < n → PuR P (.idx sz) [.osl id sz off n, .p (.int k i)] (.eptr id sz (off + i.toNat) 0)
  | aidx_ptr (len sz id off : Nat) (k : IntKind) (i : Int) : 0 ≤ i → i < len → PuR P (.aidx len sz) [.ptr id off, .p (.int k i)] (.ptr id (off + i.toNat * sz))
  | aidx_eptr (len sz id sz' i' j : Nat) (k : IntKind) (i : Int) : 0 ≤ i → i < len → PuR P (.aidx len sz) [.eptr id sz' i' j, .p (.int k i)] (.eptr id sz' i' (j + i.toNat * sz))
  | aidx_dptr (len sz sz' i' j : Nat) (xs : List (List AV)) (k : IntKind) (i : Int) : 0 ≤ i → i < len → PuR P (.aidx len sz) [.dptr sz' xs i' j, .p (.int k i)] (.dptr sz' xs i' (j + i.toNat * sz))
  | fld_agg (off n : Nat) (cs : List AV) : off + n ≤ cs.length → PuR P (.fld off n true) [.agg cs] (.agg ((cs.drop off).take n))
  | fld_one (off n : Nat) (cs : List AV) (a : AV) : cs[off]? = some a → PuR P (.fld off n false) [.agg cs] a
  | ext (i : Nat) (cs : List AV) (a : AV) : cs[i]? = some a → PuR P (.ext i) [.tup cs] a
  | add_i (t : TypeId) (k : IntKind) (x y z : Int) : k.wrap (x + y) = z → PuR P (.bin .add t) [.p (.int k x), .p (.int k y)] (.p (.int k z))
  | sub_i (t : TypeId) (k : IntKind) (x y z : Int) : k.wrap (x - y) = z → PuR P (.bin .sub t) [.p (.int k x), .p (.int k y)] (.p (.int k z))
  | mul_i (t : TypeId) (k : IntKind) (x y z : Int) : k.wrap (x * y) = z → PuR P (.bin .mul t) [.p (.int k x), .p (.int k y)] (.p (.int k z))
  | quo_i (t : TypeId) (k : IntKind) (x y z : Int) : y ≠ 0 → k.wrap (x.tdiv y) = z → PuR P (.bin .quo t) [.p (.int k x), .p (.int k y)] (.p (.int k z))
  | rem_i (t : TypeId) (k : IntKind) (x y z : Int) : y ≠ 0 → x.tmod y = z → PuR P (.bin .rem t) [.p (.int k x), .p (.int k y)] (.p (.int k z))
  | and_i (t : TypeId) (k : IntKind) (x y z : Int) : k.wrap (BitVec.ofInt k.bits x &&& BitVec.ofInt k.bits y).toNat = z → PuR P (.bin .and t) [.p (.int k x), .p (.int k y)] (.p (.int k z))
  | or_i (t : TypeId) (k : IntKind) (x y z : Int) : k.wrap (BitVec.ofInt k.bits x ||| BitVec.ofInt k.bits y).toNat = z → PuR P (.bin .or t) [.p (.int k x), .p (.int k y)] (.p (.int k z))
  | xor_i (t : TypeId) (k : IntKind) (x y z : Int) : k.wrap (BitVec.ofInt k.bits x ^^^ BitVec.ofInt k.bits y).toNat = z → PuR P (.bin .xor t) [.p (.int k x), .p (.int k y)] (.p (.int k z))
  | eql_i (t : TypeId) (k : IntKind) (x y : Int) : PuR P (.bin .eql t) [.p (.int k x), .p (.int k y)] (.p (.bool (decide (x = y))))
  | neq_i (t : TypeId) (k : IntKind) (x y : Int) : PuR P (.bin .neq t) [.p (.int k x), .p (.int k y)] (.p (.bool (decide (x ≠ y))))
  | lss_i (t : TypeId) (k : IntKind) (x y : Int) : PuR P (.bin .lss t) [.p (.int k x), .p (.int k y)] (.p (.bool (decide (x < y))))
  | leq_i (t : TypeId) (k : IntKind) (x y : Int) : PuR P (.bin .leq t) [.p (.int k x), .p (.int k y)] (.p (.bool (decide (x ≤ y))))
  | gtr_i (t : TypeId) (k : IntKind) (x y : Int) : PuR P (.bin .gtr t) [.p (.int k x), .p (.int k y)] (.p (.bool (decide (x > y))))
  | geq_i (t : TypeId) (k : IntKind) (x y : Int) : PuR P (.bin .geq t) [.p (.int k x), .p (.int k y)] (.p (.bool (decide (x ≥ y))))
  | shl_i (t : TypeId) (k k' : IntKind) (x y z : Int) : 0 ≤ y → k.wrap (x * 2 ^ (min y.toNat k.bits)) = z → PuR P (.bin .shl t) [.p (.int k x), .p (.int k' y)] (.p (.int k z))
  | shr_i (t : TypeId) (k k' : IntKind) (x y z : Int) : 0 ≤ y → x.fdiv (2 ^ (min y.toNat k.bits)) = z → PuR P (.bin .shr t) [.p (.int k x), .p (.int k' y)] (.p (.int k z))
  | eql_b (t : TypeId) (x y : Bool) : P.underlying t = some .bool → PuR P (.bin .eql t) [.p (.bool x), .p (.bool y)] (.p (.bool (x == y)))
  | neq_b (t : TypeId) (x y : Bool) : P.underlying t = some .bool → PuR P (.bin .neq t) [.p (.bool x), .p (.bool y)] (.p (.bool (!(x == y))))
  | eql_v (t : TypeId) (a b : AV) (us vs : Array Value) (r : Bool) : a.val = some (.agg us) → b.val = some (.agg vs) → P.eqGuardType P.depth t = false → (∀ w, (Op.equal t (.agg us) (.agg vs)).run P w = .ok r w) → PuR P (.bin .eql t) [a, b] (.p (.bool r))
  | neq_v (t : TypeId) (a b : AV) (us vs : Array Value) (r : Bool) : a.val = some (.agg us) → b.val = some (.agg vs) → P.eqGuardType P.depth t = false → (∀ w, (Op.equal t (.agg us) (.agg vs)).run P w = .ok r w) → PuR P (.bin .neq t) [a, b] (.p (.bool (!r)))
  | eqnil_dsl (t e : TypeId) (sz : Nat) (xs : List (List AV)) : P.underlying t = some (.slice e) → 0 < sz → 0 < xs.length → PuR P (.bin .eql t) [.dsl sz xs, .p (.slice none 0 0)] (.p (.bool false))
  | eqnil_osl (t e : TypeId) (id sz off n : Nat) : P.underlying t = some (.slice e) → 0 < n → PuR P (.bin .eql t) [.osl id sz off n, .p (.slice none 0 0)] (.p (.bool false))
  | eqnil_p (t e : TypeId) (A : Option Addr) (n c : Nat) : P.underlying t = some (.slice e) → PuR P (.bin .eql t) [.p (.slice A n c), .p (.slice none 0 0)] (.p (.bool A.isNone))
  | nenil_dsl (t e : TypeId) (sz : Nat) (xs : List (List AV)) : P.underlying t = some (.slice e) → 0 < sz → 0 < xs.length → PuR P (.bin .neq t) [.dsl sz xs, .p (.slice none 0 0)] (.p (.bool true))
  | nenil_osl (t e : TypeId) (id sz off n : Nat) : P.underlying t = some (.slice e) → 0 < n → PuR P (.bin .neq t) [.osl id sz off n, .p (.slice none 0 0)] (.p (.bool true))
  | nenil_p (t e : TypeId) (A : Option Addr) (n c : Nat) : P.underlying t = some (.slice e) → PuR P (.bin .neq t) [.p (.slice A n c), .p (.slice none 0 0)] (.p (.bool (!A.isNone)))
  | eql_s (t : TypeId) (x y : ByteArray) : PuR P (.bin .eql t) [.p (.string x), .p (.string y)] (.p (.bool (x.toList == y.toList)))
  | neq_s (t : TypeId) (x y : ByteArray) : PuR P (.bin .neq t) [.p (.string x), .p (.string y)] (.p (.bool (!(x.toList == y.toList))))
  | add_s (t : TypeId) (x y : ByteArray) : x.size + y.size ≤ maxLen → PuR P (.bin .add t) [.p (.string x), .p (.string y)] (.p (.string (x ++ y)))
  | lss_s (t : TypeId) (x y : ByteArray) : PuR P (.bin .lss t) [.p (.string x), .p (.string y)] (.p (.bool (Op.bytesLess x.toList y.toList)))
  | neg_i (k : IntKind) (x z : Int) : k.wrap (0 - x) = z → PuR P (.un .neg) [.p (.int k x)] (.p (.int k z))
  | not_b (x : Bool) : PuR P (.un .not) [.p (.bool x)] (.p (.bool (!x)))
  | conv_i (k j : IntKind) (x z : Int) : k.wrap x = z → PuR P (.conv k) [.p (.int j x)] (.p (.int k z))
  | same_s (x : ByteArray) : PuR P .same [.p (.string x)] (.p (.string x))
  | len_dsl (sz : Nat) (xs : List (List AV)) : PuR P .len [.dsl sz xs] (.p (.int .i64 xs.length))
  | len_osl (id sz off n : Nat) : PuR P .len [.osl id sz off n] (.p (.int .i64 n))
  | len_nil (A : Option Addr) (c : Nat) : PuR P .len [.p (.slice A 0 c)] (.p (.int .i64 0))
  | len_s (x : ByteArray) : PuR P .slen [.p (.string x)] (.p (.int .i64 x.size))
  | slc_00 (sz : Nat) (xs : List (List AV)) : PuR P (.slc sz false false) [.dsl sz xs] (.dsl sz xs)
  | slc_10 (sz : Nat) (xs : List (List AV)) (k : IntKind) (lo : Int) : 0 ≤ lo → lo ≤ xs.length → PuR P (.slc sz true false) [.dsl sz xs, .p (.int k lo)] (.dsl sz (xs.drop lo.toNat))
  | slc_01 (sz : Nat) (xs : List (List AV)) (k : IntKind) (hi : Int) : 0 ≤ hi → hi ≤ xs.length → PuR P (.slc sz false true) [.dsl sz xs, .p (.int k hi)] (.dsl sz (xs.take hi.toNat))
  | slc_11 (sz : Nat) (xs : List (List AV)) (k k' : IntKind) (lo hi : Int) : 0 ≤ lo → lo ≤ hi → hi ≤ xs.length → PuR P (.slc sz true true) [.dsl sz xs, .p (.int k lo), .p (.int k' hi)] (.dsl sz ((xs.drop lo.toNat).take (hi.toNat - lo.toNat)))
  | slo_00 (sz id off n : Nat) : PuR P (.slc sz false false) [.osl id sz off n] (.osl id sz off n)
  | slo_10 (sz id off n : Nat) (k : IntKind) (lo : Int) : 0 ≤ lo → lo ≤ n → PuR P (.slc sz true false) [.osl id sz off n, .p (.int k lo)] (.osl id sz (off + lo.toNat) (n - lo.toNat))
  | slo_01 (sz id off n : Nat) (k : IntKind) (hi : Int) : 0 ≤ hi → hi ≤ n → PuR P (.slc sz false true) [.osl id sz off n, .p (.int k hi)] (.osl id sz off hi.toNat)
  | slo_11 (sz id off n : Nat) (k k' : IntKind) (lo hi : Int) : 0 ≤ lo → lo ≤ hi → hi ≤ n → PuR P (.slc sz true true) [.osl id sz off n, .p (.int k lo), .p (.int k' hi)] (.osl id sz (off + lo.toNat) (hi.toNat - lo.toNat))
  | ssl_00 (s : ByteArray) : PuR P (.ssl false false) [.p (.string s)] (.p (.string (s.extract 0 s.size)))
  | ssl_10 (s : ByteArray) (k : IntKind) (lo : Int) : 0 ≤ lo → lo ≤ s.size → PuR P (.ssl true false) [.p (.string s), .p (.int k lo)] (.p (.string (s.extract lo.toNat s.size)))
  | ssl_01 (s : ByteArray) (k : IntKind) (hi : Int) : 0 ≤ hi → hi ≤ s.size → PuR P (.ssl false true) [.p (.string s), .p (.int k hi)] (.p (.string (s.extract 0 hi.toNat)))
  | ssl_11 (s : ByteArray) (k k' : IntKind) (lo hi : Int) : 0 ≤ lo → lo ≤ hi → hi ≤ s.size → PuR P (.ssl true true) [.p (.string s), .p (.int k lo), .p (.int k' hi)] (.p (.string (s.extract lo.toNat hi.toNat)))
  | sidx (s : ByteArray) (k : IntKind) (i : Int) (b : UInt8) : 0 ≤ i → s[i.toNat]? = some b → PuR P .sidx [.p (.string s), .p (.int k i)] (.p (.int .u8 b.toNat))
  | cap_nil (c : Nat) : PuR P .cap [.p (.slice none 0 c)] (.p (.int .i64 c))
  | slc_nil (sz : Nat) (k : IntKind) : PuR P (.slc sz false true) [.p (.slice none 0 0), .p (.int k 0)] (.p (.slice none 0 0))
  | mn_i (k : IntKind) (x y : Int) : PuR P .mn [.p (.int k x), .p (.int k y)] (.p (.int k (if y < x then y else x)))
  | mx_i (k : IntKind) (x y : Int) : PuR P .mx [.p (.int k x), .p (.int k y)] (.p (.int k (if y > x then y else x)))
  | mkfn (f : Fn) (nf : Nat) (xs : List AV) : nf ≤ xs.length → PuR P (.mkfn f nf) xs (.fn f (xs.take nf) (xs.drop nf))
  | bld (z : List AV) (pl : List (Nat × Nat)) (xs : List AV) (cs : List AV) : xs.all AV.part = true → fillA z pl xs = some cs → PuR P (.bld z pl) xs (.agg cs)

/-- which operation it is; the operands in order -/
def optL : Option Operand → List Operand
  | none => []
  | some x => [x]
def aggB (P : Program) (t : TypeId) : Option Bool :=
  match P.underlying t with
  | some (.struct _) => some true
  | some (.array _ _) => some true
  | some _ => some false
  | none => none
def avOf : Value → AV
  | v => .p v
def zeroA (P : Program) (t : TypeId) : Option (List AV) :=
  match P.info? t with
  | some i => match i.zero with
    | some z => if z.cells.all (·.oneCell') then some (z.cells.toList.map .p) else none
    | none => none
  | none => none
def clsP (P : Program) (o : Op) : Option (PO × List Operand) :=
  match o with
  | .move x | .assign x => some (.mv, [x])
  | .pick c a b => some (.pick, [c, a, b])
  | .nilCheck x => some (.nilck, [x])
  | .fieldAddr t x f => match P.underlying t with
    | some (.struct fields) => match fields[f]? with
      | some fd => match P.info? fd.type with
        | some i => if i.size = 0 then none else some (.addOff fd.offset, [x])
        | none => none
      | none => none
    | _ => none
  | .indexAddr t x i => match P.underlying t with
    | some (.slice e) => (P.info? e).map fun j => (.idx j.size, [x, i])
    | some (.array n e) => (P.info? e).map fun j => (.aidx n j.size, [x, i])
    | _ => none
  | .field t x f => match P.underlying t with
    | some (.struct fields) => match fields[f]? with
      | some fd => match aggB P fd.type, P.info? fd.type with
        | some b, some j => some (.fld fd.offset j.size b, [x])
        | _, _ => none
      | none => none
    | _ => none
  | .extract x i => some (.ext i, [x])
  | .binOp op t x y _ => some (.bin op t, [x, y])
  | .unOp op _ x => some (.un op, [x])
  | .convert s d x => match P.underlying s, P.underlying d with
    | some (.int _), some (.int k) => some (.conv k, [x])
    | some .string, some .string => some (.same, [x])
    | _, _ => none
  | .slice t x lo hi none => match P.underlying t with
    | some (.slice e) => (P.info? e).map fun j => (.slc j.size lo.isSome hi.isSome, x :: optL lo ++ optL hi)
    | some .string => some (.ssl lo.isSome hi.isSome, x :: optL lo ++ optL hi)
    | _ => none
  | .index t x i => match P.underlying t with
    | some .string => some (.sidx, [x, i])
    | _ => none
  | .makeFunc f xs ys => some (.mkfn f xs.size, xs.toList ++ ys.toList)
  | .build t parts => match P.underlying t, zeroA P t with
    | some (.struct fields), some z => match fields.toList.mapM (fun f => (P.info? f.type).map fun i => (f.offset, i.size)) with
      | some places => match parts.toList.mapM (fun x => places[x.1]?) with
        | some pl => some (.bld z pl, parts.toList.map (·.2))
        | none => none
      | none => none
    | some (.array _ e), some z => match P.info? e with
      | some j => some (.bld z (parts.toList.map fun x => (x.1 * j.size, j.size)), parts.toList.map (·.2))
      | none => none
    | _, _ => none
  | .call c => match c.callee with
    | .builtin .len => match (c.argTypes[0]?).bind P.underlying with
      | some .string => match c.args.toList with | [x] => some (.slen, [x]) | _ => none
      | some (.slice _) => match c.args.toList with | [x] => some (.len, [x]) | _ => none
      | _ => none
    | .builtin .cap => match (c.argTypes[0]?).bind P.underlying with
      | some (.slice _) => match c.args.toList with | [x] => some (.cap, [x]) | _ => none
      | _ => none
    | .builtin .min => match c.args.toList with | [x, y] => some (.mn, [x, y]) | _ => none
    | .builtin .max => match c.args.toList with | [x, y] => some (.mx, [x, y]) | _ => none
    | _ => none
  | _ => none
end Go.Proofs.Ytcmnjoepadjioaa
