/- Texts that the proof rests on, part 10: what each holds stands at its head. -/
import Derived.Test.YtgkkilbeingleaaMt9

/- The rules of abstract walks as equations, so that a walk is simplified to what is left to be shown. Nothing of the program is named here. -/
namespace Go.Proofs.Ytgkkilbeingleaa
open Go.RowKit Go.Maps

def bit_and (q : IntKind) (x y : Int) : Int := q.wrap (BitVec.ofInt q.bits x &&& BitVec.ofInt q.bits y).toNat
def bit_or (q : IntKind) (x y : Int) : Int := q.wrap (BitVec.ofInt q.bits x ||| BitVec.ofInt q.bits y).toNat
def bit_xor (q : IntKind) (x y : Int) : Int := q.wrap (BitVec.ofInt q.bits x ^^^ BitVec.ofInt q.bits y).toNat
/-- what is there is handed on -/
def onSome {α : Type} : Option α → (α → Prop) → Prop
  | some a, k => k a
  | none, _ => False
theorem onSome_some {α : Type} (a : α) (k : α → Prop) : onSome (some a) k = k a := rfl
theorem onSome_iff {α : Type} {o : Option α} {k : α → Prop} : onSome o k ↔ ∃ a, o = some a ∧ k a := by
  cases o with
  | none => exact ⟨fun h => h.elim, fun ⟨a, h, _⟩ => by cases h⟩
  | some a => exact ⟨fun h => ⟨a, rfl, h⟩, fun ⟨b, h, hk⟩ => by injection h with h; subst h; exact hk⟩
section
variable {P : Program} {H V : AH} {k : AV → AH → Prop}

theorem q_mv (a : AV) : Pu P .mv [a] k H = (k a H) := propext ⟨by rintro ⟨_, h, hk⟩; cases h <;> (try subst_vars) <;> (first | exact hk | (exact ⟨⟨_, by assumption⟩, hk⟩) | (exfalso; simp_all [AV.val]; done)), fun h => ⟨_, .mv .., h⟩⟩
theorem q_pick (c : Bool) (a b : AV) : Pu P .pick [.p (.bool c), a, b] k H = (k (if c then a else b) H) := propext ⟨by rintro ⟨_, h, hk⟩; cases h <;> (try subst_vars) <;> (first | exact hk | (exact ⟨⟨_, by assumption⟩, hk⟩) | (exfalso; simp_all [AV.val]; done)), fun h => ⟨_, .pick .., h⟩⟩
theorem q_nil_ptr (id off : Nat) : Pu P .nilck [.ptr id off] k H = (k (.ptr id off) H) := propext ⟨by rintro ⟨_, h, hk⟩; cases h <;> (try subst_vars) <;> (first | exact hk | (exact ⟨⟨_, by assumption⟩, hk⟩) | (exfalso; simp_all [AV.val]; done)), fun h => ⟨_, .nil_ptr .., h⟩⟩
theorem q_nil_eptr (id sz i j : Nat) : Pu P .nilck [.eptr id sz i j] k H = (k (.eptr id sz i j) H) := propext ⟨by rintro ⟨_, h, hk⟩; cases h <;> (try subst_vars) <;> (first | exact hk | (exact ⟨⟨_, by assumption⟩, hk⟩) | (exfalso; simp_all [AV.val]; done)), fun h => ⟨_, .nil_eptr .., h⟩⟩
theorem q_nil_dptr (sz : Nat) (xs : List (List AV)) (i j : Nat) : Pu P .nilck [.dptr sz xs i j] k H = (k (.dptr sz xs i j) H) := propext ⟨by rintro ⟨_, h, hk⟩; cases h <;> (try subst_vars) <;> (first | exact hk | (exact ⟨⟨_, by assumption⟩, hk⟩) | (exfalso; simp_all [AV.val]; done)), fun h => ⟨_, .nil_dptr .., h⟩⟩
theorem q_nil_fn (f : Nat) (xs ys : List AV) : Pu P .nilck [.fn (.func f) xs ys] k H = (k (.fn (.func f) xs ys) H) := propext ⟨by rintro ⟨_, h, hk⟩; cases h <;> (try subst_vars) <;> (first | exact hk | (exact ⟨⟨_, by assumption⟩, hk⟩) | (exfalso; simp_all [AV.val]; done)), fun h => ⟨_, .nil_fn .., h⟩⟩
theorem q_add_ptr (n id off : Nat) : Pu P (.addOff n) [.ptr id off] k H = (k (.ptr id (off + n)) H) := propext ⟨by rintro ⟨_, h, hk⟩; cases h <;> (try subst_vars) <;> (first | exact hk | (exact ⟨⟨_, by assumption⟩, hk⟩) | (exfalso; simp_all [AV.val]; done)), fun h => ⟨_, .add_ptr .., h⟩⟩
theorem q_add_eptr (n id sz i j : Nat) : Pu P (.addOff n) [.eptr id sz i j] k H = (k (.eptr id sz i (j + n)) H) := propext ⟨by rintro ⟨_, h, hk⟩; cases h <;> (try subst_vars) <;> (first | exact hk | (exact ⟨⟨_, by assumption⟩, hk⟩) | (exfalso; simp_all [AV.val]; done)), fun h => ⟨_, .add_eptr .., h⟩⟩
theorem q_add_dptr (n sz : Nat) (xs : List (List AV)) (i j : Nat) : Pu P (.addOff n) [.dptr sz xs i j] k H = (k (.dptr sz xs i (j + n)) H) := propext ⟨by rintro ⟨_, h, hk⟩; cases h <;> (try subst_vars) <;> (first | exact hk | (exact ⟨⟨_, by assumption⟩, hk⟩) | (exfalso; simp_all [AV.val]; done)), fun h => ⟨_, .add_dptr .., h⟩⟩
theorem q_idx_dsl (sz : Nat) (xs : List (List AV)) (q : IntKind) (i : Int) : Pu P (.idx sz) [.dsl sz xs, .p (.int q i)] k H = ((0 < sz) ∧ (0 ≤ i) ∧ (i < xs.length) ∧ k (.dptr sz xs i.toNat 0) H) := propext ⟨by rintro ⟨_, h, hk⟩; cases h <;> (try subst_vars) <;> (first | exact hk | (exact ⟨by assumption, by assumption, by assumption, hk⟩) | (exact ⟨⟨_, by assumption⟩, by assumption, by assumption, hk⟩) | (exfalso; simp_all [AV.val]; done)), fun ⟨h0, h1, h2, h⟩ => ⟨_, by constructor <;> (first | assumption | rfl), h⟩⟩
theorem q_idx_osl (sz id off n : Nat) (q : IntKind) (i : Int) : Pu P (.idx sz) [.osl id sz off n, .p (.int q i)] k H = ((0 ≤ i) ∧ (i < n) ∧ k (.eptr id sz (off + i.toNat) 0) H) := propext ⟨by rintro ⟨_, h, hk⟩; cases h <;> (try subst_vars) <;> (first | exact hk | (exact ⟨by assumption, by assumption, hk⟩) | (exact ⟨⟨_, by assumption⟩, by assumption, hk⟩) | (exfalso; simp_all [AV.val]; done)), fun ⟨h0, h1, h⟩ => ⟨_, by constructor <;> (first | assumption | rfl), h⟩⟩
theorem q_aidx_ptr (len sz id off : Nat) (q : IntKind) (i : Int) : Pu P (.aidx len sz) [.ptr id off, .p (.int q i)] k H = ((0 ≤ i) ∧ (i < len) ∧ k (.ptr id (off + i.toNat * sz)) H) := propext ⟨by rintro ⟨_, h, hk⟩; cases h <;> (try subst_vars) <;> (first | exact hk | (exact ⟨by assumption, by assumption, hk⟩) | (exact ⟨⟨_, by assumption⟩, by assumption, hk⟩) | (exfalso; simp_all [AV.val]; done)), fun ⟨h0, h1, h⟩ => ⟨_, by constructor <;> (first | assumption | rfl), h⟩⟩
theorem q_aidx_eptr (len sz id sz2 i2 j : Nat) (q : IntKind) (i : Int) : Pu P (.aidx len sz) [.eptr id sz2 i2 j, .p (.int q i)] k H = ((0 ≤ i) ∧ (i < len) ∧ k (.eptr id sz2 i2 (j + i.toNat * sz)) H) := propext ⟨by rintro ⟨_, h, hk⟩; cases h <;> (try subst_vars) <;> (first | exact hk | (exact ⟨by assumption, by assumption, hk⟩) | (exact ⟨⟨_, by assumption⟩, by assumption, hk⟩) | (exfalso; simp_all [AV.val]; done)), fun ⟨h0, h1, h⟩ => ⟨_, by constructor <;> (first | assumption | rfl), h⟩⟩
theorem q_aidx_dptr (len sz sz2 i2 j : Nat) (xs : List (List AV)) (q : IntKind) (i : Int) : Pu P (.aidx len sz) [.dptr sz2 xs i2 j, .p (.int q i)] k H = ((0 ≤ i) ∧ (i < len) ∧ k (.dptr sz2 xs i2 (j + i.toNat * sz)) H) := propext ⟨by rintro ⟨_, h, hk⟩; cases h <;> (try subst_vars) <;> (first | exact hk | (exact ⟨by assumption, by assumption, hk⟩) | (exact ⟨⟨_, by assumption⟩, by assumption, hk⟩) | (exfalso; simp_all [AV.val]; done)), fun ⟨h0, h1, h⟩ => ⟨_, by constructor <;> (first | assumption | rfl), h⟩⟩
theorem q_fld_agg (off n : Nat) (cs : List AV) : Pu P (.fld off n true) [.agg cs] k H = ((off + n ≤ cs.length) ∧ k (.agg ((cs.drop off).take n)) H) := propext ⟨by rintro ⟨_, h, hk⟩; cases h <;> (try subst_vars) <;> (first | exact hk | (exact ⟨by assumption, hk⟩) | (exact ⟨⟨_, by assumption⟩, hk⟩) | (exfalso; simp_all [AV.val]; done)), fun ⟨h0, h⟩ => ⟨_, by constructor <;> (first | assumption | rfl), h⟩⟩
theorem q_add_i (t : TypeId) (q : IntKind) (x y : Int) : Pu P (.bin .add t) [.p (.int q x), .p (.int q y)] k H = (k (.p (.int q (q.wrap (x + y)))) H) := propext ⟨by rintro ⟨_, h, hk⟩; cases h <;> (try subst_vars) <;> (first | exact hk | (exact ⟨⟨_, by assumption⟩, hk⟩) | (exfalso; simp_all [AV.val]; done)), fun h => ⟨_, by constructor <;> rfl, h⟩⟩
theorem q_sub_i (t : TypeId) (q : IntKind) (x y : Int) : Pu P (.bin .sub t) [.p (.int q x), .p (.int q y)] k H = (k (.p (.int q (q.wrap (x - y)))) H) := propext ⟨by rintro ⟨_, h, hk⟩; cases h <;> (try subst_vars) <;> (first | exact hk | (exact ⟨⟨_, by assumption⟩, hk⟩) | (exfalso; simp_all [AV.val]; done)), fun h => ⟨_, by constructor <;> rfl, h⟩⟩
theorem q_mul_i (t : TypeId) (q : IntKind) (x y : Int) : Pu P (.bin .mul t) [.p (.int q x), .p (.int q y)] k H = (k (.p (.int q (q.wrap (x * y)))) H) := propext ⟨by rintro ⟨_, h, hk⟩; cases h <;> (try subst_vars) <;> (first | exact hk | (exact ⟨⟨_, by assumption⟩, hk⟩) | (exfalso; simp_all [AV.val]; done)), fun h => ⟨_, by constructor <;> rfl, h⟩⟩
theorem q_quo_i (t : TypeId) (q : IntKind) (x y : Int) : Pu P (.bin .quo t) [.p (.int q x), .p (.int q y)] k H = ((y ≠ 0) ∧ k (.p (.int q (q.wrap (x.tdiv y)))) H) := propext ⟨by rintro ⟨_, h, hk⟩; cases h <;> (try subst_vars) <;> (first | exact hk | (exact ⟨by assumption, hk⟩) | (exact ⟨⟨_, by assumption⟩, hk⟩) | (exfalso; simp_all [AV.val]; done)), fun ⟨h0, h⟩ => ⟨_, by constructor <;> (first | assumption | rfl), h⟩⟩
theorem q_rem_i (t : TypeId) (q : IntKind) (x y : Int) : Pu P (.bin .rem t) [.p (.int q x), .p (.int q y)] k H = ((y ≠ 0) ∧ k (.p (.int q (x.tmod y))) H) := propext ⟨by rintro ⟨_, h, hk⟩; cases h <;> (try subst_vars) <;> (first | exact hk | (exact ⟨by assumption, hk⟩) | (exact ⟨⟨_, by assumption⟩, hk⟩) | (exfalso; simp_all [AV.val]; done)), fun ⟨h0, h⟩ => ⟨_, by constructor <;> (first | assumption | rfl), h⟩⟩
theorem q_and_i (t : TypeId) (q : IntKind) (x y : Int) : Pu P (.bin .and t) [.p (.int q x), .p (.int q y)] k H = (k (.p (.int q (bit_and q x y))) H) := propext ⟨by rintro ⟨_, h, hk⟩; cases h <;> (try subst_vars) <;> (first | exact hk | (exact ⟨⟨_, by assumption⟩, hk⟩) | (exfalso; simp_all [AV.val]; done)), fun h => ⟨_, by constructor <;> rfl, h⟩⟩
theorem q_or_i (t : TypeId) (q : IntKind) (x y : Int) : Pu P (.bin .or t) [.p (.int q x), .p (.int q y)] k H = (k (.p (.int q (bit_or q x y))) H) := propext ⟨by rintro ⟨_, h, hk⟩; cases h <;> (try subst_vars) <;> (first | exact hk | (exact ⟨⟨_, by assumption⟩, hk⟩) | (exfalso; simp_all [AV.val]; done)), fun h => ⟨_, by constructor <;> rfl, h⟩⟩
theorem q_xor_i (t : TypeId) (q : IntKind) (x y : Int) : Pu P (.bin .xor t) [.p (.int q x), .p (.int q y)] k H = (k (.p (.int q (bit_xor q x y))) H) := propext ⟨by rintro ⟨_, h, hk⟩; cases h <;> (try subst_vars) <;> (first | exact hk | (exact ⟨⟨_, by assumption⟩, hk⟩) | (exfalso; simp_all [AV.val]; done)), fun h => ⟨_, by constructor <;> rfl, h⟩⟩
theorem q_eql_i (t : TypeId) (q : IntKind) (x y : Int) : Pu P (.bin .eql t) [.p (.int q x), .p (.int q y)] k H = (k (.p (.bool (decide (x = y)))) H) := propext ⟨by rintro ⟨_, h, hk⟩; cases h <;> (try subst_vars) <;> (first | exact hk | (exact ⟨⟨_, by assumption⟩, hk⟩) | (exfalso; simp_all [AV.val]; done)), fun h => ⟨_, .eql_i .., h⟩⟩
theorem q_neq_i (t : TypeId) (q : IntKind) (x y : Int) : Pu P (.bin .neq t) [.p (.int q x), .p (.int q y)] k H = (k (.p (.bool (decide (x ≠ y)))) H) := propext ⟨by rintro ⟨_, h, hk⟩; cases h <;> (try subst_vars) <;> (first | exact hk | (exact ⟨⟨_, by assumption⟩, hk⟩) | (exfalso; simp_all [AV.val]; done)), fun h => ⟨_, .neq_i .., h⟩⟩
theorem q_lss_i (t : TypeId) (q : IntKind) (x y : Int) : Pu P (.bin .lss t) [.p (.int q x), .p (.int q y)] k H = (k (.p (.bool (decide (x < y)))) H) := propext ⟨by rintro ⟨_, h, hk⟩; cases h <;> (try subst_vars) <;> (first | exact hk | (exact ⟨⟨_, by assumption⟩, hk⟩) | (exfalso; simp_all [AV.val]; done)), fun h => ⟨_, .lss_i .., h⟩⟩
theorem q_leq_i (t : TypeId) (q : IntKind) (x y : Int) : Pu P (.bin .leq t) [.p (.int q x), .p (.int q y)] k H = (k (.p (.bool (decide (x ≤ y)))) H) := propext ⟨by rintro ⟨_, h, hk⟩; cases h <;> (try subst_vars) <;> (first | exact hk | (exact ⟨⟨_, by assumption⟩, hk⟩) | (exfalso; simp_all [AV.val]; done)), fun h => ⟨_, .leq_i .., h⟩⟩
theorem q_gtr_i (t : TypeId) (q : IntKind) (x y : Int) : Pu P (.bin .gtr t) [.p (.int q x), .p (.int q y)] k H = (k (.p (.bool (decide (x > y)))) H) := propext ⟨by rintro ⟨_, h, hk⟩; cases h <;> (try subst_vars) <;> (first | exact hk | (exact ⟨⟨_, by assumption⟩, hk⟩) | (exfalso; simp_all [AV.val]; done)), fun h => ⟨_, .gtr_i .., h⟩⟩
theorem q_geq_i (t : TypeId) (q : IntKind) (x y : Int) : Pu P (.bin .geq t) [.p (.int q x), .p (.int q y)] k H = (k (.p (.bool (decide (x ≥ y)))) H) := propext ⟨by rintro ⟨_, h, hk⟩; cases h <;> (try subst_vars) <;> (first | exact hk | (exact ⟨⟨_, by assumption⟩, hk⟩) | (exfalso; simp_all [AV.val]; done)), fun h => ⟨_, .geq_i .., h⟩⟩
theorem q_shl_i (t : TypeId) (q q2 : IntKind) (x y : Int) : Pu P (.bin .shl t) [.p (.int q x), .p (.int q2 y)] k H = ((0 ≤ y) ∧ k (.p (.int q (q.wrap (x * 2 ^ (min y.toNat q.bits))))) H) := propext ⟨by rintro ⟨_, h, hk⟩; cases h <;> (try subst_vars) <;> (first | exact hk | (exact ⟨by assumption, hk⟩) | (exact ⟨⟨_, by assumption⟩, hk⟩) | (exfalso; simp_all [AV.val]; done)), fun ⟨h0, h⟩ => ⟨_, by constructor <;> (first | assumption | rfl), h⟩⟩
theorem q_shr_i (t : TypeId) (q q2 : IntKind) (x y : Int) : Pu P (.bin .shr t) [.p (.int q x), .p (.int q2 y)] k H = ((0 ≤ y) ∧ k (.p (.int q (x.fdiv (2 ^ (min y.toNat q.bits))))) H) := propext ⟨by rintro ⟨_, h, hk⟩; cases h <;> (try subst_vars) <;> (first | exact hk | (exact ⟨by assumption, hk⟩) | (exact ⟨⟨_, by assumption⟩, hk⟩) | (exfalso; simp_all [AV.val]; done)), fun ⟨h0, h⟩ => ⟨_, by constructor <;> (first | assumption | rfl), h⟩⟩
theorem q_eql_b (t : TypeId) (x y : Bool) : Pu P (.bin .eql t) [.p (.bool x), .p (.bool y)] k H = ((P.underlying t = some .bool) ∧ k (.p (.bool (x == y))) H) := propext ⟨by rintro ⟨_, h, hk⟩; cases h <;> (try subst_vars) <;> (first | exact hk | (exact ⟨by assumption, hk⟩) | (exact ⟨⟨_, by assumption⟩, hk⟩) | (exfalso; simp_all [AV.val]; done)), fun ⟨h0, h⟩ => ⟨_, by constructor <;> (first | assumption | rfl), h⟩⟩
theorem q_neq_b (t : TypeId) (x y : Bool) : Pu P (.bin .neq t) [.p (.bool x), .p (.bool y)] k H = ((P.underlying t = some .bool) ∧ k (.p (.bool (!(x == y)))) H) := propext ⟨by rintro ⟨_, h, hk⟩; cases h <;> (try subst_vars) <;> (first | exact hk | (exact ⟨by assumption, hk⟩) | (exact ⟨⟨_, by assumption⟩, hk⟩) | (exfalso; simp_all [AV.val]; done)), fun ⟨h0, h⟩ => ⟨_, by constructor <;> (first | assumption | rfl), h⟩⟩
theorem q_eql_s (t : TypeId) (x y : ByteArray) : Pu P (.bin .eql t) [.p (.string x), .p (.string y)] k H = (k (.p (.bool (x.toList == y.toList))) H) := propext ⟨by rintro ⟨_, h, hk⟩; cases h <;> (try subst_vars) <;> (first | exact hk | (exact ⟨⟨_, by assumption⟩, hk⟩) | (exfalso; simp_all [AV.val]; done)), fun h => ⟨_, .eql_s .., h⟩⟩
theorem q_neq_s (t : TypeId) (x y : ByteArray) : Pu P (.bin .neq t) [.p (.string x), .p (.string y)] k H = (k (.p (.bool (!(x.toList == y.toList)))) H) := propext ⟨by rintro ⟨_, h, hk⟩; cases h <;> (try subst_vars) <;> (first | exact hk | (exact ⟨⟨_, by assumption⟩, hk⟩) | (exfalso; simp_all [AV.val]; done)), fun h => ⟨_, .neq_s .., h⟩⟩
theorem q_add_s (t : TypeId) (x y : ByteArray) : Pu P (.bin .add t) [.p (.string x), .p (.string y)] k H = ((x.size + y.size ≤ maxLen) ∧ k (.p (.string (x ++ y))) H) := propext ⟨by rintro ⟨_, h, hk⟩; cases h <;> (try subst_vars) <;> (first | exact hk | (exact ⟨by assumption, hk⟩) | (exact ⟨⟨_, by assumption⟩, hk⟩) | (exfalso; simp_all [AV.val]; done)), fun ⟨h0, h⟩ => ⟨_, by constructor <;> (first | assumption | rfl), h⟩⟩
theorem q_lss_s (t : TypeId) (x y : ByteArray) : Pu P (.bin .lss t) [.p (.string x), .p (.string y)] k H = (k (.p (.bool (Op.bytesLess x.toList y.toList))) H) := propext ⟨by rintro ⟨_, h, hk⟩; cases h <;> (try subst_vars) <;> (first | exact hk | (exact ⟨⟨_, by assumption⟩, hk⟩) | (exfalso; simp_all [AV.val]; done)), fun h => ⟨_, .lss_s .., h⟩⟩
theorem q_neg_i (q : IntKind) (x : Int) : Pu P (.un .neg) [.p (.int q x)] k H = (k (.p (.int q (q.wrap (0 - x)))) H) := propext ⟨by rintro ⟨_, h, hk⟩; cases h <;> (try subst_vars) <;> (first | exact hk | (exact ⟨⟨_, by assumption⟩, hk⟩) | (exfalso; simp_all [AV.val]; done)), fun h => ⟨_, by constructor <;> rfl, h⟩⟩
theorem q_not_b (x : Bool) : Pu P (.un .not) [.p (.bool x)] k H = (k (.p (.bool (!x))) H) := propext ⟨by rintro ⟨_, h, hk⟩; cases h <;> (try subst_vars) <;> (first | exact hk | (exact ⟨⟨_, by assumption⟩, hk⟩) | (exfalso; simp_all [AV.val]; done)), fun h => ⟨_, .not_b .., h⟩⟩
theorem q_conv_i (q j : IntKind) (x : Int) : Pu P (.conv q) [.p (.int j x)] k H = (k (.p (.int q (q.wrap x))) H) := propext ⟨by rintro ⟨_, h, hk⟩; cases h <;> (try subst_vars) <;> (first | exact hk | (exact ⟨⟨_, by assumption⟩, hk⟩) | (exfalso; simp_all [AV.val]; done)), fun h => ⟨_, by constructor <;> rfl, h⟩⟩
theorem q_same_s (x : ByteArray) : Pu P .same [.p (.string x)] k H = (k (.p (.string x)) H) := propext ⟨by rintro ⟨_, h, hk⟩; cases h <;> (try subst_vars) <;> (first | exact hk | (exact ⟨⟨_, by assumption⟩, hk⟩) | (exfalso; simp_all [AV.val]; done)), fun h => ⟨_, .same_s .., h⟩⟩
theorem q_len_dsl (sz : Nat) (xs : List (List AV)) : Pu P .len [.dsl sz xs] k H = (k (.p (.int .i64 xs.length)) H) := propext ⟨by rintro ⟨_, h, hk⟩; cases h <;> (try subst_vars) <;> (first | exact hk | (exact ⟨⟨_, by assumption⟩, hk⟩) | (exfalso; simp_all [AV.val]; done)), fun h => ⟨_, .len_dsl .., h⟩⟩
theorem q_len_osl (id sz off n : Nat) : Pu P .len [.osl id sz off n] k H = (k (.p (.int .i64 n)) H) := propext ⟨by rintro ⟨_, h, hk⟩; cases h <;> (try subst_vars) <;> (first | exact hk | (exact ⟨⟨_, by assumption⟩, hk⟩) | (exfalso; simp_all [AV.val]; done)), fun h => ⟨_, .len_osl .., h⟩⟩
theorem q_len_nil (A : Option Addr) (c : Nat) : Pu P .len [.p (.slice A 0 c)] k H = (k (.p (.int .i64 0)) H) := propext ⟨by rintro ⟨_, h, hk⟩; cases h <;> (try subst_vars) <;> (first | exact hk | (exact ⟨⟨_, by assumption⟩, hk⟩) | (exfalso; simp_all [AV.val]; done)), fun h => ⟨_, .len_nil .., h⟩⟩
theorem q_len_s (x : ByteArray) : Pu P .slen [.p (.string x)] k H = (k (.p (.int .i64 x.size)) H) := propext ⟨by rintro ⟨_, h, hk⟩; cases h <;> (try subst_vars) <;> (first | exact hk | (exact ⟨⟨_, by assumption⟩, hk⟩) | (exfalso; simp_all [AV.val]; done)), fun h => ⟨_, .len_s .., h⟩⟩
theorem q_slc_00 (sz : Nat) (xs : List (List AV)) : Pu P (.slc sz false false) [.dsl sz xs] k H = (k (.dsl sz xs) H) := propext ⟨by rintro ⟨_, h, hk⟩; cases h <;> (try subst_vars) <;> (first | exact hk | (exact ⟨⟨_, by assumption⟩, hk⟩) | (exfalso; simp_all [AV.val]; done)), fun h => ⟨_, .slc_00 .., h⟩⟩
theorem q_slc_10 (sz : Nat) (xs : List (List AV)) (q : IntKind) (lo : Int) : Pu P (.slc sz true false) [.dsl sz xs, .p (.int q lo)] k H = ((0 ≤ lo) ∧ (lo ≤ xs.length) ∧ k (.dsl sz (xs.drop lo.toNat)) H) := propext ⟨by rintro ⟨_, h, hk⟩; cases h <;> (try subst_vars) <;> (first | exact hk | (exact ⟨by assumption, by assumption, hk⟩) | (exact ⟨⟨_, by assumption⟩, by assumption, hk⟩) | (exfalso; simp_all [AV.val]; done)), fun ⟨h0, h1, h⟩ => ⟨_, by constructor <;> (first | assumption | rfl), h⟩⟩
theorem q_slc_01 (sz : Nat) (xs : List (List AV)) (q : IntKind) (hi : Int) : Pu P (.slc sz false true) [.dsl sz xs, .p (.int q hi)] k H = ((0 ≤ hi) ∧ (hi ≤ xs.length) ∧ k (.dsl sz (xs.take hi.toNat)) H) := propext ⟨by rintro ⟨_, h, hk⟩; cases h <;> (try subst_vars) <;> (first | exact hk | (exact ⟨by assumption, by assumption, hk⟩) | (exact ⟨⟨_, by assumption⟩, by assumption, hk⟩) | (exfalso; simp_all [AV.val]; done)), fun ⟨h0, h1, h⟩ => ⟨_, by constructor <;> (first | assumption | rfl), h⟩⟩
theorem q_slc_11 (sz : Nat) (xs : List (List AV)) (q q2 : IntKind) (lo hi : Int) : Pu P (.slc sz true true) [.dsl sz xs, .p (.int q lo), .p (.int q2 hi)] k H = ((0 ≤ lo) ∧ (lo ≤ hi) ∧ (hi ≤ xs.length) ∧ k (.dsl sz ((xs.drop lo.toNat).take (hi.toNat - lo.toNat))) H) := propext ⟨by rintro ⟨_, h, hk⟩; cases h <;> (try subst_vars) <;> (first | exact hk | (exact ⟨by assumption, by assumption, by assumption, hk⟩) | (exact ⟨⟨_, by assumption⟩, by assumption, by assumption, hk⟩) | (exfalso; simp_all [AV.val]; done)), fun ⟨h0, h1, h2, h⟩ => ⟨_, by constructor <;> (first | assumption | rfl), h⟩⟩
theorem q_slo_00 (sz id off n : Nat) : Pu P (.slc sz false false) [.osl id sz off n] k H = (k (.osl id sz off n) H) := propext ⟨by rintro ⟨_, h, hk⟩; cases h <;> (try subst_vars) <;> (first | exact hk | (exact ⟨⟨_, by assumption⟩, hk⟩) | (exfalso; simp_all [AV.val]; done)), fun h => ⟨_, .slo_00 .., h⟩⟩
theorem q_slo_10 (sz id off n : Nat) (q : IntKind) (lo : Int) : Pu P (.slc sz true false) [.osl id sz off n, .p (.int q lo)] k H = ((0 ≤ lo) ∧ (lo ≤ n) ∧ k (.osl id sz (off + lo.toNat) (n - lo.toNat)) H) := propext ⟨by rintro ⟨_, h, hk⟩; cases h <;> (try subst_vars) <;> (first | exact hk | (exact ⟨by assumption, by assumption, hk⟩) | (exact ⟨⟨_, by assumption⟩, by assumption, hk⟩) | (exfalso; simp_all [AV.val]; done)), fun ⟨h0, h1, h⟩ => ⟨_, by constructor <;> (first | assumption | rfl), h⟩⟩
theorem q_slo_01 (sz id off n : Nat) (q : IntKind) (hi : Int) : Pu P (.slc sz false true) [.osl id sz off n, .p (.int q hi)] k H = ((0 ≤ hi) ∧ (hi ≤ n) ∧ k (.osl id sz off hi.toNat) H) := propext ⟨by rintro ⟨_, h, hk⟩; cases h <;> (try subst_vars) <;> (first | exact hk | (exact ⟨by assumption, by assumption, hk⟩) | (exact ⟨⟨_, by assumption⟩, by assumption, hk⟩) | (exfalso; simp_all [AV.val]; done)), fun ⟨h0, h1, h⟩ => ⟨_, by constructor <;> (first | assumption | rfl), h⟩⟩
theorem q_slo_11 (sz id off n : Nat) (q q2 : IntKind) (lo hi : Int) : Pu P (.slc sz true true) [.osl id sz off n, .p (.int q lo), .p (.int q2 hi)] k H = ((0 ≤ lo) ∧ (lo ≤ hi) ∧ (hi ≤ n) ∧ k (.osl id sz (off + lo.toNat) (hi.toNat - lo.toNat)) H) := propext ⟨by rintro ⟨_, h, hk⟩; cases h <;> (try subst_vars) <;> (first | exact hk | (exact ⟨by assumption, by assumption, by assumption, hk⟩) | (exact ⟨⟨_, by assumption⟩, by assumption, by assumption, hk⟩) | (exfalso; simp_all [AV.val]; done)), fun ⟨h0, h1, h2, h⟩ => ⟨_, by constructor <;> (first | assumption | rfl), h⟩⟩
theorem q_ssl_00 (s : ByteArray) : Pu P (.ssl false false) [.p (.string s)] k H = (k (.p (.string (s.extract 0 s.size))) H) := propext ⟨by rintro ⟨_, h, hk⟩; cases h <;> (try subst_vars) <;> (first | exact hk | (exact ⟨⟨_, by assumption⟩, hk⟩) | (exfalso; simp_all [AV.val]; done)), fun h => ⟨_, .ssl_00 .., h⟩⟩
theorem q_ssl_10 (s : ByteArray) (q : IntKind) (lo : Int) : Pu P (.ssl true false) [.p (.string s), .p (.int q lo)] k H = ((0 ≤ lo) ∧ (lo ≤ s.size) ∧ k (.p (.string (s.extract lo.toNat s.size))) H) := propext ⟨by rintro ⟨_, h, hk⟩; cases h <;> (try subst_vars) <;> (first | exact hk | (exact ⟨by assumption, by assumption, hk⟩) | (exact ⟨⟨_, by assumption⟩, by assumption, hk⟩) | (exfalso; simp_all [AV.val]; done)), fun ⟨h0, h1, h⟩ => ⟨_, by constructor <;> (first | assumption | rfl), h⟩⟩
theorem q_ssl_01 (s : ByteArray) (q : IntKind) (hi : Int) : Pu P (.ssl false true) [.p (.string s), .p (.int q hi)] k H = ((0 ≤ hi) ∧ (hi ≤ s.size) ∧ k (.p (.string (s.extract 0 hi.toNat))) H) := propext ⟨by rintro ⟨_, h, hk⟩; cases h <;> (try subst_vars) <;> (first | exact hk | (exact ⟨by assumption, by assumption, hk⟩) | (exact ⟨⟨_, by assumption⟩, by assumption, hk⟩) | (exfalso; simp_all [AV.val]; done)), fun ⟨h0, h1, h⟩ => ⟨_, by constructor <;> (first | assumption | rfl), h⟩⟩
theorem q_ssl_11 (s : ByteArray) (q q2 : IntKind) (lo hi : Int) : Pu P (.ssl true true) [.p (.string s), .p (.int q lo), .p (.int q2 hi)] k H = ((0 ≤ lo) ∧ (lo ≤ hi) ∧ (hi ≤ s.size) ∧ k (.p (.string (s.extract lo.toNat hi.toNat))) H) := propext ⟨by rintro ⟨_, h, hk⟩; cases h <;> (try subst_vars) <;> (first | exact hk | (exact ⟨by assumption, by assumption, by assumption, hk⟩) | (exact ⟨⟨_, by assumption⟩, by assumption, by assumption, hk⟩) | (exfalso; simp_all [AV.val]; done)), fun ⟨h0, h1, h2, h⟩ => ⟨_, by constructor <;> (first | assumption | rfl), h⟩⟩
theorem q_cap_nil (c : Nat) : Pu P .cap [.p (.slice none 0 c)] k H = (k (.p (.int .i64 c)) H) := propext ⟨by rintro ⟨_, h, hk⟩; cases h <;> (try subst_vars) <;> (first | exact hk | (exact ⟨⟨_, by assumption⟩, hk⟩) | (exfalso; simp_all [AV.val]; done)), fun h => ⟨_, .cap_nil .., h⟩⟩
theorem q_sld_osl (sz id off n : Nat) : Pu P (.sld sz) [.osl id sz off n] k H = ((0 < n) ∧ k (.eptr id sz off 0) H) := propext ⟨by rintro ⟨_, h, hk⟩; cases h <;> (try subst_vars) <;> (first | exact hk | (exact ⟨by assumption, hk⟩) | (exact ⟨⟨_, by assumption⟩, hk⟩) | (exfalso; simp_all [AV.val]; done)), fun ⟨h0, h⟩ => ⟨_, by constructor <;> (first | assumption | rfl), h⟩⟩
theorem q_sld_nil (sz c : Nat) : Pu P (.sld sz) [.p (.slice none 0 c)] k H = (k (.p (.pointer none)) H) := propext ⟨by rintro ⟨_, h, hk⟩; cases h <;> (try subst_vars) <;> (first | exact hk | (exact ⟨⟨_, by assumption⟩, hk⟩) | (exfalso; simp_all [AV.val]; done)), fun h => ⟨_, .sld_nil .., h⟩⟩
theorem q_slc_nil (sz : Nat) (q : IntKind) : Pu P (.slc sz false true) [.p (.slice none 0 0), .p (.int q 0)] k H = (k (.p (.slice none 0 0)) H) := propext ⟨by rintro ⟨_, h, hk⟩; cases h <;> (try subst_vars) <;> (first | exact hk | (exact ⟨⟨_, by assumption⟩, hk⟩) | (exfalso; simp_all [AV.val]; done)), fun h => ⟨_, .slc_nil .., h⟩⟩
theorem q_eqnil_p (t : TypeId) (A : Option Addr) (n c : Nat) : Pu P (.bin .eql t) [.p (.slice A n c), .p (.slice none 0 0)] k H = ((∃ e, P.underlying t = some (.slice e)) ∧ k (.p (.bool (A.isNone))) H) := propext ⟨by rintro ⟨_, h, hk⟩; cases h <;> (try subst_vars) <;> (first | exact hk | (exact ⟨by assumption, hk⟩) | (exact ⟨⟨_, by assumption⟩, hk⟩) | (exfalso; simp_all [AV.val]; done)), by rintro ⟨⟨e, he⟩, h⟩; exact ⟨_, .eqnil_p _ _ _ _ _ he, h⟩⟩
theorem q_eqnil_dsl (t : TypeId) (sz : Nat) (xs : List (List AV)) : Pu P (.bin .eql t) [.dsl sz xs, .p (.slice none 0 0)] k H = ((∃ e, P.underlying t = some (.slice e)) ∧ (0 < sz) ∧ (0 < xs.length) ∧ k (.p (.bool false)) H) := propext ⟨by rintro ⟨_, h, hk⟩; cases h <;> (try subst_vars) <;> (first | exact hk | (exact ⟨by assumption, by assumption, by assumption, hk⟩) | (exact ⟨⟨_, by assumption⟩, by assumption, by assumption, hk⟩) | (exfalso; simp_all [AV.val]; done)), by rintro ⟨⟨e, he⟩, h1, h2, h⟩; exact ⟨_, .eqnil_dsl _ _ _ _ he h1 h2, h⟩⟩
theorem q_eqnil_osl (t : TypeId) (id sz off n : Nat) : Pu P (.bin .eql t) [.osl id sz off n, .p (.slice none 0 0)] k H = ((∃ e, P.underlying t = some (.slice e)) ∧ (0 < n) ∧ k (.p (.bool false)) H) := propext ⟨by rintro ⟨_, h, hk⟩; cases h <;> (try subst_vars) <;> (first | exact hk | (exact ⟨by assumption, by assumption, hk⟩) | (exact ⟨⟨_, by assumption⟩, by assumption, hk⟩) | (exfalso; simp_all [AV.val]; done)), by rintro ⟨⟨e, he⟩, h1, h⟩; exact ⟨_, .eqnil_osl _ _ _ _ _ _ he h1, h⟩⟩
theorem q_nenil_p (t : TypeId) (A : Option Addr) (n c : Nat) : Pu P (.bin .neq t) [.p (.slice A n c), .p (.slice none 0 0)] k H = ((∃ e, P.underlying t = some (.slice e)) ∧ k (.p (.bool (!A.isNone))) H) := propext ⟨by rintro ⟨_, h, hk⟩; cases h <;> (try subst_vars) <;> (first | exact hk | (exact ⟨by assumption, hk⟩) | (exact ⟨⟨_, by assumption⟩, hk⟩) | (exfalso; simp_all [AV.val]; done)), by rintro ⟨⟨e, he⟩, h⟩; exact ⟨_, .nenil_p _ _ _ _ _ he, h⟩⟩
theorem q_nenil_dsl (t : TypeId) (sz : Nat) (xs : List (List AV)) : Pu P (.bin .neq t) [.dsl sz xs, .p (.slice none 0 0)] k H = ((∃ e, P.underlying t = some (.slice e)) ∧ (0 < sz) ∧ (0 < xs.length) ∧ k (.p (.bool true)) H) := propext ⟨by rintro ⟨_, h, hk⟩; cases h <;> (try subst_vars) <;> (first | exact hk | (exact ⟨by assumption, by assumption, by assumption, hk⟩) | (exact ⟨⟨_, by assumption⟩, by assumption, by assumption, hk⟩) | (exfalso; simp_all [AV.val]; done)), by rintro ⟨⟨e, he⟩, h1, h2, h⟩; exact ⟨_, .nenil_dsl _ _ _ _ he h1 h2, h⟩⟩
theorem q_nenil_osl (t : TypeId) (id sz off n : Nat) : Pu P (.bin .neq t) [.osl id sz off n, .p (.slice none 0 0)] k H = ((∃ e, P.underlying t = some (.slice e)) ∧ (0 < n) ∧ k (.p (.bool true)) H) := propext ⟨by rintro ⟨_, h, hk⟩; cases h <;> (try subst_vars) <;> (first | exact hk | (exact ⟨by assumption, by assumption, hk⟩) | (exact ⟨⟨_, by assumption⟩, by assumption, hk⟩) | (exfalso; simp_all [AV.val]; done)), by rintro ⟨⟨e, he⟩, h1, h⟩; exact ⟨_, .nenil_osl _ _ _ _ _ _ he h1, h⟩⟩
theorem q_mn_i (q : IntKind) (x y : Int) : Pu P .mn [.p (.int q x), .p (.int q y)] k H = (k (.p (.int q (if y < x then y else x))) H) := propext ⟨by rintro ⟨_, h, hk⟩; cases h <;> (try subst_vars) <;> (first | exact hk | (exact ⟨⟨_, by assumption⟩, hk⟩) | (exfalso; simp_all [AV.val]; done)), fun h => ⟨_, .mn_i .., h⟩⟩
theorem q_mx_i (q : IntKind) (x y : Int) : Pu P .mx [.p (.int q x), .p (.int q y)] k H = (k (.p (.int q (if y > x then y else x))) H) := propext ⟨by rintro ⟨_, h, hk⟩; cases h <;> (try subst_vars) <;> (first | exact hk | (exact ⟨⟨_, by assumption⟩, hk⟩) | (exfalso; simp_all [AV.val]; done)), fun h => ⟨_, .mx_i .., h⟩⟩
theorem q_mkfn (f : Fn) (nf : Nat) (xs : List AV) : Pu P (.mkfn f nf) xs k H = ((nf ≤ xs.length) ∧ k (.fn f (xs.take nf) (xs.drop nf)) H) := propext ⟨by rintro ⟨_, h, hk⟩; cases h <;> (try subst_vars) <;> (first | exact hk | (exact ⟨by assumption, hk⟩) | (exact ⟨⟨_, by assumption⟩, hk⟩) | (exfalso; simp_all [AV.val]; done)), fun ⟨h0, h⟩ => ⟨_, by constructor <;> (first | assumption | rfl), h⟩⟩

theorem q_fld_one (off n : Nat) (cs : List AV) : Pu P (.fld off n false) [.agg cs] k H = onSome cs[off]? (fun a => k a H) := propext ⟨by rintro ⟨a, h, hk⟩; cases h; exact onSome_iff.2 ⟨a, by assumption, hk⟩, fun h => by obtain ⟨a, h, hk⟩ := onSome_iff.1 h; exact ⟨a, .fld_one _ _ _ _ h, hk⟩⟩
theorem q_ext (i : Nat) (cs : List AV) : Pu P (.ext i) [.tup cs] k H = onSome cs[i]? (fun a => k a H) := propext ⟨by rintro ⟨a, h, hk⟩; cases h; exact onSome_iff.2 ⟨a, by assumption, hk⟩, fun h => by obtain ⟨a, h, hk⟩ := onSome_iff.1 h; exact ⟨a, .ext _ _ _ h, hk⟩⟩
theorem q_sidx (s : ByteArray) (q : IntKind) (i : Int) : Pu P .sidx [.p (.string s), .p (.int q i)] k H = (0 ≤ i ∧ onSome s[i.toNat]? (fun b => k (.p (.int .u8 b.toNat)) H)) := propext ⟨by rintro ⟨a, h, hk⟩; cases h; exact ⟨by assumption, onSome_iff.2 ⟨_, by assumption, hk⟩⟩, fun ⟨h, h3⟩ => by obtain ⟨b, h2, hk⟩ := onSome_iff.1 h3; exact ⟨_, .sidx _ _ _ _ h h2, hk⟩⟩
theorem q_vidx_agg (len sz : Nat) (q : IntKind) (i : Int) (cs : List AV) : Pu P (.vidx len sz true) [.agg cs, .p (.int q i)] k H = (0 ≤ i ∧ i < len ∧ i.toNat * sz + sz ≤ cs.length ∧ k (.agg ((cs.drop (i.toNat * sz)).take sz)) H) := propext ⟨by rintro ⟨a, h, hk⟩; cases h; exact ⟨by assumption, by assumption, by assumption, hk⟩, fun ⟨h1, h2, h3, hk⟩ => ⟨_, .vidx_agg _ _ _ _ _ h1 h2 h3, hk⟩⟩
theorem q_vidx_one (len sz : Nat) (q : IntKind) (i : Int) (cs : List AV) : Pu P (.vidx len sz false) [.agg cs, .p (.int q i)] k H = (0 ≤ i ∧ i < len ∧ onSome cs[i.toNat * sz]? (fun a => k a H)) := propext ⟨by rintro ⟨a, h, hk⟩; cases h; exact ⟨by assumption, by assumption, onSome_iff.2 ⟨_, by assumption, hk⟩⟩, fun ⟨h1, h2, h3⟩ => by obtain ⟨b, h4, hk⟩ := onSome_iff.1 h3; exact ⟨_, .vidx_one _ _ _ _ _ _ h1 h2 h4, hk⟩⟩
theorem q_bld (z : List AV) (pl : List (Nat × Nat)) (xs : List AV) : Pu P (.bld z pl) xs k H = (xs.all AV.part = true ∧ onSome (fillA z pl xs) (fun cs => k (.agg cs) H)) := propext ⟨by rintro ⟨a, h, hk⟩; cases h; exact ⟨by assumption, onSome_iff.2 ⟨_, by assumption, hk⟩⟩, fun ⟨h, h3⟩ => by obtain ⟨cs, h2, hk⟩ := onSome_iff.1 h3; exact ⟨_, .bld _ _ _ _ h h2, hk⟩⟩
theorem q_eql_v (t : TypeId) (a b : AV) (us vs : Array Value) (r : Bool) (h1 : a.val = some (.agg us)) (h2 : b.val = some (.agg vs)) (h3 : P.eqGuardType P.depth t = false) (h4 : ∀ w, (Op.equal t (.agg us) (.agg vs)).run P w = .ok r w) (h : k (.p (.bool r)) H) : Pu P (.bin .eql t) [a, b] k H := ⟨_, .eql_v _ _ _ _ _ _ h1 h2 h3 h4, h⟩
theorem q_neq_v (t : TypeId) (a b : AV) (us vs : Array Value) (r : Bool) (h1 : a.val = some (.agg us)) (h2 : b.val = some (.agg vs)) (h3 : P.eqGuardType P.depth t = false) (h4 : ∀ w, (Op.equal t (.agg us) (.agg vs)).run P w = .ok r w) (h : k (.p (.bool (!r))) H) : Pu P (.bin .neq t) [a, b] k H := ⟨_, .neq_v _ _ _ _ _ _ h1 h2 h3 h4, h⟩

def boxAt : Option AO → Nat → Option (List AV)
  | some (.box _ cs), off => some (cs.drop off)
  | _, _ => none
def rowAt : Option AO → Nat → Nat → Nat → Option (List AV)
  | some (.row _ sz es), sz', i, j => if sz = sz' then es[i]?.map (·.drop j) else none
  | some (.frz sz es), sz', i, j => if sz = sz' then es[i]?.map (·.drop j) else none
  | some (.crow _ sz _ es), sz', i, j => if sz = sz' then es[i]?.map (·.drop j) else none
  | _, _, _, _ => none
def atF (H : AH) : AV → Option (List AV)
  | .ptr id off => boxAt (H.get id) off
  | .eptr id sz i j => rowAt (H.get id) sz i j
  | .dptr _ xs i j => xs[i]?.map (·.drop j)
  | _ => none
theorem boxAt_box (t : TypeId) (cs : List AV) (off : Nat) : boxAt (some (.box t cs)) off = some (cs.drop off) := rfl
theorem rowAt_row (t : TypeId) (sz : Nat) (es : List (List AV)) (i j : Nat) : rowAt (some (.row t sz es)) sz i j = es[i]?.map (·.drop j) := by simp [rowAt]
theorem rowAt_crow (t : TypeId) (sz c : Nat) (es : List (List AV)) (i j : Nat) : rowAt (some (.crow t sz c es)) sz i j = es[i]?.map (·.drop j) := by simp [rowAt]
theorem rowAt_frz (sz : Nat) (es : List (List AV)) (i j : Nat) : rowAt (some (.frz sz es)) sz i j = es[i]?.map (·.drop j) := by simp [rowAt]
theorem atF_ptr (id off : Nat) : atF H (.ptr id off) = boxAt (H.get id) off := rfl
theorem atF_eptr (id sz i j : Nat) : atF H (.eptr id sz i j) = rowAt (H.get id) sz i j := rfl
theorem atF_dptr (sz : Nat) (xs : List (List AV)) (i j : Nat) : atF H (.dptr sz xs i j) = xs[i]?.map (·.drop j) := rfl
theorem atF_iff {a : AV} {ds : List AV} : AtA H a ds ↔ atF H a = some ds := by
  constructor
  · intro h
    cases h with
    | box id off t cs hg => simp [atF, boxAt, hg]
    | row id sz i j t es e hg he => simp [atF, rowAt, hg, he]
    | frz id sz i j es e hg he => simp [atF, rowAt, hg, he]
    | crow id sz i j c t es e hg he => simp [atF, rowAt, hg, he]
    | dat sz i j xs e he => simp [atF, he]
  · intro h
    cases a with
    | ptr id off =>
      rw [atF_ptr] at h
      cases hg : H.get id with
      | none => rw [hg] at h; cases h
      | some o =>
        rw [hg] at h
        cases o <;> simp only [boxAt, Option.some.injEq, reduceCtorEq] at h
        subst h; exact .box _ _ _ _ hg
    | eptr id sz i j =>
      rw [atF_eptr] at h
      cases hg : H.get id with
      | none => rw [hg] at h; cases h
      | some o =>
        rw [hg] at h
        cases o with
        | row t sz2 es =>
          simp only [rowAt] at h
          split at h
          · rename_i e; subst e
            cases he : es[i]? with
            | none => rw [he] at h; cases h
            | some e => rw [he] at h; injection h with h; subst h; exact .row _ _ _ _ _ _ _ hg he
          · cases h
        | crow t2 sz2 c2 es =>
          simp only [rowAt] at h
          split at h
          · rename_i e; subst e
            cases he : es[i]? with
            | none => rw [he] at h; cases h
            | some e => rw [he] at h; injection h with h; subst h; exact .crow _ _ _ _ _ _ _ _ hg he
          · cases h
        | frz sz2 es =>
          simp only [rowAt] at h
          split at h
          · rename_i e; subst e
            cases he : es[i]? with
            | none => rw [he] at h; cases h
            | some e => rw [he] at h; injection h with h; subst h; exact .frz _ _ _ _ _ _ hg he
          · cases h
        | _ => cases h
    | dptr sz xs i j =>
      rw [atF_dptr] at h
      cases he : xs[i]? with
      | none => rw [he] at h; cases h
      | some e => rw [he] at h; injection h with h; subst h; exact .dat _ _ _ _ _ he
    | _ => cases h
def ldF (n : Nat) : Bool → Option (List AV) → (AV → Prop) → Prop
  | true, some ds, k => n ≤ ds.length ∧ k (.agg (ds.take n))
  | false, some ds, k => onSome ds[0]? k
  | _, none, _ => False
theorem ldF_t (n : Nat) (ds : List AV) (k : AV → Prop) : ldF n true (some ds) k = (n ≤ ds.length ∧ k (.agg (ds.take n))) := rfl
theorem ldF_f (n : Nat) (ds : List AV) (k : AV → Prop) : ldF n false (some ds) k = onSome ds[0]? k := rfl
theorem rd_ld (n : Nat) (agg : Bool) (a : AV) : Rd P V (.ld n agg) [a] k H = ldF n agg (atF V a) (fun v => k v H) := propext <| by
  constructor
  · rintro ⟨v, h, hk⟩
    cases h with
    | ld_agg _ _ ds hat hn => rw [atF_iff.1 hat]; exact ⟨hn, hk⟩
    | ld_one _ _ b ds hat hb => rw [atF_iff.1 hat]; exact onSome_iff.2 ⟨_, hb, hk⟩
  · intro h
    cases ha : atF V a with
    | none => rw [ha] at h; cases agg <;> exact h.elim
    | some ds =>
      rw [ha] at h
      cases agg with
      | false => obtain ⟨b, hb, hk⟩ := onSome_iff.1 h; exact ⟨_, .ld_one _ _ _ _ (atF_iff.2 ha) hb, hk⟩
      | true => exact ⟨_, .ld_agg _ _ _ (atF_iff.2 ha) h.1, h.2⟩
theorem rds_eq (o : RO) (args : List AV) : RdS P o args k H = Rd P H o args k H := rfl
def lookF (P : Program) (kt : TypeId) (z : AV) (ok : Bool) (key : AV) : Option AO → (AV → Prop) → Prop
  | some (.map kt' _ f), k => kt' = kt ∧ Keyed P kt ∧ onSome key.val (fun u => (keyOf P kt u).isSome = true ∧ k (match f u with
    | none => if ok then .tup [z, .p (.bool false)] else z
    | some b => if ok then .tup [b, .p (.bool true)] else b))
  | _, _ => False
theorem rd_look (kt : TypeId) (z : AV) (ok : Bool) (id : Nat) (key : AV) : Rd P V (.look kt z ok) [.mp id, key] k H = lookF P kt z ok key (V.get id) (fun v => k v H) := propext <| by
  constructor
  · rintro ⟨v, h, hk⟩
    cases h with
    | look_no _ _ _ _ n f _ u hg K hu hi hf => rw [hg]; exact ⟨rfl, K, onSome_iff.2 ⟨u, hu, hi, by rw [hf]; exact hk⟩⟩
    | look_yes _ _ b _ _ n f _ u hg K hu hi hf => rw [hg]; exact ⟨rfl, K, onSome_iff.2 ⟨u, hu, hi, by rw [hf]; exact hk⟩⟩
  · intro h
    cases hg : V.get id with
    | none => rw [hg] at h; exact h.elim
    | some o =>
      rw [hg] at h
      cases o with
      | map kt2 n f =>
        obtain ⟨rfl, K, h⟩ := h
        obtain ⟨u, hu, hi, hk⟩ := onSome_iff.1 h
        cases hf : f u with
        | none => rw [hf] at hk; exact ⟨_, .look_no _ _ _ _ _ _ _ _ hg K hu hi hf, hk⟩
        | some b => rw [hf] at hk; exact ⟨_, .look_yes _ _ _ _ _ _ _ _ _ hg K hu hi hf, hk⟩
      | _ => exact h.elim
def chunks (sz : Nat) : Nat → List AV → List (List AV)
  | 0, _ => []
  | n + 1, cs => cs.take sz :: chunks sz n (cs.drop sz)
theorem chunks_flat {sz : Nat} : ∀ {es : List (List AV)}, (∀ e ∈ es, e.length = sz) → chunks sz es.length es.flatten = es
  | [], _ => rfl
  | e :: es, h => by
    have he : e.length = sz := h e (by simp)
    rw [List.length_cons, List.flatten_cons, chunks, List.take_append_of_le_length (by omega), List.take_of_length_le (by omega), List.drop_append_of_le_length (by omega), List.drop_of_length_le (by omega), List.nil_append, chunks_flat fun e he => h e (by simp [he])]
theorem chunks_spec {sz : Nat} : ∀ {n : Nat} {cs : List AV}, cs.length = n * sz → (chunks sz n cs).flatten = cs ∧ (chunks sz n cs).length = n ∧ ∀ e ∈ chunks sz n cs, e.length = sz
  | 0, cs, h => by simp at h; subst h; simp [chunks]
  | n + 1, cs, h => by
    rw [Nat.add_mul, Nat.one_mul] at h
    obtain ⟨h1, h2, h3⟩ := chunks_spec (sz := sz) (n := n) (cs := cs.drop sz) (by rw [List.length_drop]; omega)
    refine ⟨by rw [chunks, List.flatten_cons, h1, List.take_append_drop], by rw [chunks, List.length_cons, h2], fun e he => ?_⟩
    rw [chunks, List.mem_cons] at he
    rcases he with rfl | he
    · rw [List.length_take]; omega
    · exact h3 e he
theorem al_nw (id : Nat) (t : TypeId) (z : List AV) : Al id (.nw t z) [] k H = k (.ptr id 0) (H.put id (.box t z)) := propext ⟨by rintro ⟨_, _, h, hk⟩; cases h; exact hk, fun h => ⟨_, _, .nw _ _, h⟩⟩
theorem al_bx (id : Nat) (t : TypeId) (a : AV) : Al id (.bx t) [a] k H = (a.part = true ∧ k (.ptr id 0) (H.put id (.box t a.cells))) := propext ⟨by rintro ⟨_, _, h, hk⟩; cases h; exact ⟨by assumption, hk⟩, fun ⟨h1, h⟩ => ⟨_, _, .bx _ _ h1, h⟩⟩
theorem al_mm (id : Nat) (kt : TypeId) : Al id (.mm kt) [] k H = k (.mp id) (H.put id (.map kt 0 (fun _ => none))) := propext ⟨by rintro ⟨_, _, h, hk⟩; cases h; exact hk, fun h => ⟨_, _, .mm _, h⟩⟩
theorem al_ms (id t sz bytes : Nat) (z : List AV) (q q2 : IntKind) (l c : Int) : Al id (.ms t sz bytes z) [.p (.int q l), .p (.int q2 c)] k H = (0 ≤ l ∧ l ≤ c ∧ c ≤ maxLen ∧ c * bytes ≤ 140737488355328 ∧ k (.osl id sz 0 l.toNat) (H.put id (.row t sz (List.replicate l.toNat z)))) :=
  propext ⟨by rintro ⟨_, _, h, hk⟩; cases h; exact ⟨by assumption, by assumption, by assumption, by assumption, hk⟩, fun ⟨h1, h2, h3, h4, h⟩ => ⟨_, _, .ms _ _ _ _ _ _ _ _ h1 h2 h3 h4, h⟩⟩
theorem al_bs (id t sz len : Nat) (z : List AV) (pl : List (Nat × Nat)) (xs : List AV) : Al id (.bs t sz len z pl) xs k H = (xs.all AV.part = true ∧ onSome (fillA (List.replicate len z).flatten pl xs) (fun cs => cs.length = len * sz ∧ k (.osl id sz 0 len) (H.put id (.row t sz (chunks sz len cs))))) := propext <| by
  constructor
  · rintro ⟨_, _, h, hk⟩
    cases h with
    | bs _ _ _ _ _ _ es h1 h2 h3 h4 =>
      refine ⟨h1, onSome_iff.2 ⟨_, h4, ?_, ?_⟩⟩
      · subst h2
        clear h4 hk
        induction es with
        | nil => simp
        | cons e es ih => rw [List.flatten_cons, List.length_append, ih fun e he => h3 e (by simp [he]), h3 e (by simp), List.length_cons, Nat.add_mul]; omega
      · subst h2; rw [chunks_flat h3]; exact hk
  · rintro ⟨h1, h⟩
    obtain ⟨cs, h2, h3, h4⟩ := onSome_iff.1 h
    obtain ⟨g1, g2, g3⟩ := chunks_spec h3
    exact ⟨_, _, .bs _ _ _ _ _ _ _ h1 g2 g3 (by rw [g1]; exact h2), h4⟩
def elRow : Option AO → Nat → Nat → Nat → Option (List (List AV))
  | some (.row _ sz es), sz', off, n => if sz = sz' ∧ off + n ≤ es.length then some ((es.drop off).take n) else none
  | some (.frz sz es), sz', off, n => if sz = sz' ∧ off + n ≤ es.length then some ((es.drop off).take n) else none
  | some (.crow _ sz _ es), sz', off, n => if sz = sz' ∧ off + n ≤ es.length then some ((es.drop off).take n) else none
  | _, _, _, _ => none
def elF (H : AH) (sz : Nat) : AV → Option (List (List AV))
  | .dsl sz' xs => if sz' = sz then some xs else none
  | .osl id sz' off n => if sz' = sz then elRow (H.get id) sz off n else none
  | .p (.slice _ 0 _) => some []
  | _ => none
theorem elF_dsl (sz : Nat) (xs : List (List AV)) : elF H sz (.dsl sz xs) = some xs := by simp [elF]
theorem elF_nil (sz c : Nat) (A : Option Addr) : elF H sz (.p (.slice A 0 c)) = some [] := rfl
theorem elF_osl (id sz off n : Nat) : elF H sz (.osl id sz off n) = elRow (H.get id) sz off n := by simp [elF]
theorem elRow_row (t : TypeId) (sz : Nat) (es : List (List AV)) (off n : Nat) (h : off + n ≤ es.length) : elRow (some (.row t sz es)) sz off n = some ((es.drop off).take n) := by simp [elRow, h]
theorem elRow_frz (sz : Nat) (es : List (List AV)) (off n : Nat) (h : off + n ≤ es.length) : elRow (some (.frz sz es)) sz off n = some ((es.drop off).take n) := by simp [elRow, h]
theorem elRow_crow (t : TypeId) (sz c : Nat) (es : List (List AV)) (off n : Nat) (h : off + n ≤ es.length) : elRow (some (.crow t sz c es)) sz off n = some ((es.drop off).take n) := by simp [elRow, h]
theorem elF_iff {sz : Nat} {a : AV} {ys : List (List AV)} : ElA H sz a ys ↔ elF H sz a = some ys := by
  constructor
  · intro h
    cases h with
    | dsl xs => simp [elF]
    | row id off n t es hg hn => simp [elF, elRow, hg, hn]
    | frz id off n es hg hn => simp [elF, elRow, hg, hn]
    | crow id off n c t es hg hn => simp [elF, elRow, hg, hn]
    | nil_ A c => rfl
  · intro h
    cases a with
    | dsl sz2 xs =>
      simp only [elF] at h
      split at h
      · rename_i e; subst e; injection h with h; subst h; exact .dsl _
      · cases h
    | osl id sz2 off n =>
      simp only [elF] at h
      split at h
      · rename_i e; subst e
        cases hg : H.get id with
        | none => rw [hg] at h; cases h
        | some o =>
          rw [hg] at h
          cases o with
          | row t sz3 es =>
            simp only [elRow] at h
            split at h
            · rename_i e; obtain ⟨rfl, e⟩ := e; injection h with h; subst h; exact .row _ _ _ _ _ hg e
            · cases h
          | frz sz3 es =>
            simp only [elRow] at h
            split at h
            · rename_i e; obtain ⟨rfl, e⟩ := e; injection h with h; subst h; exact .frz _ _ _ _ hg e
            · cases h
          | crow t sz3 c3 es =>
            simp only [elRow] at h
            split at h
            · rename_i e; obtain ⟨rfl, e⟩ := e; injection h with h; subst h; exact .crow _ _ _ _ _ _ hg e
            · cases h
          | _ => cases h
      · cases h
    | p v =>
      unfold elF at h
      split at h
      · rename_i e; cases e
      · rename_i e; cases e
      · rename_i e; injection e with e; subst e; injection h with h; subst h; exact .nil_ _ _
      · cases h
    | _ => cases h
theorem wrs_eq (id : Nat) (o : WO) (args : List AV) : WrS P id o args k H = Wr P id o args (fun a _ => k a) H := rfl
variable {k2 : AV → AH → AH → Prop}
def stBox (n i off : Nat) (a : AV) (H : AH) (k : AH → Prop) : Option AO → Prop
  | some (.box t cs) => a.part = true ∧ a.cells.length = n ∧ off + n ≤ cs.length ∧ k (H.put i (.box t (cs.take off ++ a.cells ++ cs.drop (off + n))))
  | _ => False
theorem wr_st_ptr (id n i off : Nat) (a : AV) : Wr P id (.st n) [.ptr i off, a] k2 H = stBox n i off a H (fun H' => k2 .any H' H') (H.get i) := propext <| by
  constructor
  · rintro ⟨_, _, h, hk⟩
    cases h with
    | st_box _ _ _ t cs _ _ hg h1 h2 h3 => rw [hg]; exact ⟨h1, h2, h3, hk⟩
  · intro h
    cases hg : H.get i with
    | none => rw [hg] at h; exact h.elim
    | some o =>
      rw [hg] at h
      cases o with
      | box t cs => obtain ⟨h1, h2, h3, h4⟩ := h; exact ⟨_, _, .st_box _ _ _ _ _ _ _ hg h1 h2 h3, h4⟩
      | _ => exact h.elim
def stRow (n i sz q j : Nat) (a : AV) (H : AH) (k : AH → Prop) : Option AO → Prop
  | some (.row t sz' es) => sz' = sz ∧ onSome es[q]? (fun e => a.part = true ∧ a.cells.length = n ∧ j + n ≤ sz ∧ k (H.put i (.row t sz (es.set q (e.take j ++ a.cells ++ e.drop (j + n))))))
  | _ => False
theorem wr_st_eptr (id n i sz q j : Nat) (a : AV) : Wr P id (.st n) [.eptr i sz q j, a] k2 H = stRow n i sz q j a H (fun H' => k2 .any H' H') (H.get i) := propext <| by
  constructor
  · rintro ⟨_, _, h, hk⟩
    cases h with
    | st_row _ _ _ _ _ t es e _ _ hg he h1 h2 h3 => rw [hg]; exact ⟨rfl, onSome_iff.2 ⟨e, he, h1, h2, h3, hk⟩⟩
  · intro h
    cases hg : H.get i with
    | none => rw [hg] at h; exact h.elim
    | some o =>
      rw [hg] at h
      cases o with
      | row t sz2 es => obtain ⟨rfl, h⟩ := h; obtain ⟨e, he, h1, h2, h3, h4⟩ := onSome_iff.1 h; exact ⟨_, _, .st_row _ _ _ _ _ _ _ _ _ _ hg he h1 h2 h3, h4⟩
      | _ => exact h.elim
def appRow (id t sz bytes r off n : Nat) (H : AH) (k : AV → AH → Prop) : Option AO → Option (List (List AV)) → Prop
  | some (.row t' sz' es), some ys => t' = t ∧ sz' = sz ∧ off + n ≤ es.length ∧ n + ys.length ≤ maxLen ∧ (n + ys.length) * bytes ≤ 140737488355328 ∧ k (.osl id sz 0 (n + ys.length)) ((H.kill r).put id (.row t sz ((es.drop off).take n ++ ys)))
  | _, _ => False
theorem wr_app_osl (id t sz bytes r off n : Nat) (x : AV) : Wr P id (.app t sz bytes) [.osl r sz off n, x] k2 H = appRow id t sz bytes r off n H (fun a H' => k2 a H' H') (H.get r) (elF H sz x) := propext <| by
  constructor
  · rintro ⟨_, _, h, hk⟩
    cases h with
    | app_row _ _ _ _ _ _ es ys _ _ hg h1 h2 h3 h4 => rw [hg, elF_iff.1 h2]; exact ⟨rfl, rfl, h1, h3, h4, hk⟩
  · intro h
    cases hg : H.get r with
    | none => rw [hg] at h; exact h.elim
    | some o =>
      cases he : elF H sz x with
      | none => rw [hg, he] at h; cases o <;> exact h.elim
      | some ys =>
        rw [hg, he] at h
        cases o with
        | row t2 sz2 es => obtain ⟨rfl, rfl, h1, h2, h3, h4⟩ := h; exact ⟨_, _, .app_row _ _ _ _ _ _ _ _ _ _ hg h1 (elF_iff.2 he) h2 h3, h4⟩
        | _ => exact h.elim
def appNil (id t sz bytes : Nat) (H : AH) (k : AV → AH → Prop) : Option (List (List AV)) → Prop
  | some ys => ys.length ≤ maxLen ∧ ys.length * bytes ≤ 140737488355328 ∧ k (.osl id sz 0 ys.length) (H.put id (.row t sz ys))
  | _ => False
theorem wr_app_nil (id t sz bytes : Nat) (x : AV) : Wr P id (.app t sz bytes) [.p (.slice none 0 0), x] k2 H = appNil id t sz bytes H (fun a H' => k2 a H' H') (elF H sz x) := propext <| by
  constructor
  · rintro ⟨_, _, h, hk⟩
    cases h with
    | app_nil _ _ _ ys _ _ h2 h3 h4 => rw [elF_iff.1 h2]; exact ⟨h3, h4, hk⟩
  · intro h
    cases he : elF H sz x with
    | none => rw [he] at h; exact h.elim
    | some ys => rw [he] at h; exact ⟨_, _, .app_nil _ _ _ _ _ _ (elF_iff.2 he) h.1 h.2.1, h.2.2⟩
def msetF (P : Program) (kt i : Nat) (key a : AV) (H : AH) (k : AH → Prop) : Option AO → Prop
  | some (.map kt' n f) => kt' = kt ∧ Keyed P kt ∧ onSome key.val (fun u => (keyOf P kt u).isSome = true ∧ n < maxLen ∧ k (H.put i (.map kt (n + 1) (putA f u a))))
  | _ => False
theorem q_mset (id kt i : Nat) (key a : AV) : Wr P id (.mset kt) [.mp i, key, a] k2 H = msetF P kt i key a H (fun H' => k2 .any H' H') (H.get i) := propext <| by
  constructor
  · rintro ⟨_, _, h, hk⟩
    cases h with
    | mset _ _ n f _ _ u _ hg K hu hi hn => rw [hg]; exact ⟨rfl, K, onSome_iff.2 ⟨u, hu, hi, hn, hk⟩⟩
  · intro h
    cases hg : H.get i with
    | none => rw [hg] at h; exact h.elim
    | some o =>
      rw [hg] at h
      cases o with
      | map kt2 n f => obtain ⟨rfl, K, h⟩ := h; obtain ⟨u, hu, hi, hn, hk⟩ := onSome_iff.1 h; exact ⟨_, _, .mset _ _ _ _ _ _ _ _ hg K hu hi hn, hk⟩
      | _ => exact h.elim
theorem wr_apz_nil (id t sz bytes : Nat) (z : List AV) (q : IntKind) (n : Int) : Wr P id (.apz t sz bytes z) [.p (.slice none 0 0), .p (.int q n)] k2 H = (0 ≤ n ∧ n ≤ maxLen ∧ n * bytes ≤ 140737488355328 ∧ k2 (.osl id sz 0 n.toNat) (H.put id (.row t sz (List.replicate n.toNat z))) (H.put id (.row t sz (List.replicate n.toNat z)))) := propext <| by
  constructor
  · rintro ⟨_, _, h, hk⟩
    cases h with
    | apz _ _ _ _ _ _ _ h1 h2 h3 => exact ⟨h1, h2, h3, hk⟩
  · rintro ⟨h1, h2, h3, hk⟩
    exact ⟨_, _, .apz _ _ _ _ _ _ _ h1 h2 h3, hk⟩
def clrRow (r sz off n : Nat) (z : List AV) (H : AH) (k : AH → Prop) : Option AO → Prop
  | some (.row t sz' es) => sz' = sz ∧ off + n ≤ es.length ∧ k (H.put r (.row t sz (es.take off ++ List.replicate n z ++ es.drop (off + n))))
  | _ => False
theorem wr_clr_osl (id sz r off n : Nat) (z : List AV) : Wr P id (.clr sz z) [.osl r sz off n] k2 H = clrRow r sz off n z H (fun H' => k2 .any H' H') (H.get r) := propext <| by
  constructor
  · rintro ⟨_, _, h, hk⟩
    cases h with
    | clr _ _ _ _ _ t es _ hg h1 => rw [hg]; exact ⟨rfl, h1, hk⟩
  · intro h
    cases hg : H.get r with
    | none => rw [hg] at h; exact h.elim
    | some o =>
      rw [hg] at h
      cases o with
      | row t sz2 es => obtain ⟨rfl, h1, h2⟩ := h; exact ⟨_, _, .clr _ _ _ _ _ _ _ _ hg h1, h2⟩
      | _ => exact h.elim
def apsRow (id t sz bytes r off n : Nat) (q : ByteArray) (H : AH) (k : AV → AH → Prop) : Option AO → Prop
  | some (.row t' sz' es) => t' = t ∧ sz' = sz ∧ off + n ≤ es.length ∧ n + (strE q).length ≤ maxLen ∧ (n + (strE q).length) * bytes ≤ 140737488355328 ∧ k (.osl id sz 0 (n + (strE q).length)) ((H.kill r).put id (.row t sz ((es.drop off).take n ++ strE q)))
  | _ => False
theorem wr_aps_osl (id t sz bytes r off n : Nat) (q : ByteArray) : Wr P id (.aps t sz bytes) [.osl r sz off n, .p (.string q)] k2 H = apsRow id t sz bytes r off n q H (fun a H' => k2 a H' H') (H.get r) := propext <| by
  constructor
  · rintro ⟨_, _, h, hk⟩
    cases h with
    | aps_row _ _ _ _ _ _ es _ _ hg h1 h3 h4 => rw [hg]; exact ⟨rfl, rfl, h1, h3, h4, hk⟩
  · intro h
    cases hg : H.get r with
    | none => rw [hg] at h; exact h.elim
    | some o =>
      rw [hg] at h
      cases o with
      | row t2 sz2 es => obtain ⟨rfl, rfl, h1, h2, h3, h4⟩ := h; exact ⟨_, _, .aps_row _ _ _ _ _ _ _ _ _ hg h1 h2 h3, h4⟩
      | _ => exact h.elim
theorem wr_aps_nil (id t sz bytes : Nat) (q : ByteArray) : Wr P id (.aps t sz bytes) [.p (.slice none 0 0), .p (.string q)] k2 H = ((strE q).length ≤ maxLen ∧ (strE q).length * bytes ≤ 140737488355328 ∧ k2 (.osl id sz 0 (strE q).length) (H.put id (.row t sz (strE q))) (H.put id (.row t sz (strE q)))) := propext <| by
  constructor
  · rintro ⟨_, _, h, hk⟩
    cases h with
    | aps_nil _ _ _ _ _ h1 h2 => exact ⟨h1, h2, hk⟩
  · rintro ⟨h1, h2, hk⟩
    exact ⟨_, _, .aps_nil _ _ _ _ _ h1 h2, hk⟩
def ustRow (t r i : Nat) (n : Int) (H : AH) (k : AV → AH → Prop) : Option AO → Prop
  | some (.row t' sz' es) => t' = t ∧ sz' = 1 ∧ 0 < n ∧ i + n.toNat ≤ es.length ∧ ∃ q, (es.drop i).take n.toNat = strE q ∧ k (.p (.string q)) (H.kill r)
  | _ => False
theorem wr_ust_row (id t r i : Nat) (n : Int) : Wr P id (.ust t) [.eptr r 1 i 0, .p (.int .i64 n)] k2 H = ustRow t r i n H (fun a H' => k2 a H' H') (H.get r) := propext <| by
  constructor
  · rintro ⟨_, _, h, hk⟩
    cases h with
    | ust_row _ _ _ m es q _ hg h1 h2 h3 => rw [hg]; exact ⟨rfl, rfl, by omega, by rw [Int.toNat_natCast]; exact h2, q, by rw [Int.toNat_natCast]; exact h3, hk⟩
  · intro h
    cases hg : H.get r with
    | none => rw [hg] at h; exact h.elim
    | some o =>
      rw [hg] at h
      cases o with
      | row t2 sz2 es =>
        obtain ⟨rfl, rfl, h1, h2, q, h3, h4⟩ := h
        obtain ⟨m, rfl⟩ := Int.eq_ofNat_of_zero_le (Int.le_of_lt h1)
        rw [Int.toNat_natCast] at h2 h3
        exact ⟨_, _, .ust_row _ _ _ _ _ _ _ hg (by omega) h2 h3, h4⟩
      | _ => exact h.elim
theorem wr_ust_nil (id t : Nat) : Wr P id (.ust t) [.p (.pointer none), .p (.int .i64 0)] k2 H = k2 (.p (.string .empty)) H H := propext <| by
  constructor
  · rintro ⟨_, _, h, hk⟩
    cases h; exact hk
  · intro hk
    exact ⟨_, _, .ust_nil _ _, hk⟩
theorem rd_bstr_eq (x : AV) : Rd P V .bstr [x] k H = onSome (elF V 1 x) (fun es => ∃ q, es = strE q ∧ k (.p (.string q)) H) := propext <| by
  constructor
  · rintro ⟨_, h, hk⟩
    cases h with
    | bstr _ q hel => exact onSome_iff.2 ⟨_, elF_iff.1 hel, q, rfl, hk⟩
  · intro h
    obtain ⟨es, he, q, rfl, hk⟩ := onSome_iff.1 h
    exact ⟨_, .bstr _ _ (elF_iff.2 he), hk⟩
theorem wf_st (V : AH) (tgt src : Option Nat) (id n i off : Nat) (a : AV) : WrF V tgt src id (.st n) [.ptr i off, a] k H = (tgt = some i ∧ V.get i = none ∧ stBox n i off a H (fun H' => k .any H') (H.get i)) := propext <| by
  constructor
  · rintro ⟨_, _, h, hk⟩
    cases h with
    | st _ _ _ t cs _ _ h1 h2 hg h3 h4 h5 => rw [hg]; exact ⟨h1, h2, h3, h4, h5, hk⟩
  · rintro ⟨h1, h2, h⟩
    cases hg : H.get i with
    | none => rw [hg] at h; exact h.elim
    | some o =>
      rw [hg] at h
      cases o with
      | box t cs => obtain ⟨h3, h4, h5, h6⟩ := h; exact ⟨_, _, .st _ _ _ _ _ _ _ h1 h2 hg h3 h4 h5, h6⟩
      | _ => exact h.elim
theorem cd_eq (c : Bool) (X Y : AH → Prop) : CdA (.p (.bool c)) X Y H = ((c = true → X H) ∧ (c = false → Y H)) := propext ⟨by rintro ⟨b, h, hk⟩; cases h; exact hk, fun h => ⟨c, rfl, h⟩⟩
theorem gd_eq (c want : Bool) (F : (AV → AH → Prop) → AH → Prop) : Gd (.p (.bool c)) want F k H = ((c = want → F k H) ∧ (c ≠ want → k (.tup []) H)) := propext ⟨by
  rintro ⟨b, h, h1, h2⟩
  cases b with
  | none => cases h
  | some b => cases h; exact ⟨fun e => h1 (by rw [e]), fun e => h2 (fun e2 => e (by injection e2))⟩, fun ⟨h1, h2⟩ => ⟨some c, rfl, fun e => h1 (by injection e), fun e => h2 (fun e2 => e (by rw [e2]))⟩⟩
theorem gdv_eq (c want : Bool) (F : (AV → AH → AH → Prop) → AH → Prop) : GdV (.p (.bool c)) want F V k2 H = ((c = want → F k2 H) ∧ (c ≠ want → k2 (.tup []) V H)) := propext ⟨by
  rintro ⟨b, h, h1, h2⟩
  cases b with
  | none => cases h
  | some b => cases h; exact ⟨fun e => h1 (by rw [e]), fun e => h2 (fun e2 => e (by injection e2))⟩, fun ⟨h1, h2⟩ => ⟨some c, rfl, fun e => h1 (by injection e), fun e => h2 (fun e2 => e (by rw [e2]))⟩⟩
theorem gd_sk (want : Bool) (F : (AV → AH → Prop) → AH → Prop) : Gd (.tup []) want F k H = k (.tup []) H := propext ⟨by
  rintro ⟨b, h, h1, h2⟩
  cases b with
  | some b => cases h
  | none => exact h2 (by simp), fun h => ⟨none, rfl, fun e => (by cases e), fun _ => h⟩⟩
theorem gdv_sk (want : Bool) (F : (AV → AH → AH → Prop) → AH → Prop) : GdV (.tup []) want F V k2 H = k2 (.tup []) V H := propext ⟨by
  rintro ⟨b, h, h1, h2⟩
  cases b with
  | some b => cases h
  | none => exact h2 (by simp), fun h => ⟨none, rfl, fun e => (by cases e), fun _ => h⟩⟩
theorem cd_t (X Y : AH → Prop) : CdA (.p (.bool true)) X Y H = X H := by rw [cd_eq]; simp
theorem cd_f (X Y : AH → Prop) : CdA (.p (.bool false)) X Y H = Y H := by rw [cd_eq]; simp
theorem gd_tt (F : (AV → AH → Prop) → AH → Prop) : Gd (.p (.bool true)) true F k H = F k H := by rw [gd_eq]; simp
theorem gd_ff (F : (AV → AH → Prop) → AH → Prop) : Gd (.p (.bool false)) false F k H = F k H := by rw [gd_eq]; simp
theorem gd_tf (F : (AV → AH → Prop) → AH → Prop) : Gd (.p (.bool true)) false F k H = k (.tup []) H := by rw [gd_eq]; simp
theorem gd_ft (F : (AV → AH → Prop) → AH → Prop) : Gd (.p (.bool false)) true F k H = k (.tup []) H := by rw [gd_eq]; simp
theorem gdv_tt (F : (AV → AH → AH → Prop) → AH → Prop) : GdV (.p (.bool true)) true F V k2 H = F k2 H := by rw [gdv_eq]; simp
theorem gdv_ff (F : (AV → AH → AH → Prop) → AH → Prop) : GdV (.p (.bool false)) false F V k2 H = F k2 H := by rw [gdv_eq]; simp
theorem gdv_tf (F : (AV → AH → AH → Prop) → AH → Prop) : GdV (.p (.bool true)) false F V k2 H = k2 (.tup []) V H := by rw [gdv_eq]; simp
theorem gdv_ft (F : (AV → AH → AH → Prop) → AH → Prop) : GdV (.p (.bool false)) true F V k2 H = k2 (.tup []) V H := by rw [gdv_eq]; simp
/-- a truth that is first told as short as can be: what waits behind it is not looked at -/
def bm (b : Bool) : Bool := b
def bm' (b : Bool) : Bool := b
theorem bm_eq (b : Bool) : bm b = bm' b := rfl
def CdB (c : Bool) (X Y : AH → Prop) (H : AH) : Prop := (c = true → X H) ∧ (c = false → Y H)
def GdB (c want : Bool) (F : (AV → AH → Prop) → AH → Prop) (k : AV → AH → Prop) (H : AH) : Prop := (c = want → F k H) ∧ (c ≠ want → k (.tup []) H)
def GvB (c want : Bool) (F : (AV → AH → AH → Prop) → AH → Prop) (V : AH) (k : AV → AH → AH → Prop) (H : AH) : Prop := (c = want → F k H) ∧ (c ≠ want → k (.tup []) V H)
theorem cd_b (c : Bool) (X Y : AH → Prop) : CdA (.p (.bool c)) X Y H = CdB (bm c) X Y H := cd_eq c X Y
theorem gd_b (c want : Bool) (F : (AV → AH → Prop) → AH → Prop) : Gd (.p (.bool c)) want F k H = GdB (bm c) want F k H := gd_eq c want F
theorem gdv_b (c want : Bool) (F : (AV → AH → AH → Prop) → AH → Prop) : GdV (.p (.bool c)) want F V k2 H = GvB (bm c) want F V k2 H := gdv_eq c want F
theorem cdb_congr {c c' : Bool} {X Y : AH → Prop} (h : c = c') : CdB c X Y H = CdB c' X Y H := by rw [h]
theorem gdb_congr {c c' b : Bool} {F : (AV → AH → Prop) → AH → Prop} (h : c = c') : GdB c b F k H = GdB c' b F k H := by rw [h]
theorem gvb_congr {c c' b : Bool} {F : (AV → AH → AH → Prop) → AH → Prop} (h : c = c') : GvB c b F V k2 H = GvB c' b F V k2 H := by rw [h]
theorem cdb_t (X Y : AH → Prop) : CdB (bm' true) X Y H = X H := propext ⟨fun h => h.1 rfl, fun h => ⟨fun _ => h, fun e => by cases e⟩⟩
theorem cdb_f (X Y : AH → Prop) : CdB (bm' false) X Y H = Y H := propext ⟨fun h => h.2 rfl, fun h => ⟨fun e => (by cases e), fun _ => h⟩⟩
theorem cdb_eq (c : Bool) (X Y : AH → Prop) : CdB (bm' c) X Y H = ((c = true → X H) ∧ (c = false → Y H)) := rfl
theorem gdb_tt (F : (AV → AH → Prop) → AH → Prop) : GdB (bm' true) true F k H = F k H := propext ⟨fun h => h.1 rfl, fun h => ⟨fun _ => h, fun e => absurd rfl e⟩⟩
theorem gdb_ff (F : (AV → AH → Prop) → AH → Prop) : GdB (bm' false) false F k H = F k H := propext ⟨fun h => h.1 rfl, fun h => ⟨fun _ => h, fun e => absurd rfl e⟩⟩
theorem gdb_tf (F : (AV → AH → Prop) → AH → Prop) : GdB (bm' true) false F k H = k (.tup []) H := propext ⟨fun h => h.2 (by decide), fun h => ⟨fun e => (by cases e), fun _ => h⟩⟩
theorem gdb_ft (F : (AV → AH → Prop) → AH → Prop) : GdB (bm' false) true F k H = k (.tup []) H := propext ⟨fun h => h.2 (by decide), fun h => ⟨fun e => (by cases e), fun _ => h⟩⟩
theorem gdb_eq (c want : Bool) (F : (AV → AH → Prop) → AH → Prop) : GdB (bm' c) want F k H = ((c = want → F k H) ∧ (c ≠ want → k (.tup []) H)) := rfl
theorem gvb_tt (F : (AV → AH → AH → Prop) → AH → Prop) : GvB (bm' true) true F V k2 H = F k2 H := propext ⟨fun h => h.1 rfl, fun h => ⟨fun _ => h, fun e => absurd rfl e⟩⟩
theorem gvb_ff (F : (AV → AH → AH → Prop) → AH → Prop) : GvB (bm' false) false F V k2 H = F k2 H := propext ⟨fun h => h.1 rfl, fun h => ⟨fun _ => h, fun e => absurd rfl e⟩⟩
theorem gvb_tf (F : (AV → AH → AH → Prop) → AH → Prop) : GvB (bm' true) false F V k2 H = k2 (.tup []) V H := propext ⟨fun h => h.2 (by decide), fun h => ⟨fun e => (by cases e), fun _ => h⟩⟩
theorem gvb_ft (F : (AV → AH → AH → Prop) → AH → Prop) : GvB (bm' false) true F V k2 H = k2 (.tup []) V H := propext ⟨fun h => h.2 (by decide), fun h => ⟨fun e => (by cases e), fun _ => h⟩⟩
theorem gvb_eq (c want : Bool) (F : (AV → AH → AH → Prop) → AH → Prop) : GvB (bm' c) want F V k2 H = ((c = want → F k2 H) ∧ (c ≠ want → k2 (.tup []) V H)) := rfl
theorem pick_t (a b : AV) : Pu P .pick [.p (.bool true), a, b] k H = k a H := by rw [q_pick]; simp
theorem pick_f (a b : AV) : Pu P .pick [.p (.bool false), a, b] k H = k b H := by rw [q_pick]; simp
theorem onSome_congr {α : Type} {o o' : Option α} {k : α → Prop} (h : o = o') : onSome o k = onSome o' k := by rw [h]
theorem pu_congr {o : PO} {a a' : List AV} (h : a = a') : Pu P o a k H = Pu P o a' k H := by rw [h]
theorem rds_congr {o : RO} {a a' : List AV} (h : a = a') : RdS P o a k H = RdS P o a' k H := by rw [h]
theorem rd_congr {o : RO} {a a' : List AV} (h : a = a') : Rd P V o a k H = Rd P V o a' k H := by rw [h]
theorem al_congr {id : Nat} {o : AOp} {a a' : List AV} (h : a = a') : Al id o a k H = Al id o a' k H := by rw [h]
theorem wr_congr {id : Nat} {o : WO} {a a' : List AV} (h : a = a') : Wr P id o a k2 H = Wr P id o a' k2 H := by rw [h]
theorem wrs_congr {id : Nat} {o : WO} {a a' : List AV} (h : a = a') : WrS P id o a k H = WrS P id o a' k H := by rw [h]
theorem wrf_congr {tgt src : Option Nat} {id : Nat} {o : WO} {a a' : List AV} (h : a = a') : WrF V tgt src id o a k H = WrF V tgt src id o a' k H := by rw [h]
theorem ca_congr {f f' : AV} {a a' : List AV} (h1 : f = f') (h : a = a') : Ca P f a k H = Ca P f' a' k H := by rw [h, h1]
theorem cak_congr {f f' : AV} {a a' : List AV} (h1 : f = f') (h : a = a') : CaK P V f a k H = CaK P V f' a' k H := by rw [h, h1]
theorem cav_congr {f f' : AV} {a a' : List AV} (h1 : f = f') (h : a = a') : CaV P V f a k H = CaV P V f' a' k H := by rw [h, h1]
theorem cd_congr {c c' : AV} {X Y : AH → Prop} (h : c = c') : CdA c X Y H = CdA c' X Y H := by rw [h]
theorem gd_congr {c c' : AV} {b : Bool} {F : (AV → AH → Prop) → AH → Prop} (h : c = c') : Gd c b F k H = Gd c' b F k H := by rw [h]
theorem gdv_congr {c c' : AV} {b : Bool} {F : (AV → AH → AH → Prop) → AH → Prop} (h : c = c') : GdV c b F V k2 H = GdV c' b F V k2 H := by rw [h]
theorem loop_congr {m : Nat} {F : List AV → (List AV → AH → Prop) → AH → Prop} {a a' : List AV} (h : a = a') : LoopA P m F a H = LoopA P m F a' H := by rw [h]
theorem cut_congr {m : Nat} {A : (List AV → AH → Prop) → AH → Prop} {K : List AV → AH → Prop} : CutA P m A K H = CutA P m A K H := rfl
theorem rt_congr {B : Nat} {a a' : AV} {Q : AV → AH → Prop} (h : a = a') : Rt P B a Q H = Rt P B a' Q H := by rw [h]
theorem ldF_congr {n : Nat} {b : Bool} {o o' : Option (List AV)} {k : AV → Prop} (h : o = o') : ldF n b o k = ldF n b o' k := by rw [h]
theorem lookF_congr {kt : TypeId} {z key : AV} {ok : Bool} {o o' : Option AO} {k : AV → Prop} (h : o = o') : lookF P kt z ok key o k = lookF P kt z ok key o' k := by rw [h]
theorem stBox_congr {n i off : Nat} {a : AV} {k : AH → Prop} {o o' : Option AO} (h : o = o') : stBox n i off a H k o = stBox n i off a H k o' := by rw [h]
theorem stRow_congr {n i sz q j : Nat} {a : AV} {k : AH → Prop} {o o' : Option AO} (h : o = o') : stRow n i sz q j a H k o = stRow n i sz q j a H k o' := by rw [h]
theorem appRow_congr {id t sz bytes r off n : Nat} {o o' : Option AO} {e e' : Option (List (List AV))} (h : o = o') (h2 : e = e') : appRow id t sz bytes r off n H k o e = appRow id t sz bytes r off n H k o' e' := by rw [h, h2]
theorem appNil_congr {id t sz bytes : Nat} {e e' : Option (List (List AV))} (h2 : e = e') : appNil id t sz bytes H k e = appNil id t sz bytes H k e' := by rw [h2]
theorem msetF_congr {kt i : Nat} {key a : AV} {k : AH → Prop} {o o' : Option AO} (h : o = o') : msetF P kt i key a H k o = msetF P kt i key a H k o' := by rw [h]
theorem apsRow_congr {id t sz bytes r off n : Nat} {q : ByteArray} {k : AV → AH → Prop} {o o' : Option AO} (h : o = o') : apsRow id t sz bytes r off n q H k o = apsRow id t sz bytes r off n q H k o' := by rw [h]
theorem ustRow_congr {t r i : Nat} {n : Int} {k : AV → AH → Prop} {o o' : Option AO} (h : o = o') : ustRow t r i n H k o = ustRow t r i n H k o' := by rw [h]
theorem clrRow_congr {r sz off n : Nat} {z : List AV} {k : AH → Prop} {o o' : Option AO} (h : o = o') : clrRow r sz off n z H k o = clrRow r sz off n z H k o' := by rw [h]
theorem rdn_eq (sl : List Nat) (o : RO) (args : List AV) : RdN P V sl o args k H = Rd P (mixV V H sl) o args k H := rfl
theorem mixV_nil : mixV V H [] = V := rfl
theorem mixV_cons (i : Nat) (r : List Nat) : mixV V H (i :: r) = mixO (H.get i) i (mixV V H r) := rfl
theorem mixO_some (o : AO) (i : Nat) : mixO (some o) i H = H.put i o := rfl
theorem mixO_none (i : Nat) : mixO none i H = H := rfl
theorem car_congr {sl : List Nat} {id : Nat} {f f' : AV} {a a' : List AV} (h1 : f = f') (h : a = a') : CaR P V id sl f a k H = CaR P V id sl f' a' k H := by rw [h, h1]
theorem wro_congr {b id : Nat} {src : Option Nat} {o : WO} {a a' : List AV} (h : a = a') : WrO V b src id o a k H = WrO V b src id o a' k H := by rw [h]
theorem delL_nil : delL H [] = H := rfl
theorem delL_cons (i : Nat) (r : List Nat) : delL H (i :: r) = (delL H r).del i := rfl
theorem del_nx (i : Nat) : (H.del i).nx = H.nx := rfl
theorem del_get (i : Nat) : (H.del i).get i = none := AH.get_del_self
theorem del_get_ne (i j : Nat) (h : j ≠ i) : (H.del i).get j = H.get j := AH.get_del_ne h
theorem cap_congr {b : Nat} {sl : List Nat} {f f' : AV} {a a' : List AV} {k : AV → AH → AH → Prop} (h1 : f = f') (h : a = a') : CaP P V b sl f a k H = CaP P V b sl f' a' k H := by rw [h, h1]
theorem can_congr {sl : List Nat} {f f' : AV} {a a' : List AV} (h1 : f = f') (h : a = a') : CaN P V sl f a k H = CaN P V sl f' a' k H := by rw [h, h1]
theorem rg_eq (m : Nat) (F : Nat → AH → Prop) : Rg m F H = F H.nx (H.up m) := rfl
theorem vw_eq (F : AH → AH → Prop) : Vw F H = F H H := rfl
theorem both_eq (X Y : AH → Prop) : BothA X Y H = (X H ∧ Y H) := rfl
theorem up_get (n i : Nat) : (H.up n).get i = H.get i := rfl
theorem up_nx (n : Nat) : (H.up n).nx = H.nx + n := rfl
theorem put_nx (i : Nat) (o : AO) : (H.put i o).nx = H.nx := rfl
theorem kill_nx (i : Nat) : (H.kill i).nx = H.nx := rfl
theorem put_get (i : Nat) (o : AO) : (H.put i o).get i = some o := AH.get_put_self
theorem put_get_ne (i j : Nat) (o : AO) (h : j ≠ i) : (H.put i o).get j = H.get j := AH.get_put_ne h
theorem kill_get_ne (i j : Nat) (h : j ≠ i) : (H.kill i).get j = H.get j := AH.get_put_ne h
end
end Go.Proofs.Ytgkkilbeingleaa
