/- Texts that the proof rests on, part 7: what each holds stands at its head. -/
import Derived.Test.YtgkkilbeingleaaZo6

/- The rules of abstract walks as equations, so that a walk is simplified to what is left to be shown. Nothing of the program is named here. -/
namespace Go.Proofs.Ytgkkilbeingleaa
open Go.RowKit Go.Maps

def bit_and (q : IntKind) (x y : Int) : Int := q.wrap (BitVec.ofInt q.bits x &&& BitVec.ofInt q.bits y).toNat
def bit_or (q : IntKind) (x y : Int) : Int := q.wrap (BitVec.ofInt q.bits x ||| BitVec.ofInt q.bits y).toNat
def bit_xor (q : IntKind) (x y : Int) : Int := q.wrap (BitVec.ofInt q.bits x ^^^ BitVec.ofInt q.bits y).toNat
/-- what is there is handed on -/
def onSome {α : Type} : Option α → (α → Prop) → Prop
  | some a, k => k a
  | none, _ => False
theorem onSome_some {α : Type} (a : α) (k : α → Prop) : onSome (some a) k = k a := rfl
theorem onSome_iff {α : Type} {o : Option α} {k : α → Prop} : onSome o k ↔ ∃ a, o = some a ∧ k a := by
  cases o with
  | none => exact ⟨fun h => h.elim, fun ⟨a, h, _⟩ => by cases h⟩
  | some a => exact ⟨fun h => ⟨a, rfl, h⟩, fun ⟨b, h, hk⟩ => by injection h with h; subst h; exact hk⟩
section
variable {P : Program} {H V : AH} {k : AV → AH → Prop}

theorem q_mv (a : AV) : Pu P .mv [a] k H = (k a H) := propext ⟨by rintro ⟨_, h, hk⟩; cases h <;> (try subst_vars) <;> (first | exact hk | (exact ⟨⟨_, by assumption⟩, hk⟩) | (exfalso; simp_all [AV.val]; done)), fun h => ⟨_, .mv .., h⟩⟩
theorem q_pick (c : Bool) (a b : AV) : Pu P .pick [.p (.bool c), a, b] k H = (k (if c then a else b) H) := propext ⟨by rintro ⟨_, h, hk⟩; cases h <;> (try subst_vars) <;> (first | exact hk | (exact ⟨⟨_, by assumption⟩, hk⟩) | (exfalso; simp_all [AV.val]; done)), fun h => ⟨_, .pick .., h⟩⟩
theorem q_nil_ptr (id off : Nat) : Pu P .nilck [.ptr id off] k H = (k (.ptr id off) H) := propext ⟨by rintro ⟨_, h, hk⟩; cases h <;> (try subst_vars) <;> (first | exact hk | (exact ⟨⟨_, by assumption⟩, hk⟩) | (exfalso; simp_all [AV.val]; done)), fun h => ⟨_, .nil_ptr .., h⟩⟩
theorem q_nil_eptr (id sz i j : Nat) : Pu P .nilck [.eptr id sz i j] k H = (k (.eptr id sz i j) H) := propext ⟨by rintro ⟨_, h, hk⟩; cases h <;> (try subst_vars) <;> (first | exact hk | (exact ⟨⟨_, by assumption⟩, hk⟩) | (exfalso; simp_all [AV.val]; done)), fun h => ⟨_, .nil_eptr .., h⟩⟩
theorem q_nil_dptr (sz : Nat) (xs : List (List AV)) (i j : Nat) : Pu P .nilck [.dptr sz xs i j] k H = (k (.dptr sz xs i j) H) := propext ⟨by rintro ⟨_, h, hk⟩; cases h <;> (try subst_vars) <;> (first | exact hk | (exact ⟨⟨_, by assumption⟩, hk⟩) | (exfalso; simp_all [AV.val]; done)), fun h => ⟨_, .nil_dptr .., h⟩⟩
theorem q_nil_fn (f : Nat) (xs ys : List AV) : Pu P .nilck [.fn (.func f) xs ys] k H = (k (.fn (.func f) xs ys) H) := propext ⟨by rintro ⟨_, h, hk⟩; cases h <;> (try subst_vars) <;> (first | exact hk | (exact ⟨⟨_, by assumption⟩, hk⟩) | (exfalso; simp_all [AV.val]; done)), fun h => ⟨_, .nil_fn .., h⟩⟩
theorem q_add_ptr (n id off : Nat) : Pu P (.addOff n) [.ptr id off] k H = (k (.ptr id (off + n)) H) := propext ⟨by rintro ⟨_, h, hk⟩; cases h <;> (try subst_vars) <;> (first | exact hk | (exact ⟨⟨_, by assumption⟩, hk⟩) | (exfalso; simp_all [AV.val]; done)), fun h => ⟨_, .add_ptr .., h⟩⟩
theorem q_add_eptr (n id sz i j : Nat) : Pu P (.addOff n) [.eptr id sz i j] k H = (k (.eptr id sz i (j + n)) H) := propext ⟨by rintro ⟨_, h, hk⟩; cases h <;> (try subst_vars) <;> (first | exact hk | (exact ⟨⟨_, by assumption⟩, hk⟩) | (exfalso; simp_all [AV.val]; done)), fun h => ⟨_, .add_eptr .., h⟩⟩
theorem q_add_dptr (n sz : Nat) (xs : List (List AV)) (i j : Nat) : Pu P (.addOff n) [.dptr sz xs i j] k H = (k (.dptr sz xs i (j + n)) H) := propext ⟨by rintro ⟨_, h, hk⟩; cases h <;> (try subst_vars) <;> (first | exact hk | (exact ⟨⟨_, by assumption⟩, hk⟩) | (exfalso; simp_all [AV.val]; done)), fun h => ⟨_, .add_dptr .., h⟩⟩
theorem q_idx_dsl (sz : Nat) (xs : List (List AV)) (q : IntKind) (i : Int) : Pu P (.idx sz) [.dsl sz xs, .p (.int q i)] k H = ((0 < sz) ∧ (0 ≤ i) ∧ (i < xs.length) ∧ k (.dptr sz xs i.toNat 0) H) := propext ⟨by rintro ⟨_, h, hk⟩; cases h <;> (try subst_vars) <;> (first | exact hk | (exact ⟨by assumption, by assumption, by assumption, hk⟩) | (exact ⟨⟨_, by assumption⟩, by assumption, by assumption, hk⟩) | (exfalso; simp_all [AV.val]; done)), fun ⟨h0, h1, h2, h⟩ => ⟨_, by constructor <;> (first | assumption | rfl), h⟩⟩
theorem q_idx_osl (sz id off n : Nat) (q : IntKind) (i : Int) : Pu P (.idx sz) [.osl id sz off n, .p (.int q i)] k H = ((0 ≤ i) ∧ (i < n) ∧ k (.eptr id sz (off + i.toNat) 0) H) := propext ⟨by rintro ⟨_, h, hk⟩; cases h <;> (try subst_vars) <;> (first | exact hk | (exact ⟨by assumption, by assumption, hk⟩) | (exact ⟨⟨_, by assumption⟩, by assumption, hk⟩) | (exfalso; simp_all [AV.val]; done)), fun ⟨h0, h1, h⟩ => ⟨_, by constructor <;> (first | assumption | rfl), h⟩⟩
theorem q_aidx_ptr (len sz id off : Nat) (q : IntKind) (i : Int) : Pu P (.aidx len sz) [.ptr id off, .p (.int q i)] k H = ((0 ≤ i) ∧ (i < len) ∧ k (.ptr id (off + i.toNat * sz)) H) := propext ⟨by rintro ⟨_, h, hk⟩; cases h <;> (try subst_vars) <;> (first | exact hk | (exact ⟨by assumption, by assumption, hk⟩) | (exact ⟨⟨_, by assumption⟩, by assumption, hk⟩) | (exfalso; simp_all [AV.val]; done)), fun ⟨h0, h1, h⟩ => ⟨_, by constructor <;> (first | assumption | rfl), h⟩⟩
theorem q_aidx_eptr (len sz id sz2 i2 j : Nat) (q : IntKind) (i : Int) : Pu P (.aidx len sz) [.eptr id sz2 i2 j, .p (.int q i)] k H = ((0 ≤ i) ∧ (i < len) ∧ k (.eptr id sz2 i2 (j + i.toNat * sz)) H) := propext ⟨by rintro ⟨_, h, hk⟩; cases h <;> (try subst_vars) <;> (first | exact hk | (exact ⟨by assumption, by assumption, hk⟩) | (exact ⟨⟨_, by assumption⟩, by assumption, hk⟩) | (exfalso; simp_all [AV.val]; done)), fun ⟨h0, h1, h⟩ => ⟨_, by constructor <;> (first | assumption | rfl), h⟩⟩
theorem q_aidx_dptr (len sz sz2 i2 j : Nat) (xs : List (List AV)) (q : IntKind) (i : Int) : Pu P (.aidx len sz) [.dptr sz2 xs i2 j, .p (.int q i)] k H = ((0 ≤ i) ∧ (i < len) ∧ k (.dptr sz2 xs i2 (j + i.toNat * sz)) H) := propext ⟨by rintro ⟨_, h, hk⟩; cases h <;> (try subst_vars) <;> (first | exact hk | (exact ⟨by assumption, by assumption, hk⟩) | (exact ⟨⟨_, by assumption⟩, by assumption, hk⟩) | (exfalso; simp_all [AV.val]; done)), fun ⟨h0, h1, h⟩ => ⟨_, by constructor <;> (first | assumption | rfl), h⟩⟩
theorem q_fld_agg (off n : Nat) (cs : List AV) : Pu P (.fld off n true) [.agg cs] k H = ((off + n ≤ cs.length) ∧ k (.agg ((cs.drop off).take n)) H) := propext ⟨by rintro ⟨_, h, hk⟩; cases h <;> (try subst_vars) <;> (first | exact hk | (exact ⟨by assumption, hk⟩) | (exact ⟨⟨_, by assumption⟩, hk⟩) | (exfalso; simp_all [AV.val]; done)), fun ⟨h0, h⟩ => ⟨_, by constructor <;> (first | assumption | rfl), h⟩⟩
theorem q_add_i (t : TypeId) (q : IntKind) (x y : Int) : Pu P (.bin .add t) [.p (.int q x), .p (.int q y)] k H = (k (.p (.int q (q.wrap (x + y)))) H) := propext ⟨by rintro ⟨_, h, hk⟩; cases h <;> (try subst_vars) <;> (first | exact hk | (exact ⟨⟨_, by assumption⟩, hk⟩) | (exfalso; simp_all [AV.val]; done)), fun h => ⟨_, by constructor <;> rfl, h⟩⟩
theorem q_sub_i (t : TypeId) (q : IntKind) (x y : Int) : Pu P (.bin .sub t) [.p (.int q x), .p (.int q y)] k H = (k (.p (.int q (q.wrap (x - y)))) H) := propext ⟨by rintro ⟨_, h, hk⟩; cases h <;> (try subst_vars) <;> (first | exact hk | (exact ⟨⟨_, by assumption⟩, hk⟩) | (exfalso; simp_all [AV.val]; done)), fun h => ⟨_, by constructor <;> rfl, h⟩⟩
theorem q_mul_i (t : TypeId) (q : IntKind) (x y : Int) : Pu P (.bin .mul t) [.p (.int q x), .p (.int q y)] k H = (k (.p (.int q (q.wrap (x * y)))) H) := propext ⟨by rintro ⟨_, h, hk⟩; cases h <;> (try subst_vars) <;> (first | exact hk | (exact ⟨⟨_, by assumption⟩, hk⟩) | (exfalso; simp_all [AV.val]; done)), fun h => ⟨_, by constructor <;> rfl, h⟩⟩
theorem q_quo_i (t : TypeId) (q : IntKind) (x y : Int) : Pu P (.bin .quo t) [.p (.int q x), .p (.int q y)] k H = ((y ≠ 0) ∧ k (.p (.int q (q.wrap (x.tdiv y)))) H) := propext ⟨by rintro ⟨_, h, hk⟩; cases h <;> (try subst_vars) <;> (first | exact hk | (exact ⟨by assumption, hk⟩) | (exact ⟨⟨_, by assumption⟩, hk⟩) | (exfalso; simp_all [AV.val]; done)), fun ⟨h0, h⟩ => ⟨_, by constructor <;> (first | assumption | rfl), h⟩⟩
theorem q_rem_i (t : TypeId) (q : IntKind) (x y : Int) : Pu P (.bin .rem t) [.p (.int q x), .p (.int q y)] k H = ((y ≠ 0) ∧ k (.p (.int q (x.tmod y))) H) := propext ⟨by rintro ⟨_, h, hk⟩; cases h <;> (try subst_vars) <;> (first | exact hk | (exact ⟨by assumption, hk⟩) | (exact ⟨⟨_, by assumption⟩, hk⟩) | (exfalso; simp_all [AV.val]; done)), fun ⟨h0, h⟩ => ⟨_, by constructor <;> (first | assumption | rfl), h⟩⟩
theorem q_and_i (t : TypeId) (q : IntKind) (x y : Int) : Pu P (.bin .and t) [.p (.int q x), .p (.int q y)] k H = (k (.p (.int q (bit_and q x y))) H) := propext ⟨by rintro ⟨_, h, hk⟩; cases h <;> (try subst_vars) <;> (first | exact hk | (exact ⟨⟨_, by assumption⟩, hk⟩) | (exfalso; simp_all [AV.val]; done)), fun h => ⟨_, by constructor <;> rfl, h⟩⟩
theorem q_or_i (t : TypeId) (q : IntKind) (x y : Int) : Pu P (.bin .or t) [.p (.int q x), .p (.int q y)] k H = (k (.p (.int q (bit_or q x y))) H) := propext ⟨by rintro ⟨_, h, hk⟩; cases h <;> (try subst_vars) <;> (first | exact hk | (exact ⟨⟨_, by assumption⟩, hk⟩) | (exfalso; simp_all [AV.val]; done)), fun h => ⟨_, by constructor <;> rfl, h⟩⟩
theorem q_xor_i (t : TypeId) (q : IntKind) (x y : Int) : Pu P (.bin .xor t) [.p (.int q x), .p (.int q y)] k H = (k (.p (.int q (bit_xor q x y))) H) := propext ⟨by rintro ⟨_, h, hk⟩; cases h <;> (try subst_vars) <;> (first | exact hk | (exact ⟨⟨_, by assumption⟩, hk⟩) | (exfalso; simp_all [AV.val]; done)), fun h => ⟨_, by constructor <;> rfl, h⟩⟩
theorem q_eql_i (t : TypeId) (q : IntKind) (x y : Int) : Pu P (.bin .eql t) [.p (.int q x), .p (.int q y)] k H = (k (.p (.bool (decide (x = y)))) H) := propext ⟨by rintro ⟨_, h, hk⟩; cases h <;> (try subst_vars) <;> (first | exact hk | (exact ⟨⟨_, by assumption⟩, hk⟩) | (exfalso; simp_all [AV.val]; done)), fun h => ⟨_, .eql_i .., h⟩⟩
theorem q_neq_i (t : TypeId) (q : IntKind) (x y : Int) : Pu P (.bin .neq t) [.p (.int q x), .p (.int q y)] k H = (k (.p (.bool (decide (x ≠ y)))) H) := propext ⟨by rintro ⟨_, h, hk⟩; cases h <;> (try subst_vars) <;> (first | exact hk | (exact ⟨⟨_, by assumption⟩, hk⟩) | (exfalso; simp_all [AV.val]; done)), fun h => ⟨_, .neq_i .., h⟩⟩
theorem q_lss_i (t : TypeId) (q : IntKind) (x y : Int) : Pu P (.bin .lss t) [.p (.int q x), .p (.int q y)] k H = (k (.p (.bool (decide (x < y)))) H) := propext ⟨by rintro ⟨_, h, hk⟩; cases h <;> (try subst_vars) <;> (first | exact hk | (exact ⟨⟨_, by assumption⟩, hk⟩) | (exfalso; simp_all [AV.val]; done)), fun h => ⟨_, .lss_i .., h⟩⟩
theorem q_leq_i (t : TypeId) (q : IntKind) (x y : Int) : Pu P (.bin .leq t) [.p (.int q x), .p (.int q y)] k H = (k (.p (.bool (decide (x ≤ y)))) H) := propext ⟨by rintro ⟨_, h, hk⟩; cases h <;> (try subst_vars) <;> (first | exact hk | (exact ⟨⟨_, by assumption⟩, hk⟩) | (exfalso; simp_all [AV.val]; done)), fun h => ⟨_, .leq_i .., h⟩⟩
theorem q_gtr_i (t : TypeId) (q : IntKind) (x y : Int) : Pu P (.bin .gtr t) [.p (.int q x), .p (.int q y)] k H = (k (.p (.bool (decide (x > y)))) H) := propext ⟨by rintro ⟨_, h, hk⟩; cases h <;> (try subst_vars) <;> (first | exact hk | (exact ⟨⟨_, by assumption⟩, hk⟩) | (exfalso; simp_all [AV.val]; done)), fun h => ⟨_, .gtr_i .., h⟩⟩
theorem q_geq_i (t : TypeId) (q : IntKind) (x y : Int) : Pu P (.bin .geq t) [.p (.int q x), .p (.int q y)] k H = (k (.p (.bool (decide (x ≥ y)))) H) := propext ⟨by rintro ⟨_, h, hk⟩; cases h <;> (try subst_vars) <;> (first | exact hk | (exact ⟨⟨_, by assumption⟩, hk⟩) | (exfalso; simp_all [AV.val]; done)), fun h => ⟨_, .geq_i .., h⟩⟩
theorem q_shl_i (t : TypeId) (q q2 : IntKind) (x y : Int) : Pu P (.bin .shl t) [.p (.int q x), .p (.int q2 y)] k H = ((0 ≤ y) ∧ k (.p (.int q (q.wrap (x * 2 ^ (min y.toNat q.bits))))) H) := propext ⟨by rintro ⟨_, h, hk⟩; cases h <;> (try subst_vars) <;> (first | exact hk | (exact ⟨by assumption, hk⟩) | (exact ⟨⟨_, by assumption⟩, hk⟩) | (exfalso; simp_all [AV.val]; done)), fun ⟨h0, h⟩ => ⟨_, by constructor <;> (first | assumption | rfl), h⟩⟩
theorem q_shr_i (t : TypeId) (q q2 : IntKind) (x y : Int) : Pu P (.bin .shr t) [.p (.int q x), .p (.int q2 y)] k H = ((0 ≤ y) ∧ k (.p (.int q (x.fdiv (2 ^ (min y.toNat q.bits))))) H) := propext ⟨by rintro ⟨_, h, hk⟩; cases h <;> (try subst_vars) <;> (first | exact hk | (exact ⟨by assumption, hk⟩) | (exact ⟨⟨_, by assumption⟩, hk⟩) | (exfalso; simp_all [AV.val]; done)), fun ⟨h0, h⟩ => ⟨_, by constructor <;> (first | assumption | rfl), h⟩⟩
theorem q_eql_b (t : TypeId) (x y : Bool) : Pu P (.bin .eql t) [.p (.bool x), .p (.bool y)] k H = ((P.underlying t = some .bool) ∧ k (.p (.bool (x == y))) H) := propext ⟨by rintro ⟨_, h, hk⟩; cases h <;> (try subst_vars) <;> (first | exact hk | (exact ⟨by assumption, hk⟩) | (exact ⟨⟨_, by assumption⟩, hk⟩) | (exfalso; simp_all [AV.val]; done)), fun ⟨h0, h⟩ => ⟨_, by constructor <;> (first | assumption | rfl), h⟩⟩
theorem q_neq_b (t : TypeId) (x y : Bool) : Pu P (.bin .neq t) [.p (.bool x), .p (.bool y)] k H = ((P.underlying t = some .bool) ∧ k (.p (.bool (!(x == y)))) H) := propext ⟨by rintro ⟨_, h, hk⟩; cases h <;> (try subst_vars) <;> (first | exact hk | (exact ⟨by assumption, hk⟩) | (exact ⟨⟨_, by assumption⟩, hk⟩) | (exfalso; simp_all [AV.val]; done)), fun ⟨h0, h⟩ => ⟨_, by constructor <;> (first | assumption | rfl), h⟩⟩
theorem q_eql_s (t : TypeId) (x y : ByteArray) : Pu P (.bin .eql t) [.p (.string x), .p (.string y)] k H = (k (.p (.bool (x.toList == y.toList))) H) := propext ⟨by rintro ⟨_, h, hk⟩; cases h <;> (try subst_vars) <;> (first | exact hk | (exact ⟨⟨_, by assumption⟩, hk⟩) | (exfalso; simp_all [AV.val]; done)), fun h => ⟨_, .eql_s .., h⟩⟩
theorem q_neq_s (t : TypeId) (x y : ByteArray) : Pu P (.bin .neq t) [.p (.string x), .p (.string y)] k H = (k (.p (.bool (!(x.toList == y.toList)))) H) := propext ⟨by rintro ⟨_, h, hk⟩; cases h <;> (try subst_vars) <;> (first | exact hk | (exact ⟨⟨_, by assumption⟩, hk⟩) | (exfalso; simp_all [AV.val]; done)), fun h => ⟨_, .neq_s .., h⟩⟩
theorem q_add_s (t : TypeId) (x y : ByteArray) : Pu P (.bin .add t) [.p (.string x), .p (.string y)] k H = ((x.size + y.size ≤ maxLen) ∧ k (.p (.string (x ++ y))) H) := propext ⟨by rintro ⟨_, h, hk⟩; cases h <;> (try subst_vars) <;> (first | exact hk | (exact ⟨by assumption, hk⟩) | (exact ⟨⟨_, by assumption⟩, hk⟩) | (exfalso; simp_all [AV.val]; done)), fun ⟨h0, h⟩ => ⟨_, by constructor <;> (first | assumption | rfl), h⟩⟩
theorem q_lss_s (t : TypeId) (x y : ByteArray) : Pu P (.bin .lss t) [.p (.string x), .p (.string y)] k H = (k (.p (.bool (Op.bytesLess x.toList y.toList))) H) := propext ⟨by rintro ⟨_, h, hk⟩; cases h <;> (try subst_vars) <;> (first | exact hk | (exact ⟨⟨_, by assumption⟩, hk⟩) | (exfalso; simp_all [AV.val]; done)), fun h => ⟨_, .lss_s .., h⟩⟩
theorem q_neg_i (q : IntKind) (x : Int) : Pu P (.un .neg) [.p (.int q x)] k H = (k (.p (.int q (q.wrap (0 - x)))) H) := propext ⟨by rintro ⟨_, h, hk⟩; cases h <;> (try subst_vars) <;> (first | exact hk | (exact ⟨⟨_, by assumption⟩, hk⟩) | (exfalso; simp_all [AV.val]; done)), fun h => ⟨_, by constructor <;> rfl, h⟩⟩
theorem q_not_b (x : Bool) : Pu P (.un .not) [.p (.bool x)] k H = (k (.p (.bool (!x))) H) := propext ⟨by rintro ⟨_, h, hk⟩; cases h <;> (try subst_vars) <;> (first | exact hk | (exact ⟨⟨_, by assumption⟩, hk⟩) | (exfalso; simp_all [AV.val]; done)), fun h => ⟨_, .not_b .., h⟩⟩
theorem q_conv_i (q j : IntKind) (x : Int) : Pu P (.conv q) [.p (.int j x)] k H = (k (.p (.int q (q.wrap x))) H) := propext ⟨by rintro ⟨_, h, hk⟩; cases h <;> (try subst_vars) <;> (first | exact hk | (exact ⟨⟨_, by assumption⟩, hk⟩) | (exfalso; simp_all [AV.val]; done)), fun h => ⟨_, by constructor <;> rfl, h⟩⟩
theorem q_same_s (x : ByteArray) : Pu P .same [.p (.string x)] k H = (k (.p (.string x)) H) := propext ⟨by rintro ⟨_, h, hk⟩; cases h <;> (try subst_vars) <;> (first | exact hk | (exact ⟨⟨_, by assumption⟩, hk⟩) | (exfalso; simp_all [AV.val]; done)), fun h => ⟨_, .same_s .., h⟩⟩
theorem q_len_dsl (sz : Nat) (xs : List (List AV)) : Pu P .len [.dsl sz xs] k H = (k (.p (.int .i64 xs.length)) H) := propext ⟨by rintro ⟨_, h, hk⟩; cases h <;> (try subst_vars) <;> (first | exact hk | (exact ⟨⟨_, by assumption⟩, hk⟩) | (exfalso; simp_all [AV.val]; done)), fun h => ⟨_, .len_dsl .., h⟩⟩
theorem q_len_osl (id sz off n : Nat) : Pu P .len [.osl id sz off n] k H = (k (.p (.int .i64 n)) H) := propext ⟨by rintro ⟨_, h, hk⟩; cases h <;> (try subst_vars) <;> (first | exact hk | (exact ⟨⟨_, by assumption⟩, hk⟩) | (exfalso; simp_all [AV.val]; done)), fun h => ⟨_, .len_osl .., h⟩⟩
theorem q_len_nil (A : Option Addr) (c : Nat) : Pu P .len [.p (.slice A 0 c)] k H = (k (.p (.int .i64 0)) H) := propext ⟨by rintro ⟨_, h, hk⟩; cases h <;> (try subst_vars) <;> (first | exact hk | (exact ⟨⟨_, by assumption⟩, hk⟩) | (exfalso; simp_all [AV.val]; done)), fun h => ⟨_, .len_nil .., h⟩⟩
theorem q_len_s (x : ByteArray) : Pu P .slen [.p (.string x)] k H = (k (.p (.int .i64 x.size)) H) := propext ⟨by rintro ⟨_, h, hk⟩; cases h <;> (try subst_vars) <;> (first | exact hk | (exact ⟨⟨_, by assumption⟩, hk⟩) | (exfalso; simp_all [AV.val]; done)), fun h => ⟨_, .len_s .., h⟩⟩
theorem q_slc_00 (sz : Nat) (xs : List (List AV)) : Pu P (.slc sz false false) [.dsl sz xs] k H = (k (.dsl sz xs) H) := propext ⟨by rintro ⟨_, h, hk⟩; cases h <;> (try subst_vars) <;> (first | exact hk | (exact ⟨⟨_, by assumption⟩, hk⟩) | (exfalso; simp_all [AV.val]; done)), fun h => ⟨_, .slc_00 .., h⟩⟩
theorem q_slc_10 (sz : Nat) (xs : List (List AV)) (q : IntKind) (lo : Int) : Pu P (.slc sz true false) [.dsl sz xs, .p (.int q lo)] k H = ((0 ≤ lo) ∧ (lo ≤ xs.length) ∧ k (.dsl sz (xs.drop lo.toNat)) H) := propext ⟨by rintro ⟨_, h, hk⟩; cases h <;> (try subst_vars) <;> (first | exact hk | (exact ⟨by assumption, by assumption, hk⟩) | (exact ⟨⟨_, by assumption⟩, by assumption, hk⟩) | (exfalso; simp_all [AV.val]; done)), fun ⟨h0, h1, h⟩ => ⟨_, by constructor <;> (first | assumption | rfl), h⟩⟩
theorem q_slc_01 (sz : Nat) (xs : List (List AV)) (q : IntKind) (hi : Int) : Pu P (.slc sz false true) [.dsl sz xs, .p (.int q hi)] k H = ((0 ≤ hi) ∧ (hi ≤ xs.length) ∧ k (.dsl sz (xs.take hi.toNat)) H) := propext ⟨by rintro ⟨_, h, hk⟩; cases h <;> (try subst_vars) <;> (first | exact hk | (exact ⟨by assumption, by assumption, hk⟩) | (exact ⟨⟨_, by assumption⟩, by assumption, hk⟩) | (exfalso; simp_all [AV.val]; done)), fun ⟨h0, h1, h⟩ => ⟨_, by constructor <;> (first | assumption | rfl), h⟩⟩
theorem q_slc_11 (sz : Nat) (xs : List (List AV)) (q q2 : IntKind) (lo hi : Int) : Pu P (.slc sz true true) [.dsl sz xs, .p (.int q lo), .p (.int q2 hi)] k H = ((0 ≤ lo) ∧ (lo ≤ hi) ∧ (hi ≤ xs.length) ∧ k (.dsl sz ((xs.drop lo.toNat).take (hi.toNat - lo.toNat))) H) := propext ⟨by rintro ⟨_, h, hk⟩; cases h <;> (try subst_vars) <;> (first | exact hk | (exact ⟨by assumption, by assumption, by assumption, hk⟩) | (exact ⟨⟨_, by assumption⟩, by assumption, by assumption, hk⟩) | (exfalso; simp_all [AV.val]; done)), fun ⟨h0, h1, h2, h⟩ => ⟨_, by constructor <;> (first | assumption | rfl), h⟩⟩
theorem q_slo_00 (sz id off n : Nat) : Pu P (.slc sz false false) [.osl id sz off n] k H = (k (.osl id sz off n) H) := propext ⟨by rintro ⟨_, h, hk⟩; cases h <;> (try subst_vars) <;> (first | exact hk | (exact ⟨⟨_, by assumption⟩, hk⟩) | (exfalso; simp_all [AV.val]; done)), fun h => ⟨_, .slo_00 .., h⟩⟩
theorem q_slo_10 (sz id off n : Nat) (q : IntKind) (lo : Int) : Pu P (.slc sz true false) [.osl id sz off n, .p (.int q lo)] k H = ((0 ≤ lo) ∧ (lo ≤ n) ∧ k (.osl id sz (off + lo.toNat) (n - lo.toNat)) H) := propext ⟨by rintro ⟨_, h, hk⟩; cases h <;> (try subst_vars) <;> (first | exact hk | (exact ⟨by assumption, by assumption, hk⟩) | (exact ⟨⟨_, by assumption⟩, by assumption, hk⟩) | (exfalso; simp_all [AV.val]; done)), fun ⟨h0, h1, h⟩ => ⟨_, by constructor <;> (first | assumption | rfl), h⟩⟩
theorem q_slo_01 (sz id off n : Nat) (q : IntKind) (hi : Int) : Pu P (.slc sz false true) [.osl id sz off n, .p (.int q hi)] k H = ((0 ≤ hi) ∧ (hi ≤ n) ∧ k (.osl id sz off hi.toNat) H) := propext ⟨by rintro ⟨_, h, hk⟩; cases h <;> (try subst_vars) <;> (first | exact hk | (exact ⟨by assumption, by assumption, hk⟩) | (exact ⟨⟨_, by assumption⟩, by assumption, hk⟩) | (exfalso; simp_all [AV.val]; done)), fun ⟨h0, h1, h⟩ => ⟨_, by constructor <;> (first | assumption | rfl), h⟩⟩
theorem q_slo_11 (sz id off n : Nat) (q q2 : IntKind) (lo hi : Int) : Pu P (.slc sz true true) [.osl id sz off n, .p (.int q lo), .p (.int q2 hi)] k H = ((0 ≤ lo) ∧ (lo ≤ hi) ∧ (hi ≤ n) ∧ k (.osl id sz (off + lo.toNat) (hi.toNat - lo.toNat)) H) := propext ⟨by rintro ⟨_, h, hk⟩; cases h <;> (try subst_vars) <;> (first | exact hk | (exact ⟨by assumption, by assumption, by assumption, hk⟩) | (exact ⟨⟨_, by assumption⟩, by assumption, by assumption, hk⟩) | (exfalso; simp_all [AV.val]; done)), fun ⟨h0, h1, h2, h⟩ => ⟨_, by constructor <;> (first | assumption | rfl), h⟩⟩
theorem q_ssl_00 (s : ByteArray) : Pu P (.ssl false false) [.p (.string s)] k H = (k (.p (.string (s.extract 0 s.size))) H) := propext ⟨by rintro ⟨_, h, hk⟩; cases h <;> (try subst_vars) <;> (first | exact hk | (exact ⟨⟨_, by assumption⟩, hk⟩) | (exfalso; simp_all [AV.val]; done)), fun h => ⟨_, .ssl_00 .., h⟩⟩
theorem q_ssl_10 (s : ByteArray) (q : IntKind) (lo : Int) : Pu P (.ssl true false) [.p (.string s), .p (.int q lo)] k H = ((0 ≤ lo) ∧ (lo ≤ s.size) ∧ k (.p (.string (s.extract lo.toNat s.size))) H) := propext ⟨by rintro ⟨_, h, hk⟩; cases h <;> (try subst_vars) <;> (first | exact hk | (exact ⟨by assumption, by assumption, hk⟩) | (exact ⟨⟨_, by assumption⟩, by assumption, hk⟩) | (exfalso; simp_all [AV.val]; done)), fun ⟨h0, h1, h⟩ => ⟨_, by constructor <;> (first | assumption | rfl), h⟩⟩
theorem q_ssl_01 (s : ByteArray) (q : IntKind) (hi : Int) : Pu P (.ssl false true) [.p (.string s), .p (.int q hi)] k H = ((0 ≤ hi) ∧ (hi ≤ s.size) ∧ k (.p (.string (s.extract 0 hi.toNat))) H) := propext ⟨by rintro ⟨_, h, hk⟩; cases h <;> (try subst_vars) <;> (first | exact hk | (exact ⟨by assumption, by assumption, hk⟩) | (exact ⟨⟨_, by assumption⟩, by assumption, hk⟩) | (exfalso; simp_all [AV.val]; done)), fun ⟨h0, h1, h⟩ => ⟨_, by constructor <;> (first | assumption | rfl), h⟩⟩
theorem q_ssl_11 (s : ByteArray) (q q2 : IntKind) (lo hi : Int) : Pu P (.ssl true true) [.p (.string s), .p (.int q lo), .p (.int q2 hi)] k H = ((0 ≤ lo) ∧ (lo ≤ hi) ∧ (hi ≤ s.size) ∧ k (.p (.string (s.extract lo.toNat hi.toNat))) H) := propext ⟨by rintro ⟨_, h, hk⟩; cases h <;> (try subst_vars) <;> (first | exact hk | (exact ⟨by assumption, by assumption, by assumption, hk⟩) | (exact ⟨⟨_, by assumption⟩, by assumption, by assumption, hk⟩) | (exfalso; simp_all [AV.val]; done)), fun ⟨h0, h1, h2, h⟩ => ⟨_, by constructor <;> (first | assumption | rfl), h⟩⟩
theorem q_cap_nil (c : Nat) : Pu P .cap [.p (.slice none 0 c)] k H = (k (.p (.int .i64 c)) H) := propext ⟨by rintro ⟨_, h, hk⟩; cases h <;> (try subst_vars) <;> (first | exact hk | (exact ⟨⟨_, by assumption⟩, hk⟩) | (exfalso; simp_all [AV.val]; done)), fun h => ⟨_, .cap_nil .., h⟩⟩
theorem q_sld_osl (sz id off n : Nat) : Pu P (.sld sz) [.osl id sz off n] k H = ((0 < n) ∧ k (.eptr id sz off 0) H) := propext ⟨by rintro ⟨_, h, hk⟩; cases h <;> (try subst_vars) <;> (first | exact hk | (exact ⟨by assumption, hk⟩) | (exact ⟨⟨_, by assumption⟩, hk⟩) | (exfalso; simp_all [AV.val]; done)), fun ⟨h0, h⟩ => ⟨_, by constructor <;> (first | assumption | rfl), h⟩⟩
theorem q_sld_nil (sz c : Nat) : Pu P (.sld sz) [.p (.slice none 0 c)] k H = (k (.p (.pointer none)) H) := propext ⟨by rintro ⟨_, h, hk⟩; cases h <;> (try subst_vars) <;> (first | exact hk | (exact ⟨⟨_, by assumption⟩, hk⟩) | (exfalso; simp_all [AV.val]; done)), fun h => ⟨_, .sld_nil .., h⟩⟩
theorem q_slc_nil (sz : Nat) (q : IntKind) : Pu P (.slc sz false true) [.p (.slice none 0 0), .p (.int q 0)] k H = (k (.p (.slice none 0 0)) H) := propext ⟨by rintro ⟨_, h, hk⟩; cases h <;> (try subst_vars) <;> (first | exact hk | (exact ⟨⟨_, by assumption⟩, hk⟩) | (exfalso; simp_all [AV.val]; done)), fun h => ⟨_, .slc_nil .., h⟩⟩
theorem q_eqnil_p (t : TypeId) (A : Option Addr) (n c : Nat) : Pu P (.bin .eql t) [.p (.slice A n c), .p (.slice none 0 0)] k H = ((∃ e, P.underlying t = some (.slice e)) ∧ k (.p (.bool (A.isNone))) H) := propext ⟨by rintro ⟨_, h, hk⟩; cases h <;> (try subst_vars) <;> (first | exact hk | (exact ⟨by assumption, hk⟩) | (exact ⟨⟨_, by assumption⟩, hk⟩) | (exfalso; simp_all [AV.val]; done)), by rintro ⟨⟨e, he⟩, h⟩; exact ⟨_, .eqnil_p _ _ _ _ _ he, h⟩⟩
theorem q_eqnil_dsl (t : TypeId) (sz : Nat) (xs : List (List AV)) : Pu P (.bin .eql t) [.dsl sz xs, .p (.slice none 0 0)] k H = ((∃ e, P.underlying t = some (.slice e)) ∧ (0 < sz) ∧ (0 < xs.length) ∧ k (.p (.bool false)) H) := propext ⟨by rintro ⟨_, h, hk⟩; cases h <;> (try subst_vars) <;> (first | exact hk | (exact ⟨by assumption, by assumption, by assumption, hk⟩) | (exact ⟨⟨_, by assumption⟩, by assumption, by assumption, hk⟩) | (exfalso; simp_all [AV.val]; done)), by rintro ⟨⟨e, he⟩, h1, h2, h⟩; exact ⟨_, .eqnil_dsl _ _ _ _ he h1 h2, h⟩⟩
theorem q_eqnil_osl (t : TypeId) (id sz off n : Nat) : Pu P (.bin .eql t) [.osl id sz off n, .p (.slice none 0 0)] k H = ((∃ e, P.underlying t = some (.slice e)) ∧ (0 < n) ∧ k (.p (.bool false)) H) := propext ⟨by rintro ⟨_, h, hk⟩; cases h <;> (try subst_vars) <;> (first | exact hk | (exact ⟨by assumption, by assumption, hk⟩) | (exact ⟨⟨_, by assumption⟩, by assumption, hk⟩) | (exfalso; simp_all [AV.val]; done)), by rintro ⟨⟨e, he⟩, h1, h⟩; exact ⟨_, .eqnil_osl _ _ _ _ _ _ he h1, h⟩⟩
theorem q_nenil_p (t : TypeId) (A : Option Addr) (n c : Nat) : Pu P (.bin .neq t) [.p (.slice A n c), .p (.slice none 0 0)] k H = ((∃ e, P.underlying t = some (.slice e)) ∧ k (.p (.bool (!A.isNone))) H) := propext ⟨by rintro ⟨_, h, hk⟩; cases h <;> (try subst_vars) <;> (first | exact hk | (exact ⟨by assumption, hk⟩) | (exact ⟨⟨_, by assumption⟩, hk⟩) | (exfalso; simp_all [AV.val]; done)), by rintro ⟨⟨e, he⟩, h⟩; exact ⟨_, .nenil_p _ _ _ _ _ he, h⟩⟩
theorem q_nenil_dsl (t : TypeId) (sz : Nat) (xs : List (List AV)) : Pu P (.bin .neq t) [.dsl sz xs, .p (.slice none 0 0)] k H = ((∃ e, P.underlying t = some (.slice e)) ∧ (0 < sz) ∧ (0 < xs.length) ∧ k (.p (.bool true)) H) := propext ⟨by rintro ⟨_, h, hk⟩; cases h <;> (try subst_vars) <;> (first | exact hk | (exact ⟨by assumption, by assumption, by assumption, hk⟩) | (exact ⟨⟨_, by assumption⟩, by assumption, by assumption, hk⟩) | (exfalso; simp_all [AV.val]; done)), by rintro ⟨⟨e, he⟩, h1, h2, h⟩; exact ⟨_, .nenil_dsl _ _ _ _ he h1 h2, h⟩⟩
theorem q_nenil_osl (t : TypeId) (id sz off n : Nat) : Pu P (.bin .neq t) [.osl id sz off n, .p (.slice none 0 0)] k H = ((∃ e, P.underlying t = some (.slice e)) ∧ (0 < n) ∧ k (.p (.bool true)) H) := propext ⟨by rintro ⟨_, h, hk⟩; cases h <;> (try subst_vars) <;> (first | exact hk | (exact ⟨by assumption, by assumption, hk⟩) | (exact ⟨⟨_, by assumption⟩, by assumption, hk⟩) | (exfalso; simp_all [AV.val]; done)), by rintro ⟨⟨e, he⟩, h1, h⟩; exact ⟨_, .nenil_osl _ _ _ _ _ _ he h1, h⟩⟩
theorem q_mn_i (q : IntKind) (x y : Int) : Pu P .mn [.p (.int q x), .p (.int q y)] k H = (k (.p (.int q (if y < x then y else x))) H) := propext ⟨by rintro ⟨_, h, hk⟩; cases h <;> (try subst_vars) <;> (first | exact hk | (exact ⟨⟨_, by assumption⟩, hk⟩) | (exfalso; simp_all [AV.val]; done)), fun h => ⟨_, .mn_i .., h⟩⟩
theorem q_mx_i (q : IntKind) (x y : Int) : Pu P .mx [.p (.int q x), .p (.int q y)] k H = (k (.p (.int q (if y > x then y else x))) H) := propext ⟨by rintro ⟨_, h, hk⟩; cases h <;> (try subst_vars) <;> (first | exact hk | (exact ⟨⟨_, by assumption⟩, hk⟩) | (exfalso; simp_all [AV.val]; done)), fun h => ⟨_, .mx_i .., h⟩⟩
theorem q_mkfn (f : Fn) (nf : Nat) (xs : List AV) : Pu P (.mkfn f nf) xs k H = ((nf ≤ xs.length) ∧ k (.fn f (xs.take nf) (xs.drop nf)) H) := propext ⟨by rintro ⟨_, h, hk⟩; cases h <;> (try subst_vars) <;> (first | exact hk | (exact ⟨by assumption, hk⟩) | (exact ⟨⟨_, by assumption⟩, hk⟩) | (exfalso; simp_all [AV.val]; done)), fun ⟨h0, h⟩ => ⟨_, by constructor <;> (first | assumption | rfl), h⟩⟩

theorem q_eqnil_mp (t : TypeId) (id : Nat) : Pu P (.bin .eql t) [.mp id, .p (.map none)] k H = ((∃ a e, P.underlying t = some (.map a e)) ∧ k (.p (.bool false)) H) := propext ⟨by rintro ⟨_, h, hk⟩; cases h <;> (first | exact ⟨⟨_, _, by assumption⟩, hk⟩ | (exfalso; simp_all [AV.val]; done)), by rintro ⟨⟨a, e, he⟩, h⟩; exact ⟨_, .eqnil_mp _ _ _ _ he, h⟩⟩
theorem q_eqnil_mpp (t : TypeId) : Pu P (.bin .eql t) [.p (.map none), .p (.map none)] k H = ((∃ a e, P.underlying t = some (.map a e)) ∧ k (.p (.bool true)) H) := propext ⟨by rintro ⟨_, h, hk⟩; cases h <;> (first | exact ⟨⟨_, _, by assumption⟩, hk⟩ | (exfalso; simp_all [AV.val]; done)), by rintro ⟨⟨a, e, he⟩, h⟩; exact ⟨_, .eqnil_mpp _ _ _ he, h⟩⟩
theorem q_nenil_mp (t : TypeId) (id : Nat) : Pu P (.bin .neq t) [.mp id, .p (.map none)] k H = ((∃ a e, P.underlying t = some (.map a e)) ∧ k (.p (.bool true)) H) := propext ⟨by rintro ⟨_, h, hk⟩; cases h <;> (first | exact ⟨⟨_, _, by assumption⟩, hk⟩ | (exfalso; simp_all [AV.val]; done)), by rintro ⟨⟨a, e, he⟩, h⟩; exact ⟨_, .nenil_mp _ _ _ _ he, h⟩⟩
theorem q_nenil_mpp (t : TypeId) : Pu P (.bin .neq t) [.p (.map none), .p (.map none)] k H = ((∃ a e, P.underlying t = some (.map a e)) ∧ k (.p (.bool false)) H) := propext ⟨by rintro ⟨_, h, hk⟩; cases h <;> (first | exact ⟨⟨_, _, by assumption⟩, hk⟩ | (exfalso; simp_all [AV.val]; done)), by rintro ⟨⟨a, e, he⟩, h⟩; exact ⟨_, .nenil_mpp _ _ _ he, h⟩⟩
theorem q_fld_one (off n : Nat) (cs : List AV) : Pu P (.fld off n false) [.agg cs] k H = onSome cs[off]? (fun a => k a H) := propext ⟨by rintro ⟨a, h, hk⟩; cases h; exact onSome_iff.2 ⟨a, by assumption, hk⟩, fun h => by obtain ⟨a, h, hk⟩ := onSome_iff.1 h; exact ⟨a, .fld_one _ _ _ _ h, hk⟩⟩
theorem q_ext (i : Nat) (cs : List AV) : Pu P (.ext i) [.tup cs] k H = onSome cs[i]? (fun a => k a H) := propext ⟨by rintro ⟨a, h, hk⟩; cases h; exact onSome_iff.2 ⟨a, by assumption, hk⟩, fun h => by obtain ⟨a, h, hk⟩ := onSome_iff.1 h; exact ⟨a, .ext _ _ _ h, hk⟩⟩
theorem q_sidx (s : ByteArray) (q : IntKind) (i : Int) : Pu P .sidx [.p (.string s), .p (.int q i)] k H = (0 ≤ i ∧ onSome s[i.toNat]? (fun b => k (.p (.int .u8 b.toNat)) H)) := propext ⟨by rintro ⟨a, h, hk⟩; cases h; exact ⟨by assumption, onSome_iff.2 ⟨_, by assumption, hk⟩⟩, fun ⟨h, h3⟩ => by obtain ⟨b, h2, hk⟩ := onSome_iff.1 h3; exact ⟨_, .sidx _ _ _ _ h h2, hk⟩⟩
theorem q_vidx_agg (len sz : Nat) (q : IntKind) (i : Int) (cs : List AV) : Pu P (.vidx len sz true) [.agg cs, .p (.int q i)] k H = (0 ≤ i ∧ i < len ∧ i.toNat * sz + sz ≤ cs.length ∧ k (.agg ((cs.drop (i.toNat * sz)).take sz)) H) := propext ⟨by rintro ⟨a, h, hk⟩; cases h; exact ⟨by assumption, by assumption, by assumption, hk⟩, fun ⟨h1, h2, h3, hk⟩ => ⟨_, .vidx_agg _ _ _ _ _ h1 h2 h3, hk⟩⟩
theorem q_vidx_one (len sz : Nat) (q : IntKind) (i : Int) (cs : List AV) : Pu P (.vidx len sz false) [.agg cs, .p (.int q i)] k H = (0 ≤ i ∧ i < len ∧ onSome cs[i.toNat * sz]? (fun a => k a H)) := propext ⟨by rintro ⟨a, h, hk⟩; cases h; exact ⟨by assumption, by assumption, onSome_iff.2 ⟨_, by assumption, hk⟩⟩, fun ⟨h1, h2, h3⟩ => by obtain ⟨b, h4, hk⟩ := onSome_iff.1 h3; exact ⟨_, .vidx_one _ _ _ _ _ _ h1 h2 h4, hk⟩⟩
theorem q_bld (z : List AV) (pl : List (Nat × Nat)) (xs : List AV) : Pu P (.bld z pl) xs k H = (xs.all AV.part = true ∧ onSome (fillA z pl xs) (fun cs => k (.agg cs) H)) := propext ⟨by rintro ⟨a, h, hk⟩; cases h; exact ⟨by assumption, onSome_iff.2 ⟨_, by assumption, hk⟩⟩, fun ⟨h, h3⟩ => by obtain ⟨cs, h2, hk⟩ := onSome_iff.1 h3; exact ⟨_, .bld _ _ _ _ h h2, hk⟩⟩
def boxAt : Option AO → Nat → Option (List AV)
  | some (.box _ cs), off => some (cs.drop off)
  | _, _ => none
def rowAt : Option AO → Nat → Nat → Nat → Option (List AV)
  | some (.row _ sz es), sz', i, j => if sz = sz' then es[i]?.map (·.drop j) else none
  | some (.frz sz es), sz', i, j => if sz = sz' then es[i]?.map (·.drop j) else none
  | some (.crow _ sz _ es), sz', i, j => if sz = sz' then es[i]?.map (·.drop j) else none
  | _, _, _, _ => none
def atF (H : AH) : AV → Option (List AV)
  | .ptr id off => boxAt (H.get id) off
  | .eptr id sz i j => rowAt (H.get id) sz i j
  | .dptr _ xs i j => xs[i]?.map (·.drop j)
  | _ => none
theorem boxAt_box (t : TypeId) (cs : List AV) (off : Nat) : boxAt (some (.box t cs)) off = some (cs.drop off) := rfl
theorem rowAt_row (t : TypeId) (sz : Nat) (es : List (List AV)) (i j : Nat) : rowAt (some (.row t sz es)) sz i j = es[i]?.map (·.drop j) := by simp [rowAt]
theorem rowAt_crow (t : TypeId) (sz c : Nat) (es : List (List AV)) (i j : Nat) : rowAt (some (.crow t sz c es)) sz i j = es[i]?.map (·.drop j) := by simp [rowAt]
theorem rowAt_frz (sz : Nat) (es : List (List AV)) (i j : Nat) : rowAt (some (.frz sz es)) sz i j = es[i]?.map (·.drop j) := by simp [rowAt]
theorem atF_ptr (id off : Nat) : atF H (.ptr id off) = boxAt (H.get id) off := rfl
theorem atF_eptr (id sz i j : Nat) : atF H (.eptr id sz i j) = rowAt (H.get id) sz i j := rfl
theorem atF_dptr (sz : Nat) (xs : List (List AV)) (i j : Nat) : atF H (.dptr sz xs i j) = xs[i]?.map (·.drop j) := rfl
theorem atF_iff {a : AV} {ds : List AV} : AtA H a ds ↔ atF H a = some ds := by
  constructor
  · intro h
    cases h with
    | box id off t cs hg => simp [atF, boxAt, hg]
    | row id sz i j t es e hg he => simp [atF, rowAt, hg, he]
    | frz id sz i j es e hg he => simp [atF, rowAt, hg, he]
    | crow id sz i j c t es e hg he => simp [atF, rowAt, hg, he]
    | dat sz i j xs e he => simp [atF, he]
  · intro h
    cases a with
    | ptr id off =>
      rw [atF_ptr] at h
      cases hg : H.get id with
      | none => rw [hg] at h; cases h
      | some o =>
        rw [hg] at h
        cases o <;> simp only [boxAt, Option.some.injEq, reduceCtorEq] at h
        subst h; exact .box _ _ _ _ hg
    | eptr id sz i j =>
      rw [atF_eptr] at h
      cases hg : H.get id with
      | none => rw [hg] at h; cases h
      | some o =>
        rw [hg] at h
        cases o with
        | row t sz2 es =>
          simp only [rowAt] at h
          split at h
          · rename_i e; subst e
            cases he : es[i]? with
            | none => rw [he] at h; cases h
            | some e => rw [he] at h; injection h with h; subst h; exact .row _ _ _ _ _ _ _ hg he
          · cases h
        | crow t2 sz2 c2 es =>
          simp only [rowAt] at h
          split at h
          · rename_i e; subst e
            cases he : es[i]? with
            | none => rw [he] at h; cases h
            | some e => rw [he] at h; injection h with h; subst h; exact .crow _ _ _ _ _ _ _ _ hg he
          · cases h
        | frz sz2 es =>
          simp only [rowAt] at h
          split at h
          · rename_i e; subst e
            cases he : es[i]? with
            | none => rw [he] at h; cases h
            | some e => rw [he] at h; injection h with h; subst h; exact .frz _ _ _ _ _ _ hg he
          · cases h
        | _ => cases h
    | dptr sz xs i j =>
      rw [atF_dptr] at h
      cases he : xs[i]? with
      | none => rw [he] at h; cases h
      | some e => rw [he] at h; injection h with h; subst h; exact .dat _ _ _ _ _ he
    | _ => cases h
def ldF (n : Nat) : Bool → Option (List AV) → (AV → Prop) → Prop
  | true, some ds, k => n ≤ ds.length ∧ k (.agg (ds.take n))
  | false, some ds, k => onSome ds[0]? k
  | _, none, _ => False
theorem ldF_t (n : Nat) (ds : List AV) (k : AV → Prop) : ldF n true (some ds) k = (n ≤ ds.length ∧ k (.agg (ds.take n))) := rfl
theorem ldF_f (n : Nat) (ds : List AV) (k : AV → Prop) : ldF n false (some ds) k = onSome ds[0]? k := rfl
theorem rd_ld (n : Nat) (agg : Bool) (a : AV) : Rd P V (.ld n agg) [a] k H = ldF n agg (atF V a) (fun v => k v H) := propext <| by
  constructor
  · rintro ⟨v, h, hk⟩
    cases h with
    | ld_agg _ _ ds hat hn => rw [atF_iff.1 hat]; exact ⟨hn, hk⟩
    | ld_one _ _ b ds hat hb => rw [atF_iff.1 hat]; exact onSome_iff.2 ⟨_, hb, hk⟩
  · intro h
    cases ha : atF V a with
    | none => rw [ha] at h; cases agg <;> exact h.elim
    | some ds =>
      rw [ha] at h
      cases agg with
      | false => obtain ⟨b, hb, hk⟩ := onSome_iff.1 h; exact ⟨_, .ld_one _ _ _ _ (atF_iff.2 ha) hb, hk⟩
      | true => exact ⟨_, .ld_agg _ _ _ (atF_iff.2 ha) h.1, h.2⟩
theorem rds_eq (o : RO) (args : List AV) : RdS P o args k H = Rd P H o args k H := rfl
def lookF (P : Program) (kt : TypeId) (z : AV) (ok : Bool) (key : AV) : Option AO → (AV → Prop) → Prop
  | some (.map kt' _ f), k => kt' = kt ∧ Keyed P kt ∧ onSome key.val (fun u => (keyOf P kt u).isSome = true ∧ k (match f u with
    | none => if ok then .tup [z, .p (.bool false)] else z
    | some b => if ok then .tup [b, .p (.bool true)] else b))
  | _, _ => False
theorem rd_look (kt : TypeId) (z : AV) (ok : Bool) (id : Nat) (key : AV) : Rd P V (.look kt z ok) [.mp id, key] k H = lookF P kt z ok key (V.get id) (fun v => k v H) := propext <| by
  constructor
  · rintro ⟨v, h, hk⟩
    cases h with
    | look_no _ _ _ _ n f _ u hg K hu hi hf => rw [hg]; exact ⟨rfl, K, onSome_iff.2 ⟨u, hu, hi, by rw [hf]; exact hk⟩⟩
    | look_yes _ _ b _ _ n f _ u hg K hu hi hf => rw [hg]; exact ⟨rfl, K, onSome_iff.2 ⟨u, hu, hi, by rw [hf]; exact hk⟩⟩
  · intro h
    cases hg : V.get id with
    | none => rw [hg] at h; exact h.elim
    | some o =>
      rw [hg] at h
      cases o with
      | map kt2 n f =>
        obtain ⟨rfl, K, h⟩ := h
        obtain ⟨u, hu, hi, hk⟩ := onSome_iff.1 h
        cases hf : f u with
        | none => rw [hf] at hk; exact ⟨_, .look_no _ _ _ _ _ _ _ _ hg K hu hi hf, hk⟩
        | some b => rw [hf] at hk; exact ⟨_, .look_yes _ _ _ _ _ _ _ _ _ hg K hu hi hf, hk⟩
      | _ => exact h.elim
def chunks (sz : Nat) : Nat → List AV → List (List AV)
  | 0, _ => []
  | n + 1, cs => cs.take sz :: chunks sz n (cs.drop sz)
theorem chunks_flat {sz : Nat} : ∀ {es : List (List AV)}, (∀ e ∈ es, e.length = sz) → chunks sz es.length es.flatten = es
  | [], _ => rfl
  | e :: es, h => by
    have he : e.length = sz := h e (by simp)
    rw [List.length_cons, List.flatten_cons, chunks, List.take_append_of_le_length (by omega), List.take_of_length_le (by omega), List.drop_append_of_le_length (by omega), List.drop_of_length_le (by omega), List.nil_append, chunks_flat fun e he => h e (by simp [he])]
theorem chunks_spec {sz : Nat} : ∀ {n : Nat} {cs : List AV}, cs.length = n * sz → (chunks sz n cs).flatten = cs ∧ (chunks sz n cs).length = n ∧ ∀ e ∈ chunks sz n cs, e.length = sz
  | 0, cs, h => by simp at h; subst h; simp [chunks]
  | n + 1, cs, h => by
    rw [Nat.add_mul, Nat.one_mul] at h
    obtain ⟨h1, h2, h3⟩ := chunks_spec (sz := sz) (n := n) (cs := cs.drop sz) (by rw [List.length_drop]; omega)
    refine ⟨by rw [chunks, List.flatten_cons, h1, List.take_append_drop], by rw [chunks, List.length_cons, h2], fun e he => ?_⟩
    rw [chunks, List.mem_cons] at he
    rcases he with rfl | he
    · rw [List.length_take]; omega
    · exact h3 e he
theorem al_nw (id : Nat) (t : TypeId) (z : List AV) : Al id (.nw t z) [] k H = k (.ptr id 0) (H.put id (.box t z)) := propext ⟨by rintro ⟨_, _, h, hk⟩; cases h; exact hk, fun h => ⟨_, _, .nw _ _, h⟩⟩
theorem al_bx (id : Nat) (t : TypeId) (a : AV) : Al id (.bx t) [a] k H = (a.part = true ∧ k (.ptr id 0) (H.put id (.box t a.cells))) := propext ⟨by rintro ⟨_, _, h, hk⟩; cases h; exact ⟨by assumption, hk⟩, fun ⟨h1, h⟩ => ⟨_, _, .bx _ _ h1, h⟩⟩
theorem al_mm (id : Nat) (kt : TypeId) : Al id (.mm kt) [] k H = k (.mp id) (H.put id (.map kt 0 (fun _ => none))) := propext ⟨by rintro ⟨_, _, h, hk⟩; cases h; exact hk, fun h => ⟨_, _, .mm _, h⟩⟩
theorem al_ms (id t sz bytes : Nat) (z : List AV) (q q2 : IntKind) (l c : Int) : Al id (.ms t sz bytes z) [.p (.int q l), .p (.int q2 c)] k H = (0 ≤ l ∧ l ≤ c ∧ c ≤ maxLen ∧ c * bytes ≤ 140737488355328 ∧ k (.osl id sz 0 l.toNat) (H.put id (.row t sz (List.replicate l.toNat z)))) :=
  propext ⟨by rintro ⟨_, _, h, hk⟩; cases h; exact ⟨by assumption, by assumption, by assumption, by assumption, hk⟩, fun ⟨h1, h2, h3, h4, h⟩ => ⟨_, _, .ms _ _ _ _ _ _ _ _ h1 h2 h3 h4, h⟩⟩
theorem al_bs (id t sz len : Nat) (z : List AV) (pl : List (Nat × Nat)) (xs : List AV) : Al id (.bs t sz len z pl) xs k H = (xs.all AV.part = true ∧ onSome (fillA (List.replicate len z).flatten pl xs) (fun cs => cs.length = len * sz ∧ k (.osl id sz 0 len) (H.put id (.row t sz (chunks sz len cs))))) := propext <| by
  constructor
  · rintro ⟨_, _, h, hk⟩
    cases h with
    | bs _ _ _ _ _ _ es h1 h2 h3 h4 =>
      refine ⟨h1, onSome_iff.2 ⟨_, h4, ?_, ?_⟩⟩
      · subst h2
        clear h4 hk
        induction es with
        | nil => simp
        | cons e es ih => rw [List.flatten_cons, List.length_append, ih fun e he => h3 e (by simp [he]), h3 e (by simp), List.length_cons, Nat.add_mul]; omega
      · subst h2; rw [chunks_flat h3]; exact hk
  · rintro ⟨h1, h⟩
    obtain ⟨cs, h2, h3, h4⟩ := onSome_iff.1 h
    obtain ⟨g1, g2, g3⟩ := chunks_spec h3
    exact ⟨_, _, .bs _ _ _ _ _ _ _ h1 g2 g3 (by rw [g1]; exact h2), h4⟩
def elRow : Option AO → Nat → Nat → Nat → Option (List (List AV))
  | some (.row _ sz es), sz', off, n => if sz = sz' ∧ off + n ≤ es.length then some ((es.drop off).take n) else none
  | some (.frz sz es), sz', off, n => if sz = sz' ∧ off + n ≤ es.length then some ((es.drop off).take n) else none
  | some (.crow _ sz _ es), sz', off, n => if sz = sz' ∧ off + n ≤ es.length then some ((es.drop off).take n) else none
  | _, _, _, _ => none
def elF (H : AH) (sz : Nat) : AV → Option (List (List AV))
  | .dsl sz' xs => if sz' = sz then some xs else none
  | .osl id sz' off n => if sz' = sz then elRow (H.get id) sz off n else none
  | .p (.slice _ 0 _) => some []
  | _ => none
theorem elF_dsl (sz : Nat) (xs : List (List AV)) : elF H sz (.dsl sz xs) = some xs := by simp [elF]
theorem elF_nil (sz c : Nat) (A : Option Addr) : elF H sz (.p (.slice A 0 c)) = some [] := rfl
theorem elF_osl (id sz off n : Nat) : elF H sz (.osl id sz off n) = elRow (H.get id) sz off n := by simp [elF]
theorem elRow_row (t : TypeId) (sz : Nat) (es : List (List AV)) (off n : Nat) (h : off + n ≤ es.length) : elRow (some (.row t sz es)) sz off n = some ((es.drop off).take n) := by simp [elRow, h]
theorem elRow_frz (sz : Nat) (es : List (List AV)) (off n : Nat) (h : off + n ≤ es.length) : elRow (some (.frz sz es)) sz off n = some ((es.drop off).take n) := by simp [elRow, h]
theorem elRow_crow (t : TypeId) (sz c : Nat) (es : List (List AV)) (off n : Nat) (h : off + n ≤ es.length) : elRow (some (.crow t sz c es)) sz off n = some ((es.drop off).take n) := by simp [elRow, h]
theorem elF_iff {sz : Nat} {a : AV} {ys : List (List AV)} : ElA H sz a ys ↔ elF H sz a = some ys := by
  constructor
  · intro h
    cases h with
    | dsl xs => simp [elF]
    | row id off n t es hg hn => simp [elF, elRow, hg, hn]
    | frz id off n es hg hn => simp [elF, elRow, hg, hn]
    | crow id off n c t es hg hn => simp [elF, elRow, hg, hn]
    | nil_ A c => rfl
  · intro h
    cases a with
    | dsl sz2 xs =>
      simp only [elF] at h
      split at h
      · rename_i e; subst e; injection h with h; subst h; exact .dsl _
      · cases h
    | osl id sz2 off n =>
      simp only [elF] at h
      split at h
      · rename_i e; subst e
        cases hg : H.get id with
        | none => rw [hg] at h; cases h
        | some o =>
          rw [hg] at h
          cases o with
          | row t sz3 es =>
            simp only [elRow] at h
            split at h
            · rename_i e; obtain ⟨rfl, e⟩ := e; injection h with h; subst h; exact .row _ _ _ _ _ hg e
            · cases h
          | frz sz3 es =>
            simp only [elRow] at h
            split at h
            · rename_i e; obtain ⟨rfl, e⟩ := e; injection h with h; subst h; exact .frz _ _ _ _ hg e
            · cases h
          | crow t sz3 c3 es =>
            simp only [elRow] at h
            split at h
            · rename_i e; obtain ⟨rfl, e⟩ := e; injection h with h; subst h; exact .crow _ _ _ _ _ _ hg e
            · cases h
          | _ => cases h
      · cases h
    | p v =>
      unfold elF at h
      split at h
      · rename_i e; cases e
      · rename_i e; cases e
      · rename_i e; injection e with e; subst e; injection h with h; subst h; exact .nil_ _ _
      · cases h
    | _ => cases h
theorem wrs_eq (id : Nat) (o : WO) (args : List AV) : WrS P id o args k H = Wr P id o args (fun a _ => k a) H := rfl
variable {k2 : AV → AH → AH → Prop}
def stBox (n i off : Nat) (a : AV) (H : AH) (k : AH → Prop) : Option AO → Prop
  | some (.box t cs) => a.part = true ∧ a.cells.length = n ∧ off + n ≤ cs.length ∧ k (H.put i (.box t (cs.take off ++ a.cells ++ cs.drop (off + n))))
  | _ => False
theorem wr_st_ptr (id n i off : Nat) (a : AV) : Wr P id (.st n) [.ptr i off, a] k2 H = stBox n i off a H (fun H' => k2 .any H' H') (H.get i) := propext <| by
  constructor
  · rintro ⟨_, _, h, hk⟩
    cases h with
    | st_box _ _ _ t cs _ _ hg h1 h2 h3 => rw [hg]; exact ⟨h1, h2, h3, hk⟩
  · intro h
    cases hg : H.get i with
    | none => rw [hg] at h; exact h.elim
    | some o =>
      rw [hg] at h
      cases o with
      | box t cs => obtain ⟨h1, h2, h3, h4⟩ := h; exact ⟨_, _, .st_box _ _ _ _ _ _ _ hg h1 h2 h3, h4⟩
      | _ => exact h.elim
def stRow (n i sz q j : Nat) (a : AV) (H : AH) (k : AH → Prop) : Option AO → Prop
  | some (.row t sz' es) => sz' = sz ∧ onSome es[q]? (fun e => a.part = true ∧ a.cells.length = n ∧ j + n ≤ sz ∧ k (H.put i (.row t sz (es.set q (e.take j ++ a.cells ++ e.drop (j + n))))))
  | _ => False
theorem wr_st_eptr (id n i sz q j : Nat) (a : AV) : Wr P id (.st n) [.eptr i sz q j, a] k2 H = stRow n i sz q j a H (fun H' => k2 .any H' H') (H.get i) := propext <| by
  constructor
  · rintro ⟨_, _, h, hk⟩
    cases h with
    | st_row _ _ _ _ _ t es e _ _ hg he h1 h2 h3 => rw [hg]; exact ⟨rfl, onSome_iff.2 ⟨e, he, h1, h2, h3, hk⟩⟩
  · intro h
    cases hg : H.get i with
    | none => rw [hg] at h; exact h.elim
    | some o =>
      rw [hg] at h
      cases o with
      | row t sz2 es => obtain ⟨rfl, h⟩ := h; obtain ⟨e, he, h1, h2, h3, h4⟩ := onSome_iff.1 h; exact ⟨_, _, .st_row _ _ _ _ _ _ _ _ _ _ hg he h1 h2 h3, h4⟩
      | _ => exact h.elim
def appRow (id t sz bytes r off n : Nat) (H : AH) (k : AV → AH → Prop) : Option AO → Option (List (List AV)) → Prop
  | some (.row t' sz' es), some ys => t' = t ∧ sz' = sz ∧ off + n ≤ es.length ∧ n + ys.length ≤ maxLen ∧ (n + ys.length) * bytes ≤ 140737488355328 ∧ k (.osl id sz 0 (n + ys.length)) ((H.kill r).put id (.row t sz ((es.drop off).take n ++ ys)))
  | _, _ => False
theorem wr_app_osl (id t sz bytes r off n : Nat) (x : AV) : Wr P id (.app t sz bytes) [.osl r sz off n, x] k2 H = appRow id t sz bytes r off n H (fun a H' => k2 a H' H') (H.get r) (elF H sz x) := propext <| by
  constructor
  · rintro ⟨_, _, h, hk⟩
    cases h with
    | app_row _ _ _ _ _ _ es ys _ _ hg h1 h2 h3 h4 => rw [hg, elF_iff.1 h2]; exact ⟨rfl, rfl, h1, h3, h4, hk⟩
  · intro h
    cases hg : H.get r with
    | none => rw [hg] at h; exact h.elim
    | some o =>
      cases he : elF H sz x with
      | none => rw [hg, he] at h; cases o <;> exact h.elim
      | some ys =>
        rw [hg, he] at h
        cases o with
        | row t2 sz2 es => obtain ⟨rfl, rfl, h1, h2, h3, h4⟩ := h; exact ⟨_, _, .app_row _ _ _ _ _ _ _ _ _ _ hg h1 (elF_iff.2 he) h2 h3, h4⟩
        | _ => exact h.elim
def appNil (id t sz bytes : Nat) (H : AH) (k : AV → AH → Prop) : Option (List (List AV)) → Prop
  | some ys => ys.length ≤ maxLen ∧ ys.length * bytes ≤ 140737488355328 ∧ k (.osl id sz 0 ys.length) (H.put id (.row t sz ys))
  | _ => False
theorem wr_app_nil (id t sz bytes : Nat) (x : AV) : Wr P id (.app t sz bytes) [.p (.slice none 0 0), x] k2 H = appNil id t sz bytes H (fun a H' => k2 a H' H') (elF H sz x) := propext <| by
  constructor
  · rintro ⟨_, _, h, hk⟩
    cases h with
    | app_nil _ _ _ ys _ _ h2 h3 h4 => rw [elF_iff.1 h2]; exact ⟨h3, h4, hk⟩
  · intro h
    cases he : elF H sz x with
    | none => rw [he] at h; exact h.elim
    | some ys => rw [he] at h; exact ⟨_, _, .app_nil _ _ _ _ _ _ (elF_iff.2 he) h.1 h.2.1, h.2.2⟩
theorem wr_app_e (id t sz bytes : Nat) (g : Addr) (x : AV) : Wr P id (.app t sz bytes) [.p (.slice (some g) 0 0), x] k2 H = appNil id t sz bytes H (fun a H' => k2 a H' H') (elF H sz x) := propext <| by
  constructor
  · rintro ⟨_, _, h, hk⟩
    cases h with
    | app_e _ _ _ _ ys _ _ h2 h3 h4 => rw [elF_iff.1 h2]; exact ⟨h3, h4, hk⟩
  · intro h
    cases he : elF H sz x with
    | none => rw [he] at h; exact h.elim
    | some ys => rw [he] at h; exact ⟨_, _, .app_e _ _ _ _ _ _ _ (elF_iff.2 he) h.1 h.2.1, h.2.2⟩
def msetF (P : Program) (kt i : Nat) (key a : AV) (H : AH) (k : AH → Prop) : Option AO → Prop
  | some (.map kt' n f) => kt' = kt ∧ Keyed P kt ∧ onSome key.val (fun u => (keyOf P kt u).isSome = true ∧ n < maxLen ∧ k (H.put i (.map kt (n + 1) (putA f u a))))
  | _ => False
theorem q_mset (id kt i : Nat) (key a : AV) : Wr P id (.mset kt) [.mp i, key, a] k2 H = msetF P kt i key a H (fun H' => k2 .any H' H') (H.get i) := propext <| by
  constructor
  · rintro ⟨_, _, h, hk⟩
    cases h with
    | mset _ _ n f _ _ u _ hg K hu hi hn => rw [hg]; exact ⟨rfl, K, onSome_iff.2 ⟨u, hu, hi, hn, hk⟩⟩
  · intro h
    cases hg : H.get i with
    | none => rw [hg] at h; exact h.elim
    | some o =>
      rw [hg] at h
      cases o with
      | map kt2 n f => obtain ⟨rfl, K, h⟩ := h; obtain ⟨u, hu, hi, hn, hk⟩ := onSome_iff.1 h; exact ⟨_, _, .mset _ _ _ _ _ _ _ _ hg K hu hi hn, hk⟩
      | _ => exact h.elim
theorem wr_apz_nil (id t sz bytes : Nat) (z : List AV) (q : IntKind) (n : Int) : Wr P id (.apz t sz bytes z) [.p (.slice none 0 0), .p (.int q n)] k2 H = (0 ≤ n ∧ n ≤ maxLen ∧ n * bytes ≤ 140737488355328 ∧ k2 (.osl id sz 0 n.toNat) (H.put id (.row t sz (List.replicate n.toNat z))) (H.put id (.row t sz (List.replicate n.toNat z)))) := propext <| by
  constructor
  · rintro ⟨_, _, h, hk⟩
    cases h with
    | apz _ _ _ _ _ _ _ h1 h2 h3 => exact ⟨h1, h2, h3, hk⟩
  · rintro ⟨h1, h2, h3, hk⟩
    exact ⟨_, _, .apz _ _ _ _ _ _ _ h1 h2 h3, hk⟩
def clrRow (r sz off n : Nat) (z : List AV) (H : AH) (k : AH → Prop) : Option AO → Prop
  | some (.row t sz' es) => sz' = sz ∧ off + n ≤ es.length ∧ k (H.put r (.row t sz (es.take off ++ List.replicate n z ++ es.drop (off + n))))
  | _ => False
theorem wr_clr_osl (id sz r off n : Nat) (z : List AV) : Wr P id (.clr sz z) [.osl r sz off n] k2 H = clrRow r sz off n z H (fun H' => k2 .any H' H') (H.get r) := propext <| by
  constructor
  · rintro ⟨_, _, h, hk⟩
    cases h with
    | clr _ _ _ _ _ t es _ hg h1 => rw [hg]; exact ⟨rfl, h1, hk⟩
  · intro h
    cases hg : H.get r with
    | none => rw [hg] at h; exact h.elim
    | some o =>
      rw [hg] at h
      cases o with
      | row t sz2 es => obtain ⟨rfl, h1, h2⟩ := h; exact ⟨_, _, .clr _ _ _ _ _ _ _ _ hg h1, h2⟩
      | _ => exact h.elim
def apsRow (id t sz bytes r off n : Nat) (q : ByteArray) (H : AH) (k : AV → AH → Prop) : Option AO → Prop
  | some (.row t' sz' es) => t' = t ∧ sz' = sz ∧ off + n ≤ es.length ∧ n + (strE q).length ≤ maxLen ∧ (n + (strE q).length) * bytes ≤ 140737488355328 ∧ k (.osl id sz 0 (n + (strE q).length)) ((H.kill r).put id (.row t sz ((es.drop off).take n ++ strE q)))
  | _ => False
theorem wr_aps_osl (id t sz bytes r off n : Nat) (q : ByteArray) : Wr P id (.aps t sz bytes) [.osl r sz off n, .p (.string q)] k2 H = apsRow id t sz bytes r off n q H (fun a H' => k2 a H' H') (H.get r) := propext <| by
  constructor
  · rintro ⟨_, _, h, hk⟩
    cases h with
    | aps_row _ _ _ _ _ _ es _ _ hg h1 h3 h4 => rw [hg]; exact ⟨rfl, rfl, h1, h3, h4, hk⟩
  · intro h
    cases hg : H.get r with
    | none => rw [hg] at h; exact h.elim
    | some o =>
      rw [hg] at h
      cases o with
      | row t2 sz2 es => obtain ⟨rfl, rfl, h1, h2, h3, h4⟩ := h; exact ⟨_, _, .aps_row _ _ _ _ _ _ _ _ _ hg h1 h2 h3, h4⟩
      | _ => exact h.elim
theorem wr_aps_nil (id t sz bytes : Nat) (q : ByteArray) : Wr P id (.aps t sz bytes) [.p (.slice none 0 0), .p (.string q)] k2 H = ((strE q).length ≤ maxLen ∧ (strE q).length * bytes ≤ 140737488355328 ∧ k2 (.osl id sz 0 (strE q).length) (H.put id (.row t sz (strE q))) (H.put id (.row t sz (strE q)))) := propext <| by
  constructor
  · rintro ⟨_, _, h, hk⟩
    cases h with
    | aps_nil _ _ _ _ _ h1 h2 => exact ⟨h1, h2, hk⟩
  · rintro ⟨h1, h2, hk⟩
    exact ⟨_, _, .aps_nil _ _ _ _ _ h1 h2, hk⟩
def ustRow (t r i : Nat) (n : Int) (H : AH) (k : AV → AH → Prop) : Option AO → Prop
  | some (.row t' sz' es) => t' = t ∧ sz' = 1 ∧ 0 < n ∧ i + n.toNat ≤ es.length ∧ ∃ q, (es.drop i).take n.toNat = strE q ∧ k (.p (.string q)) (H.kill r)
  | _ => False
theorem wr_ust_row (id t r i : Nat) (n : Int) : Wr P id (.ust t) [.eptr r 1 i 0, .p (.int .i64 n)] k2 H = ustRow t r i n H (fun a H' => k2 a H' H') (H.get r) := propext <| by
  constructor
  · rintro ⟨_, _, h, hk⟩
    cases h with
    | ust_row _ _ _ m es q _ hg h1 h2 h3 => rw [hg]; exact ⟨rfl, rfl, by omega, by rw [Int.toNat_natCast]; exact h2, q, by rw [Int.toNat_natCast]; exact h3, hk⟩
  · intro h
    cases hg : H.get r with
    | none => rw [hg] at h; exact h.elim
    | some o =>
      rw [hg] at h
      cases o with
      | row t2 sz2 es =>
        obtain ⟨rfl, rfl, h1, h2, q, h3, h4⟩ := h
        obtain ⟨m, rfl⟩ := Int.eq_ofNat_of_zero_le (Int.le_of_lt h1)
        rw [Int.toNat_natCast] at h2 h3
        exact ⟨_, _, .ust_row _ _ _ _ _ _ _ hg (by omega) h2 h3, h4⟩
      | _ => exact h.elim
theorem wr_ust_nil (id t : Nat) : Wr P id (.ust t) [.p (.pointer none), .p (.int .i64 0)] k2 H = k2 (.p (.string .empty)) H H := propext <| by
  constructor
  · rintro ⟨_, _, h, hk⟩
    cases h; exact hk
  · intro hk
    exact ⟨_, _, .ust_nil _ _, hk⟩
theorem rd_bstr_eq (x : AV) : Rd P V .bstr [x] k H = onSome (elF V 1 x) (fun es => ∃ q, es = strE q ∧ k (.p (.string q)) H) := propext <| by
  constructor
  · rintro ⟨_, h, hk⟩
    cases h with
    | bstr _ q hel => exact onSome_iff.2 ⟨_, elF_iff.1 hel, q, rfl, hk⟩
  · intro h
    obtain ⟨es, he, q, rfl, hk⟩ := onSome_iff.1 h
    exact ⟨_, .bstr _ _ (elF_iff.2 he), hk⟩
theorem wf_st (V : AH) (tgt src : Option Nat) (id n i off : Nat) (a : AV) : WrF V tgt src id (.st n) [.ptr i off, a] k H = (tgt = some i ∧ V.get i = none ∧ stBox n i off a H (fun H' => k .any H') (H.get i)) := propext <| by
  constructor
  · rintro ⟨_, _, h, hk⟩
    cases h with
    | st _ _ _ t cs _ _ h1 h2 hg h3 h4 h5 => rw [hg]; exact ⟨h1, h2, h3, h4, h5, hk⟩
  · rintro ⟨h1, h2, h⟩
    cases hg : H.get i with
    | none => rw [hg] at h; exact h.elim
    | some o =>
      rw [hg] at h
      cases o with
      | box t cs => obtain ⟨h3, h4, h5, h6⟩ := h; exact ⟨_, _, .st _ _ _ _ _ _ _ h1 h2 hg h3 h4 h5, h6⟩
      | _ => exact h.elim
theorem cd_eq (c : Bool) (X Y : AH → Prop) : CdA (.p (.bool c)) X Y H = ((c = true → X H) ∧ (c = false → Y H)) := propext ⟨by rintro ⟨b, h, hk⟩; cases h; exact hk, fun h => ⟨c, rfl, h⟩⟩
theorem gd_eq (c want : Bool) (F : (AV → AH → Prop) → AH → Prop) : Gd (.p (.bool c)) want F k H = ((c = want → F k H) ∧ (c ≠ want → k (.tup []) H)) := propext ⟨by
  rintro ⟨b, h, h1, h2⟩
  cases b with
  | none => cases h
  | some b => cases h; exact ⟨fun e => h1 (by rw [e]), fun e => h2 (fun e2 => e (by injection e2))⟩, fun ⟨h1, h2⟩ => ⟨some c, rfl, fun e => h1 (by injection e), fun e => h2 (fun e2 => e (by rw [e2]))⟩⟩
theorem gdv_eq (c want : Bool) (F : (AV → AH → AH → Prop) → AH → Prop) : GdV (.p (.bool c)) want F V k2 H = ((c = want → F k2 H) ∧ (c ≠ want → k2 (.tup []) V H)) := propext ⟨by
  rintro ⟨b, h, h1, h2⟩
  cases b with
  | none => cases h
  | some b => cases h; exact ⟨fun e => h1 (by rw [e]), fun e => h2 (fun e2 => e (by injection e2))⟩, fun ⟨h1, h2⟩ => ⟨some c, rfl, fun e => h1 (by injection e), fun e => h2 (fun e2 => e (by rw [e2]))⟩⟩
theorem gd_sk (want : Bool) (F : (AV → AH → Prop) → AH → Prop) : Gd (.tup []) want F k H = k (.tup []) H := propext ⟨by
  rintro ⟨b, h, h1, h2⟩
  cases b with
  | some b => cases h
  | none => exact h2 (by simp), fun h => ⟨none, rfl, fun e => (by cases e), fun _ => h⟩⟩
theorem gdv_sk (want : Bool) (F : (AV → AH → AH → Prop) → AH → Prop) : GdV (.tup []) want F V k2 H = k2 (.tup []) V H := propext ⟨by
  rintro ⟨b, h, h1, h2⟩
  cases b with
  | some b => cases h
  | none => exact h2 (by simp), fun h => ⟨none, rfl, fun e => (by cases e), fun _ => h⟩⟩
theorem cd_t (X Y : AH → Prop) : CdA (.p (.bool true)) X Y H = X H := by rw [cd_eq]; simp
theorem cd_f (X Y : AH → Prop) : CdA (.p (.bool false)) X Y H = Y H := by rw [cd_eq]; simp
theorem gd_tt (F : (AV → AH → Prop) → AH → Prop) : Gd (.p (.bool true)) true F k H = F k H := by rw [gd_eq]; simp
theorem gd_ff (F : (AV → AH → Prop) → AH → Prop) : Gd (.p (.bool false)) false F k H = F k H := by rw [gd_eq]; simp
theorem gd_tf (F : (AV → AH → Prop) → AH → Prop) : Gd (.p (.bool true)) false F k H = k (.tup []) H := by rw [gd_eq]; simp
theorem gd_ft (F : (AV → AH → Prop) → AH → Prop) : Gd (.p (.bool false)) true F k H = k (.tup []) H := by rw [gd_eq]; simp
theorem gdv_tt (F : (AV → AH → AH → Prop) → AH → Prop) : GdV (.p (.bool true)) true F V k2 H = F k2 H := by rw [gdv_eq]; simp
theorem gdv_ff (F : (AV → AH → AH → Prop) → AH → Prop) : GdV (.p (.bool false)) false F V k2 H = F k2 H := by rw [gdv_eq]; simp
theorem gdv_tf (F : (AV → AH → AH → Prop) → AH → Prop) : GdV (.p (.bool true)) false F V k2 H = k2 (.tup []) V H := by rw [gdv_eq]; simp
theorem gdv_ft (F : (AV → AH → AH → Prop) → AH → Prop) : GdV (.p (.bool false)) true F V k2 H = k2 (.tup []) V H := by rw [gdv_eq]; simp
/-- a truth that is first told as short as can be: what waits behind it is not looked at -/
def bm (b : Bool) : Bool := b
def bm' (b : Bool) : Bool := b
theorem bm_eq (b : Bool) : bm b = bm' b := rfl
def CdB (c : Bool) (X Y : AH → Prop) (H : AH) : Prop := (c = true → X H) ∧ (c = false → Y H)
def GdB (c want : Bool) (F : (AV → AH → Prop) → AH → Prop) (k : AV → AH → Prop) (H : AH) : Prop := (c = want → F k H) ∧ (c ≠ want → k (.tup []) H)
def GvB (c want : Bool) (F : (AV → AH → AH → Prop) → AH → Prop) (V : AH) (k : AV → AH → AH → Prop) (H : AH) : Prop := (c = want → F k H) ∧ (c ≠ want → k (.tup []) V H)
theorem cd_b (c : Bool) (X Y : AH → Prop) : CdA (.p (.bool c)) X Y H = CdB (bm c) X Y H := cd_eq c X Y
theorem gd_b (c want : Bool) (F : (AV → AH → Prop) → AH → Prop) : Gd (.p (.bool c)) want F k H = GdB (bm c) want F k H := gd_eq c want F
theorem gdv_b (c want : Bool) (F : (AV → AH → AH → Prop) → AH → Prop) : GdV (.p (.bool c)) want F V k2 H = GvB (bm c) want F V k2 H := gdv_eq c want F
theorem cdb_congr {c c' : Bool} {X Y : AH → Prop} (h : c = c') : CdB c X Y H = CdB c' X Y H := by rw [h]
theorem gdb_congr {c c' b : Bool} {F : (AV → AH → Prop) → AH → Prop} (h : c = c') : GdB c b F k H = GdB c' b F k H := by rw [h]
theorem gvb_congr {c c' b : Bool} {F : (AV → AH → AH → Prop) → AH → Prop} (h : c = c') : GvB c b F V k2 H = GvB c' b F V k2 H := by rw [h]
theorem cdb_t (X Y : AH → Prop) : CdB (bm' true) X Y H = X H := propext ⟨fun h => h.1 rfl, fun h => ⟨fun _ => h, fun e => by cases e⟩⟩
theorem cdb_f (X Y : AH → Prop) : CdB (bm' false) X Y H = Y H := propext ⟨fun h => h.2 rfl, fun h => ⟨fun e => (by cases e), fun _ => h⟩⟩
theorem cdb_eq (c : Bool) (X Y : AH → Prop) : CdB (bm' c) X Y H = ((c = true → X H) ∧ (c = false → Y H)) := rfl
theorem gdb_tt (F : (AV → AH → Prop) → AH → Prop) : GdB (bm' true) true F k H = F k H := propext ⟨fun h => h.1 rfl, fun h => ⟨fun _ => h, fun e => absurd rfl e⟩⟩
theorem gdb_ff (F : (AV → AH → Prop) → AH → Prop) : GdB (bm' false) false F k H = F k H := propext ⟨fun h => h.1 rfl, fun h => ⟨fun _ => h, fun e => absurd rfl e⟩⟩
theorem gdb_tf (F : (AV → AH → Prop) → AH → Prop) : GdB (bm' true) false F k H = k (.tup []) H := propext ⟨fun h => h.2 (by decide), fun h => ⟨fun e => (by cases e), fun _ => h⟩⟩
theorem gdb_ft (F : (AV → AH → Prop) → AH → Prop) : GdB (bm' false) true F k H = k (.tup []) H := propext ⟨fun h => h.2 (by decide), fun h => ⟨fun e => (by cases e), fun _ => h⟩⟩
theorem gdb_eq (c want : Bool) (F : (AV → AH → Prop) → AH → Prop) : GdB (bm' c) want F k H = ((c = want → F k H) ∧ (c ≠ want → k (.tup []) H)) := rfl
theorem gvb_tt (F : (AV → AH → AH → Prop) → AH → Prop) : GvB (bm' true) true F V k2 H = F k2 H := propext ⟨fun h => h.1 rfl, fun h => ⟨fun _ => h, fun e => absurd rfl e⟩⟩
theorem gvb_ff (F : (AV → AH → AH → Prop) → AH → Prop) : GvB (bm' false) false F V k2 H = F k2 H := propext ⟨fun h => h.1 rfl, fun h => ⟨fun _ => h, fun e => absurd rfl e⟩⟩
theorem gvb_tf (F : (AV → AH → AH → Prop) → AH → Prop) : GvB (bm' true) false F V k2 H = k2 (.tup []) V H := propext ⟨fun h => h.2 (by decide), fun h => ⟨fun e => (by cases e), fun _ => h⟩⟩
theorem gvb_ft (F : (AV → AH → AH → Prop) → AH → Prop) : GvB (bm' false) true F V k2 H = k2 (.tup []) V H := propext ⟨fun h => h.2 (by decide), fun h => ⟨fun e => (by cases e), fun _ => h⟩⟩
theorem gvb_eq (c want : Bool) (F : (AV → AH → AH → Prop) → AH → Prop) : GvB (bm' c) want F V k2 H = ((c = want → F k2 H) ∧ (c ≠ want → k2 (.tup []) V H)) := rfl
theorem pick_t (a b : AV) : Pu P .pick [.p (.bool true), a, b] k H = k a H := by rw [q_pick]; simp
theorem pick_f (a b : AV) : Pu P .pick [.p (.bool false), a, b] k H = k b H := by rw [q_pick]; simp
theorem onSome_congr {α : Type} {o o' : Option α} {k : α → Prop} (h : o = o') : onSome o k = onSome o' k := by rw [h]
theorem pu_congr {o : PO} {a a' : List AV} (h : a = a') : Pu P o a k H = Pu P o a' k H := by rw [h]
theorem rds_congr {o : RO} {a a' : List AV} (h : a = a') : RdS P o a k H = RdS P o a' k H := by rw [h]
theorem rd_congr {o : RO} {a a' : List AV} (h : a = a') : Rd P V o a k H = Rd P V o a' k H := by rw [h]
theorem al_congr {id : Nat} {o : AOp} {a a' : List AV} (h : a = a') : Al id o a k H = Al id o a' k H := by rw [h]
theorem wr_congr {id : Nat} {o : WO} {a a' : List AV} (h : a = a') : Wr P id o a k2 H = Wr P id o a' k2 H := by rw [h]
theorem wrs_congr {id : Nat} {o : WO} {a a' : List AV} (h : a = a') : WrS P id o a k H = WrS P id o a' k H := by rw [h]
theorem wrf_congr {tgt src : Option Nat} {id : Nat} {o : WO} {a a' : List AV} (h : a = a') : WrF V tgt src id o a k H = WrF V tgt src id o a' k H := by rw [h]
theorem ca_congr {f f' : AV} {a a' : List AV} (h1 : f = f') (h : a = a') : Ca P f a k H = Ca P f' a' k H := by rw [h, h1]
theorem cak_congr {f f' : AV} {a a' : List AV} (h1 : f = f') (h : a = a') : CaK P V f a k H = CaK P V f' a' k H := by rw [h, h1]
theorem cav_congr {f f' : AV} {a a' : List AV} (h1 : f = f') (h : a = a') : CaV P V f a k H = CaV P V f' a' k H := by rw [h, h1]
theorem loop_congr {m : Nat} {F : List AV → (List AV → AH → Prop) → AH → Prop} {a a' : List AV} (h : a = a') : LoopA P m F a H = LoopA P m F a' H := by rw [h]
theorem cut_congr {m : Nat} {A : (List AV → AH → Prop) → AH → Prop} {K : List AV → AH → Prop} : CutA P m A K H = CutA P m A K H := rfl
theorem rt_congr {B : Nat} {a a' : AV} {Q : AV → AH → Prop} (h : a = a') : Rt P B a Q H = Rt P B a' Q H := by rw [h]
theorem ldF_congr {n : Nat} {b : Bool} {o o' : Option (List AV)} {k : AV → Prop} (h : o = o') : ldF n b o k = ldF n b o' k := by rw [h]
theorem lookF_congr {kt : TypeId} {z key : AV} {ok : Bool} {o o' : Option AO} {k : AV → Prop} (h : o = o') : lookF P kt z ok key o k = lookF P kt z ok key o' k := by rw [h]
theorem stBox_congr {n i off : Nat} {a : AV} {k : AH → Prop} {o o' : Option AO} (h : o = o') : stBox n i off a H k o = stBox n i off a H k o' := by rw [h]
theorem stRow_congr {n i sz q j : Nat} {a : AV} {k : AH → Prop} {o o' : Option AO} (h : o = o') : stRow n i sz q j a H k o = stRow n i sz q j a H k o' := by rw [h]
theorem appRow_congr {id t sz bytes r off n : Nat} {o o' : Option AO} {e e' : Option (List (List AV))} (h : o = o') (h2 : e = e') : appRow id t sz bytes r off n H k o e = appRow id t sz bytes r off n H k o' e' := by rw [h, h2]
theorem appNil_congr {id t sz bytes : Nat} {e e' : Option (List (List AV))} (h2 : e = e') : appNil id t sz bytes H k e = appNil id t sz bytes H k e' := by rw [h2]
theorem msetF_congr {kt i : Nat} {key a : AV} {k : AH → Prop} {o o' : Option AO} (h : o = o') : msetF P kt i key a H k o = msetF P kt i key a H k o' := by rw [h]
theorem apsRow_congr {id t sz bytes r off n : Nat} {q : ByteArray} {k : AV → AH → Prop} {o o' : Option AO} (h : o = o') : apsRow id t sz bytes r off n q H k o = apsRow id t sz bytes r off n q H k o' := by rw [h]
theorem ustRow_congr {t r i : Nat} {n : Int} {k : AV → AH → Prop} {o o' : Option AO} (h : o = o') : ustRow t r i n H k o = ustRow t r i n H k o' := by rw [h]
theorem clrRow_congr {r sz off n : Nat} {z : List AV} {k : AH → Prop} {o o' : Option AO} (h : o = o') : clrRow r sz off n z H k o = clrRow r sz off n z H k o' := by rw [h]
theorem rdn_eq (sl : List Nat) (o : RO) (args : List AV) : RdN P V sl o args k H = Rd P (mixV V H sl) o args k H := rfl
theorem mixV_nil : mixV V H [] = V := rfl
theorem mixV_cons (i : Nat) (r : List Nat) : mixV V H (i :: r) = mixO (H.get i) i (mixV V H r) := rfl
theorem mixO_some (o : AO) (i : Nat) : mixO (some o) i H = H.put i o := rfl
theorem mixO_none (i : Nat) : mixO none i H = H := rfl
theorem car_congr {sl : List Nat} {id : Nat} {f f' : AV} {a a' : List AV} (h1 : f = f') (h : a = a') : CaR P V id sl f a k H = CaR P V id sl f' a' k H := by rw [h, h1]
theorem wro_congr {b id : Nat} {src : Option Nat} {o : WO} {a a' : List AV} (h : a = a') : WrO V b src id o a k H = WrO V b src id o a' k H := by rw [h]
theorem delL_nil : delL H [] = H := rfl
theorem delL_cons (i : Nat) (r : List Nat) : delL H (i :: r) = (delL H r).del i := rfl
theorem del_nx (i : Nat) : (H.del i).nx = H.nx := rfl
theorem del_get (i : Nat) : (H.del i).get i = none := AH.get_del_self
theorem del_get_ne (i j : Nat) (h : j ≠ i) : (H.del i).get j = H.get j := AH.get_del_ne h
theorem cap_congr {b : Nat} {sl : List Nat} {f f' : AV} {a a' : List AV} {k : AV → AH → AH → Prop} (h1 : f = f') (h : a = a') : CaP P V b sl f a k H = CaP P V b sl f' a' k H := by rw [h, h1]
theorem can_congr {sl : List Nat} {f f' : AV} {a a' : List AV} (h1 : f = f') (h : a = a') : CaN P V sl f a k H = CaN P V sl f' a' k H := by rw [h, h1]
theorem rg_eq (m : Nat) (F : Nat → AH → Prop) : Rg m F H = F H.nx (H.up m) := rfl
theorem vw_eq (F : AH → AH → Prop) : Vw F H = F H H := rfl
theorem both_eq (X Y : AH → Prop) : BothA X Y H = (X H ∧ Y H) := rfl
theorem up_get (n i : Nat) : (H.up n).get i = H.get i := rfl
theorem up_nx (n : Nat) : (H.up n).nx = H.nx + n := rfl
theorem put_nx (i : Nat) (o : AO) : (H.put i o).nx = H.nx := rfl
theorem kill_nx (i : Nat) : (H.kill i).nx = H.nx := rfl
theorem put_get (i : Nat) (o : AO) : (H.put i o).get i = some o := AH.get_put_self
theorem put_get_ne (i j : Nat) (o : AO) (h : j ≠ i) : (H.put i o).get j = H.get j := AH.get_put_ne h
theorem kill_get_ne (i j : Nat) (h : j ≠ i) : (H.kill i).get j = H.get j := AH.get_put_ne h
end
end Go.Proofs.Ytgkkilbeingleaa

/- Ghost steps and contracts of abstract walks: what is let go, what is frozen, what is handed on. Nothing of the program is named here. -/
namespace Go.Proofs.Ytgkkilbeingleaa
open Go.RowKit Go.Maps

section
variable {P : Program} {w : World} {S : Nat → Prop} {σ : Nat → Option Value} {H H0 H1 H2 V : AH} {B : Nat}
/-- what was laid since is let go: the memory is as it was -/
theorem GW.back {vs : List AV} (hw : WF H0) (hg : H0.le H1) (hc : Clo H0.nx vs) : GW P H0.nx vs H1 vs H0 := by
  intro w S σ us hs hr
  have hcut : ∀ id u, cutS H0.nx σ id = some u → σ id = some u := fun id u h => (cutS_some h).2
  have hbl : ∀ {id b}, (cutS H0.nx σ id).bind blkOf = some b → (σ id).bind blkOf = some b := fun {id b} h => by
    cases hx : cutS H0.nx σ id with
    | none => rw [hx] at h; cases h
    | some u => rw [hx] at h; rw [hcut _ _ hx]; exact h
  refine ⟨S, cutS H0.nx σ, ⟨hs.sb, fun id u h => (cutS_some h).1, fun id o ho => (hs.obj id o (hg _ _ ho)).cut (hw id o ho).1 (hw id o ho).2, fun i j o o' b h1 h2 k1 k2 b1 b2 => hs.dj i j o o' b (hg _ _ h1) (hg _ _ h2) k1 k2 (hbl b1) (hbl b2), fun i o b h1 k1 b1 => hs.sep i o b (hg _ _ h1) k1 (hbl b1), fun i A n c h => hs.sl i A n c (hcut _ _ h)⟩, hc.rps hr, fun _ h => h, fun _ h => .inl h, ?_, fun id h => cutS_lt h, Nat.le_refl _⟩
  rintro b ⟨i, o, h1, h2, h3⟩
  exact ⟨i, o, hg _ _ h1, h2, hbl h3⟩
theorem GW.refl {vs : List AV} (h : B ≤ H.nx) : GW P B vs H vs H := fun w S σ us hs hr => ⟨S, σ, hs, hr, fun _ h => h, fun _ h => .inl h, fun _ h => h, fun _ _ => rfl, h⟩
theorem GW.trans {a b c : List AV} (h : GW P B a H0 b H1) (k : GW P B b H1 c H2) : GW P B a H0 c H2 := fun w S σ us hs hr => by
  obtain ⟨S', σ', h1, h2, h3, h4, h5, h6, h7⟩ := h w S σ us hs hr
  obtain ⟨S2, σ2, k1, k2, k3, k4, k5, k6, k7⟩ := k w S' σ' us h1 h2
  exact ⟨S2, σ2, k1, k2, fun b hb => k3 b (h3 b hb), fun b hb => (k4 b hb).elim (fun h => h4 b h) (fun h => .inr (h5 b h)), fun b hb => h5 b (k5 b hb), fun id hi => (k6 id hi).trans (h6 id hi), k7⟩
theorem GW.st {vs : List AV} (h : Gst P H H2) (hb : B ≤ H.nx) : GW P B vs H vs H2 := fun w S σ us hs hr => by
  obtain ⟨S', h1, h2, h3, h4⟩ := h.2 w S σ hs
  exact ⟨S', σ, h1, hr.mono h2 (fun _ _ => rfl) (fun _ _ h => h), h2, h3, h4, fun _ _ => rfl, Nat.le_trans hb h.1⟩
theorem Gh.refl {vs : List AV} {J : List AV → AH → Prop} (h : J vs H) (hb : B ≤ H.nx) : Gh P B vs H J := ⟨vs, H, .refl hb, h⟩
theorem Gh.back {vs : List AV} {J : List AV → AH → Prop} (hw : WF H0) (hg : H0.le H1) (hc : Clo H0.nx vs) (h : J vs H0) : Gh P H0.nx vs H1 J := ⟨vs, H0, .back hw hg hc, h⟩
theorem Gh.step {vs vs' : List AV} {J : List AV → AH → Prop} (h : GW P B vs H vs' H2) (k : Gh P B vs' H2 J) : Gh P B vs H J := by
  obtain ⟨v, h3, k1, k2⟩ := k; exact ⟨v, h3, h.trans k1, k2⟩
/-- one telling stands for another one -/
def Sub (P : Program) (H : AH) (a a' : AV) : Prop := ∀ w S σ u, Sat P w S σ H → Rp w S σ a u → Rp w S σ a' u
def Subs (P : Program) (H : AH) (ps qs : List AV) : Prop := ps.length = qs.length ∧ ∀ (i : Nat) (a b : AV), ps[i]? = some a → qs[i]? = some b → Sub P H a b
theorem Subs.rps {ps qs : List AV} (h : Subs P H ps qs) (hs : Sat P w S σ H) {us : List Value} (hr : Rps w S σ ps us) : Rps w S σ qs us := by
  refine ⟨h.1.symm.trans hr.1, fun i b u hb hu => ?_⟩
  have hi := (List.getElem?_eq_some_iff.1 hb).1
  have ha := List.getElem?_eq_getElem (l := ps) (i := i) (by rw [h.1]; exact hi)
  exact h.2 i _ b ha hb w S σ u hs (hr.2 i _ u ha hu)
theorem Sub.refl (a : AV) : Sub P H a a := fun _ _ _ _ _ h => h
theorem Sub.any (a : AV) : Sub P H a .any := fun _ _ _ _ _ _ => .any _
theorem Subs.nil : Subs P H [] [] := ⟨rfl, fun i a b h => by simp at h⟩
theorem Subs.cons {a b : AV} {ps qs : List AV} (h : Sub P H a b) (k : Subs P H ps qs) : Subs P H (a :: ps) (b :: qs) := by
  refine ⟨by simp [k.1], fun i x y hx hy => ?_⟩
  cases i with
  | zero => simp at hx hy; subst hx; subst hy; exact h
  | succ i => exact k.2 i x y (by simpa using hx) (by simpa using hy)
theorem Subs.refl : ∀ (ps : List AV), Subs P H ps ps
  | [] => .nil
  | a :: r => .cons (.refl a) (.refl r)
theorem Sub.tup {ps qs : List AV} (h : Subs P H ps qs) : Sub P H (.tup ps) (.tup qs) := fun w S σ u hs hr => by
  obtain ⟨vs, rfl, hv⟩ := hr.tup_inv
  exact Rps.tup (h.rps hs hv)
theorem Sub.agg {ps qs : List AV} (h : Subs P H ps qs) : Sub P H (.agg ps) (.agg qs) := fun w S σ u hs hr => by
  obtain ⟨vs, rfl, hv, h1⟩ := hr.agg_inv
  have := h.rps hs hv
  exact .agg _ _ (by simpa using this.1) (fun i a v ha hv => this.2 i a v ha (by simpa using hv)) h1
theorem Sub.nil (sz c : Nat) (hc : c ≤ maxLen) : Sub P H (.p (.slice none 0 c)) (.dsl sz []) := fun w S σ u _ hr => by
  obtain ⟨rfl, _⟩ := hr.p_inv
  exact .data _ _ (.dsl _ _ _ c (fun _ _ => .bool false) (Nat.zero_le _) hc (by simp) (by simp) (by simp) (fun _ _ => rfl))
theorem Gst.freeze {r : Nat} {t : TypeId} {sz : Nat} {es : List (List AV)} (hg : H.get r = some (.row t sz es)) (hd : DtR es) : Gst P H (H.put r (.frz sz es)) :=
  ⟨Nat.le_refl _, fun _ _ _ hs => hs.freeze hg hd⟩
theorem Sub.frz {r sz off n : Nat} {es : List (List AV)} (hg : H.get r = some (.frz sz es)) (hn : off + n ≤ es.length) : Sub P H (.osl r sz off n) (.dsl sz ((es.drop off).take n)) := fun w S σ u hs hr => by
  obtain ⟨A, Bx, N, c, cc, rfl, hσ, h1, h2, h3⟩ := hr.osl_inv
  obtain ⟨A', c', k1, k2⟩ := hs.obj r _ hg
  rw [hσ] at k1
  simp only [Option.some.injEq, Value.slice.injEq] at k1
  obtain ⟨rfl, rfl, rfl⟩ := k1
  obtain ⟨A2, c2, z, e1, r1, r2, r3, r4, r5, r6⟩ := k2.dsl_inv
  simp only [Value.slice.injEq] at e1
  obtain ⟨rfl, _, rfl⟩ := e1
  have hl : ((es.drop off).take n).length = n := by rw [List.length_take, List.length_drop]; omega
  have hget : ∀ i e, ((es.drop off).take n)[i]? = some e → i < n ∧ es[off + i]? = some e := by
    intro i e he
    rw [List.getElem?_take] at he
    split at he
    · rw [List.getElem?_drop] at he; exact ⟨by assumption, he⟩
    · cases he
  have := RpD.dsl (w := w) (S := S) sz ((es.drop off).take n) Bx cc (fun i j => z (off + i) j) (by omega) (by omega) (fun e he => r3 e (List.mem_of_mem_drop (List.mem_of_mem_take he))) (fun i e j a he ha => by
      obtain ⟨hi, he⟩ := hget i e he
      obtain ⟨g, o, rfl, hSg, hc⟩ := r4 _ e j a he ha
      refine ⟨g, o + off * sz, ?_, hSg, ?_⟩
      · rw [h3 (by omega)]; simp [Addr.add]
      · rw [show o + off * sz + i * sz + j = o + (off + i) * sz + j by rw [Nat.add_mul]; omega]; exact hc) (fun i e j a he ha => r5 _ e j a (hget i e he).2 ha) (fun i j => r6 _ _)
  rw [hl] at this
  exact .data _ _ this
/-- a slice that is held is handed over as data -/
theorem GW.freeze {r : Nat} {t : TypeId} {sz : Nat} {es : List (List AV)} {vs vs' : List AV} (hg : H.get r = some (.row t sz es)) (hd : DtR es) (hs : Subs P (H.put r (.frz sz es)) vs vs') (hb : B ≤ H.nx) : GW P B vs H vs' (H.put r (.frz sz es)) :=
  (GW.st (.freeze hg hd) hb).trans fun w S σ us h hr => ⟨S, σ, h, hs.rps h hr, fun _ h => h, fun _ h => .inl h, fun _ h => h, fun _ _ => rfl, hb⟩
theorem GW.sub {vs vs' : List AV} (hs : Subs P H vs vs') (hb : B ≤ H.nx) : GW P B vs H vs' H := fun w S σ us h hr => ⟨S, σ, h, hs.rps h hr, fun _ h => h, fun _ h => .inl h, fun _ h => h, fun _ _ => rfl, hb⟩
theorem rt_one {v : AV} {Q : AV → AH → Prop} (hw : WF H0) (hg : H0.le H1) (hc : Cl H0.nx v) (h : Q v H0) : Rt P H0.nx v Q H1 := Gh.back hw hg (.one hc) ⟨_, rfl, h⟩
theorem rt_refl {v : AV} {Q : AV → AH → Prop} (h : Q v H) (hb : B ≤ H.nx) : Rt P B v Q H := Gh.refl ⟨_, rfl, h⟩ hb
theorem tri_wf {f : FuncId} {ps : List AV} {Q : AV → AH → Prop} (h : WF H → Tri P f ps H Q) : Tri P f ps H Q := fun w S σ us hs hr => h hs.wf w S σ us hs hr
theorem Tri.args {f : FuncId} {ps qs : List AV} {Q : AV → AH → Prop} (hs : Subs P H ps qs) (h : Tri P f qs H Q) : Tri P f ps H Q := fun w S σ us h1 hr => h w S σ us h1 (hs.rps h1 hr)
theorem Tri.st {f : FuncId} {ps : List AV} {Q : AV → AH → Prop} (hs : Gst P H H2) (h : Tri P f ps H2 Q) : Tri P f ps H Q := fun w S σ us h1 hr => by
  obtain ⟨S', k1, k2, k3, k4⟩ := hs.2 w S σ h1
  refine (h w S' σ us k1 (hr.mono k2 (fun _ _ => rfl) (fun _ _ h => h))).mono fun e w' ⟨v, S2, σ2, r, H', q1, q2, q3, q4, q5, q6, q7⟩ => ⟨v, S2, σ2, r, H', q1, q2, q3, q4, ?_, Nat.le_trans hs.1 q6, fun id hi => q7 id (Nat.lt_of_lt_of_le hi hs.1)⟩
  exact ⟨q5.os, q5.tape, q5.output, q5.size, fun b hb hn => q5.keep b hb fun hf => hn (k4 b hf), fun b hb => q5.sup b (k2 b hb), fun b hb => by
    rcases q5.sub b hb with h | h | h
    · exact (k3 b h).elim .inl fun h => .inr (.inl h)
    · exact .inr (.inl (k4 b h))
    · exact .inr (.inr h), fun b hb => (q5.foot b hb).elim (fun h => .inl (k4 b h)) .inr, q5.sig⟩
/-- what a call gives that only reads -/
def PF (P : Program) (f : FuncId) (ps : List AV) (r : AV) : Prop := ∀ H, Tri P f ps H (fun v H' => H' = H ∧ v = r)
theorem ca_pure {f : FuncId} {first ps cap : List AV} {r : AV} {k : AV → AH → Prop} (hc : callable P f = true) (h : Tri P f (first ++ ps ++ cap) H (fun v H' => H' = H ∧ v = r)) (hk : k r H) : Ca P (.fn (.func f) first cap) ps k H :=
  ⟨f, first, cap, _, rfl, hc, h, fun v H' _ hq => by obtain ⟨rfl, rfl⟩ := hq; exact hk⟩
theorem ca_of {f : FuncId} {first ps cap : List AV} {Q : AV → AH → Prop} {k : AV → AH → Prop} (hc : callable P f = true) (h : Tri P f (first ++ ps ++ cap) H Q) (hk : ∀ v H', Q v H' → k v H') : Ca P (.fn (.func f) first cap) ps k H :=
  ⟨f, first, cap, Q, rfl, hc, h, fun v H' _ hq => hk v H' hq⟩
theorem ca_wf {f : FuncId} {first ps cap : List AV} {Q : AV → AH → Prop} {k : AV → AH → Prop} (hc : callable P f = true) (h : Tri P f (first ++ ps ++ cap) H Q) (hk : ∀ v H', WF H' → Q v H' → k v H') : Ca P (.fn (.func f) first cap) ps k H :=
  ⟨f, first, cap, Q, rfl, hc, h, fun v H' ⟨_, _, _, hs⟩ hq => hk v H' hs.wf hq⟩
theorem wro_nil {b id t sz bytes : Nat} {src : Option Nat} {ys : List (List AV)} {x : AV} {k : AV → AH → Prop} (h1 : ElF V H src sz x ys) (h2 : ys.length ≤ maxLen) (h3 : ys.length * bytes ≤ 140737488355328) (hk : k (.osl id sz 0 ys.length) (H.put id (.row t sz ys))) :
    WrO V b src id (.app t sz bytes) [.p (.slice none 0 0), x] k H := ⟨_, _, .app_nil t sz bytes ys x H h1 h2 h3, hk⟩
theorem wro_in {b id t sz bytes r n c : Nat} {src : Option Nat} {es ys : List (List AV)} {x : AV} {k : AV → AH → Prop} (h1 : r < b) (h2 : V.get r = none) (h3 : H.get r = some (.crow t sz c es)) (h4 : n = es.length) (h5 : ElF V H src sz x ys) (h6 : n + ys.length ≤ c) (hk : k (.osl r sz 0 (n + ys.length)) (H.put r (.crow t sz c (es ++ ys)))) :
    WrO V b src id (.app t sz bytes) [.osl r sz 0 n, x] k H := ⟨_, _, .app_in t sz bytes r n c es ys x H h1 h2 h3 h4 h5 h6, hk⟩
theorem wro_out {b id t sz bytes r n c : Nat} {src : Option Nat} {es ys : List (List AV)} {x : AV} {k : AV → AH → Prop} (h1 : r < b) (h3 : H.get r = some (.crow t sz c es)) (h4 : n = es.length) (h5 : ElF V H src sz x ys) (h6 : c < n + ys.length) (h7 : n + ys.length ≤ maxLen) (h8 : (n + ys.length) * bytes ≤ 140737488355328) (hk : k (.osl id sz 0 (n + ys.length)) (H.put id (.row t sz (es ++ ys)))) :
    WrO V b src id (.app t sz bytes) [.osl r sz 0 n, x] k H := ⟨_, _, .app_out t sz bytes r n c es ys x H h1 h3 h4 h5 h6 h7 h8, hk⟩
/-- a row of one's own is let go for a longer one -/
theorem wro_own {b id t sz bytes r n : Nat} {src : Option Nat} {es ys : List (List AV)} {x : AV} {k : AV → AH → Prop} (h1 : r < b) (h2 : V.get r = none) (h3 : H.get r = some (.row t sz es)) (h4 : n = es.length) (h5 : ElF V H src sz x ys) (h6 : n + ys.length ≤ maxLen) (h7 : (n + ys.length) * bytes ≤ 140737488355328) (hk : k (.osl id sz 0 (n + ys.length)) ((H.kill r).put id (.row t sz (es ++ ys)))) :
    WrO V b src id (.app t sz bytes) [.osl r sz 0 n, x] k H := ⟨_, _, .app_own t sz bytes r n es ys x H h1 h2 h3 (by omega) h5 h6 h7, by rw [List.drop_zero, List.take_of_length_le (by omega)]; exact hk⟩
/-- a row is handed to a call with its capacity told -/
theorem Tri.capped {f : FuncId} {ps : List AV} {Q : AV → AH → Prop} {r : Nat} {t : TypeId} {sz : Nat} {es : List (List AV)} (hg : H.get r = some (.row t sz es)) (h : ∀ c, es.length ≤ c → Tri P f ps (H.put r (.crow t sz c es)) Q) : Tri P f ps H Q := fun w S σ us hs hr => by
  obtain ⟨c, hc, hs'⟩ := hs.capped hg
  have hn : ∀ b, Foot σ (H.put r (.crow t sz c es)) b → Foot σ H b := by
    rintro b ⟨i, o, h1, h2, h3⟩
    by_cases e : i = r
    · subst e; exact ⟨i, _, hg, rfl, h3⟩
    · rw [AH.get_put_ne e] at h1; exact ⟨i, o, h1, h2, h3⟩
  have hn2 : ∀ b, Foot σ H b → Foot σ (H.put r (.crow t sz c es)) b := by
    rintro b ⟨i, o, h1, h2, h3⟩
    by_cases e : i = r
    · subst e; rw [hg] at h1; injection h1 with h1; subst h1; exact ⟨i, _, AH.get_put_self, rfl, h3⟩
    · exact ⟨i, o, by rw [AH.get_put_ne e]; exact h1, h2, h3⟩
  refine (h c hc w S σ us hs' hr).mono fun e w' ⟨v, S', σ', r', H', h1, h2, h3, h4, h5, h6, h7⟩ => ⟨v, S', σ', r', H', h1, h2, h3, h4, ⟨h5.os, h5.tape, h5.output, h5.size, fun b hb hf => h5.keep b hb fun q => hf (hn b q), h5.sup, fun b hb => (h5.sub b hb).imp_right fun q => q.imp_left (hn b), fun b hb => (h5.foot b hb).imp_left (hn b), h5.sig⟩, h6, h7⟩
theorem Gst.prefix {r : Nat} {t : TypeId} {sz c : Nat} {es : List (List AV)} (hg : H.get r = some (.crow t sz c es)) (n : Nat) : Gst P H (H.put r (.crow t sz c (es.take n))) :=
  ⟨Nat.le_refl _, fun w S σ hs => ⟨S, hs.prefix hg n, fun _ h => h, fun _ h => .inl h, by
    rintro b ⟨i, o, h1, h2, h3⟩
    by_cases e : i = r
    · subst e; exact ⟨i, _, hg, rfl, h3⟩
    · rw [AH.get_put_ne e] at h1; exact ⟨i, o, h1, h2, h3⟩⟩⟩
/-- a call that leaves as it was what is read in the region -/
theorem cak_of {f : FuncId} {first ps cap : List AV} {Q : AV → AH → Prop} {k : AV → AH → Prop} (hc : callable P f = true) (h : Tri P f (first ++ ps ++ cap) H Q) (hk : ∀ v H', WF H' → Q v H' → V.le H' ∧ k v H') : CaK P V (.fn (.func f) first cap) ps k H :=
  ⟨f, first, cap, Q, rfl, hc, h, fun v H' ⟨_, _, _, hs⟩ hq => hk v H' hs.wf hq⟩
theorem cav_pure {f : FuncId} {first ps cap : List AV} {r : AV} {k : AV → AH → Prop} (hc : callable P f = true) (h : ∀ H2, V.le H2 → Tri P f (first ++ ps ++ cap) H2 (fun v H' => H' = H2 ∧ v = r)) (hk : k r H) : CaV P V (.fn (.func f) first cap) ps k H :=
  ⟨f, first, cap, r, rfl, hc, h, hk⟩
end
end Go.Proofs.Ytgkkilbeingleaa

/- The words that simplify an abstract walk. Nothing of the program is named here. -/
namespace Go.Proofs.Ytgkkilbeingleaa
open Go.RowKit Go.Maps
attribute [congr] onSome_congr pu_congr rds_congr rd_congr al_congr wr_congr wrs_congr wrf_congr ca_congr cav_congr cak_congr can_congr cap_congr wro_congr car_congr cdb_congr gdb_congr gvb_congr loop_congr cut_congr rt_congr ldF_congr lookF_congr stBox_congr stRow_congr appRow_congr appNil_congr msetF_congr clrRow_congr apsRow_congr ustRow_congr
attribute [simp ↓ high] cd_t cd_f gd_tt gd_ff gd_tf gd_ft gdv_tt gdv_ff gdv_tf gdv_ft gd_sk gdv_sk cdb_t cdb_f gdb_tt gdb_ff gdb_tf gdb_ft gvb_tt gvb_ff gvb_tf gvb_ft pick_t pick_f onSome_some
attribute [simp ↓] q_mv q_pick q_nil_ptr q_nil_eptr q_nil_dptr q_nil_fn q_add_ptr q_add_eptr q_add_dptr q_idx_dsl q_idx_osl q_aidx_ptr q_aidx_eptr q_aidx_dptr q_fld_agg q_add_i q_sub_i q_mul_i q_quo_i q_rem_i q_and_i q_or_i q_xor_i q_eql_i q_neq_i q_lss_i q_leq_i q_gtr_i q_geq_i q_shl_i q_shr_i q_eql_b q_neq_b q_eql_s q_neq_s q_add_s q_lss_s q_neg_i q_not_b q_conv_i q_same_s q_len_dsl q_len_osl q_len_nil q_len_s q_slc_00 q_slc_10 q_slc_01 q_slc_11 q_slo_00 q_slo_10 q_slo_01 q_slo_11 q_ssl_00 q_ssl_10 q_ssl_01 q_ssl_11 q_cap_nil q_slc_nil q_mn_i q_mx_i q_mkfn q_fld_one q_ext q_sidx q_vidx_agg q_vidx_one q_bld rds_eq wrs_eq rdn_eq rd_ld rd_look al_nw al_bx al_mm al_ms al_bs wr_st_ptr wr_st_eptr wr_app_osl wr_app_nil wr_app_e q_mset wr_apz_nil wr_clr_osl wr_aps_osl wr_aps_nil wr_ust_row wr_ust_nil rd_bstr_eq q_sld_osl q_sld_nil wf_st cd_b gd_b gdv_b cdb_eq gdb_eq gvb_eq rg_eq vw_eq both_eq q_eqnil_mp q_eqnil_mpp q_nenil_mp q_nenil_mpp q_eqnil_p q_eqnil_dsl q_eqnil_osl q_nenil_p q_nenil_dsl q_nenil_osl
attribute [simp] delL_nil delL_cons del_nx del_get mixV_nil mixV_cons mixO_some mixO_none bm_eq boxAt_box rowAt_row rowAt_crow rowAt_frz atF_ptr atF_eptr atF_dptr ldF_t ldF_f elF_dsl elF_nil elF_osl elRow_crow elRow_row elRow_frz up_get up_nx put_nx kill_nx put_get stBox stRow appRow appNil msetF clrRow apsRow ustRow lookF fillA chunks
@[simp] theorem part_p (v : Value) : AV.part (.p v) = true := rfl
@[simp] theorem cells_p (v : Value) : AV.cells (.p v) = [(.p v)] := rfl
@[simp] theorem part_dsl (sz : Nat) (xs : List (List AV)) : AV.part (.dsl sz xs) = true := rfl
@[simp] theorem cells_dsl (sz : Nat) (xs : List (List AV)) : AV.cells (.dsl sz xs) = [(.dsl sz xs)] := rfl
@[simp] theorem part_dptr (sz : Nat) (xs : List (List AV)) (i j : Nat) : AV.part (.dptr sz xs i j) = true := rfl
@[simp] theorem cells_dptr (sz : Nat) (xs : List (List AV)) (i j : Nat) : AV.cells (.dptr sz xs i j) = [(.dptr sz xs i j)] := rfl
@[simp] theorem part_ptr (i j : Nat) : AV.part (.ptr i j) = true := rfl
@[simp] theorem cells_ptr (i j : Nat) : AV.cells (.ptr i j) = [(.ptr i j)] := rfl
@[simp] theorem part_eptr (i sz q j : Nat) : AV.part (.eptr i sz q j) = true := rfl
@[simp] theorem cells_eptr (i sz q j : Nat) : AV.cells (.eptr i sz q j) = [(.eptr i sz q j)] := rfl
@[simp] theorem part_osl (i sz q j : Nat) : AV.part (.osl i sz q j) = true := rfl
@[simp] theorem cells_osl (i sz q j : Nat) : AV.cells (.osl i sz q j) = [(.osl i sz q j)] := rfl
@[simp] theorem part_mp (i : Nat) : AV.part (.mp i) = true := rfl
@[simp] theorem cells_mp (i : Nat) : AV.cells (.mp i) = [(.mp i)] := rfl
@[simp] theorem part_fn (f : Fn) (xs ys : List AV) : AV.part (.fn f xs ys) = true := rfl
@[simp] theorem cells_fn (f : Fn) (xs ys : List AV) : AV.cells (.fn f xs ys) = [(.fn f xs ys)] := rfl
@[simp] theorem part_agg (cs : List AV) : AV.part (.agg cs) = true := rfl
@[simp] theorem cells_agg (cs : List AV) : AV.cells (.agg cs) = cs := rfl
@[simp] theorem val_p (v : Value) : AV.val (.p v) = some v := rfl
@[simp] theorem vals_nil : vals [] = some [] := rfl
@[simp] theorem vals_p (v : Value) (r : List AV) : vals (.p v :: r) = (vals r).map (v :: ·) := by cases h : vals r <;> simp [vals, h]
@[simp] theorem val_agg (cs : List AV) : AV.val (.agg cs) = (vals cs).map fun vs => .agg vs.toArray := by cases h : vals cs <;> simp [AV.val, h]
theorem wrapI {x : Int} (h : -9223372036854775808 ≤ x) (k : x ≤ 9223372036854775807) : IntKind.i64.wrap x = x := by rw [IntKind.wrap_i64]; omega
@[simp] theorem wrap_lit (n : Nat) (h : n < 9223372036854775808) : IntKind.i64.wrap (no_index (OfNat.ofNat n)) = OfNat.ofNat n := by
  show IntKind.i64.wrap ((n : Nat) : Int) = ((n : Nat) : Int)
  rw [IntKind.wrap_i64]; omega
@[simp] theorem wrap_neg_lit (n : Nat) (h : n < 9223372036854775808) : IntKind.i64.wrap (no_index (-OfNat.ofNat n)) = -OfNat.ofNat n := by
  show IntKind.i64.wrap (-((n : Nat) : Int)) = -((n : Nat) : Int)
  rw [IntKind.wrap_i64]; omega
end Go.Proofs.Ytgkkilbeingleaa

/- Loops, joins and calls of abstract walks, as one uses them. Nothing of the program is named here. -/
namespace Go.Proofs.Ytgkkilbeingleaa
open Go.RowKit Go.Maps

section
variable {P : Program} {w : World} {S : Nat → Prop} {σ : Nat → Option Value} {H H0 H1 H2 V : AH} {B : Nat}
theorem AH.le.refl (H : AH) : H.le H := fun _ _ h => h
theorem AH.le.trans (h : H0.le H1) (k : H1.le H2) : H0.le H2 := fun _ _ q => k _ _ (h _ _ q)
theorem AH.le.up {n : Nat} (h : H0.le H1) : H0.le (H1.up n) := h
theorem AH.le.put {i : Nat} {o : AO} (hw : WF H0) (hi : H0.nx ≤ i) (h : H0.le H1) : H0.le (H1.put i o) := fun id o' ho => by
  rw [AH.get_put_ne (by have := (hw id o' ho).1; omega)]; exact h _ _ ho
theorem AH.le.kill {i : Nat} (hw : WF H0) (hi : H0.nx ≤ i) (h : H0.le H1) : H0.le (H1.kill i) := AH.le.put hw hi h
theorem wf_none (hw : WF H) {i : Nat} (h : H.nx ≤ i) : H.get i = none := by
  cases hg : H.get i with
  | none => rfl
  | some o => have := (hw i o hg).1; omega
theorem least {S : Nat → Prop} : ∀ n, S n → ∃ n, S n ∧ ∀ m, S m → n ≤ m := by
  intro n
  induction n using Nat.strongRecOn with
  | ind n ih =>
    intro h
    by_cases hx : ∃ m, m < n ∧ S m
    · obtain ⟨m, h1, h2⟩ := hx; exact ih m h1 h2
    · exact ⟨n, h, fun m hm => Nat.le_of_not_lt fun hl => hx ⟨m, hl, hm⟩⟩
open Classical in
noncomputable def low (S : Nat → Prop) : Nat := if h : ∃ n, S n then Classical.choose (least h.choose h.choose_spec) else 0
theorem low_spec {S : Nat → Prop} {n : Nat} (h : S n) : S (low S) ∧ low S ≤ n := by
  have hx : ∃ n, S n := ⟨n, h⟩
  have := Classical.choose_spec (least hx.choose hx.choose_spec)
  unfold low
  rw [dif_pos hx]
  exact ⟨this.1, this.2 n h⟩
/-- a loop, by what holds at its head -/
theorem loop_wf {α : Type} (enc : α → List AV) {m : Nat} (Inv : α → AH → Prop) (μ : α → Nat) (a0 : α) {vs0 : List AV} {F : List AV → (List AV → AH → Prop) → AH → Prop} (h0 : GW P H.nx vs0 H (enc a0) H0) (hi : Inv a0 H0)
    (hB : ∀ a H1, H.nx ≤ H1.nx → WF H1 → Inv a H1 → ∀ k : List AV → AH → Prop, (∀ a' H2 vs' H', GW P H.nx vs' H' (enc a') H2 → Inv a' H2 → μ a' < μ a → k vs' H') → F (enc a) k H1) : LoopA P m F vs0 H := by
  refine ⟨fun vs H' => ∃ a, vs = enc a ∧ Inv a H', fun vs H' => low fun n => ∃ a, vs = enc a ∧ Inv a H' ∧ μ a = n, ⟨_, _, h0, a0, rfl, hi⟩, ?_⟩
  rintro vs H1 _ hn ⟨w1, S1, σ1, hs1⟩ ⟨a, rfl, ha⟩
  obtain ⟨⟨b, hb, hbi, hbm⟩, _⟩ := low_spec (S := fun n => ∃ b, enc a = enc b ∧ Inv b H1 ∧ μ b = n) ⟨a, rfl, ha, rfl⟩
  rw [hb] at hbm ⊢
  refine hB b H1 hn hs1.wf hbi _ fun a' H2 vs' H' hg hi2 hlt => ⟨_, _, hg, ⟨a', rfl, hi2⟩, ?_⟩
  have h2 := (low_spec (S := fun n => ∃ b, enc a' = enc b ∧ Inv b H2 ∧ μ b = n) ⟨a', rfl, hi2, rfl⟩).2
  dsimp only
  rw [← hbm]
  exact Nat.lt_of_le_of_lt h2 hlt
theorem loop_st {α : Type} (enc : α → List AV) {m : Nat} (Inv : α → AH → Prop) (μ : α → Nat) (a0 : α) {vs0 : List AV} {F : List AV → (List AV → AH → Prop) → AH → Prop} (h0 : GW P H.nx vs0 H (enc a0) H0) (hi : Inv a0 H0)
    (hB : ∀ a H1, H.nx ≤ H1.nx → Inv a H1 → ∀ k : List AV → AH → Prop, (∀ a' H2 vs' H', GW P H.nx vs' H' (enc a') H2 → Inv a' H2 → μ a' < μ a → k vs' H') → F (enc a) k H1) : LoopA P m F vs0 H :=
  loop_wf enc Inv μ a0 h0 hi fun a H1 hn _ hi k hk => hB a H1 hn hi k hk
theorem cut_st {α : Type} (enc : α → List AV) {m : Nat} (Inv : α → AH → Prop) {F : (List AV → AH → Prop) → AH → Prop} {K : List AV → AH → Prop} (hA : ∀ k : List AV → AH → Prop, (∀ a' H2 vs' H', GW P H.nx vs' H' (enc a') H2 → Inv a' H2 → k vs' H') → F k H)
    (hK : ∀ a H', H.nx ≤ H'.nx → Inv a H' → K (enc a) H') : CutA P m F K H :=
  ⟨fun vs H' => ∃ a, vs = enc a ∧ Inv a H', hA _ fun a' H2 vs' H' hg hi => ⟨_, _, hg, a', rfl, hi⟩, fun vs H' _ hn _ ⟨a, e, hi⟩ => by subst e; exact hK a H' hn hi⟩
/-- how long a slice can be -/
theorem tri_len {f : FuncId} {ps : List AV} {Q : AV → AH → Prop} (i : Nat) {sz : Nat} {xs : List (List AV)} (hi : ps[i]? = some (.dsl sz xs)) (h : xs.length ≤ maxLen → (∀ e ∈ xs, e.length = sz) → Tri P f ps H Q) : Tri P f ps H Q := fun w S σ us hs hr => by
  obtain ⟨v, hv, hrv⟩ := hr.at_ hi
  obtain ⟨A, c, z, rfl, h1, h2, h3, _⟩ := hrv.dsl_inv.dsl_inv
  exact h (by omega) h3 w S σ us hs hr
theorem ivn {i : Nat} (h : i < 9223372036854775807) : IntKind.i64.wrap ((i : Int) + 1) = ((i + 1 : Nat) : Int) := by rw [IntKind.wrap_i64]; omega
/-- a slice of one's own that grows: nil, or a row laid since -/
def Grows (t sz : Nat) (H0 H1 : AH) (v : AV) (es : List (List AV)) : Prop :=
  (v = .p (.slice none 0 0) ∧ es = []) ∨ ∃ r xs, v = .osl r sz 0 es.length ∧ H0.nx ≤ r ∧ r < H1.nx ∧ H1.get r = some (.row t sz xs) ∧ xs.take es.length = es ∧ DtR xs
theorem Grows.nil (t sz : Nat) (H0 H1 : AH) : Grows t sz H0 H1 (.p (.slice none 0 0)) [] := .inl ⟨rfl, rfl⟩
theorem Grows.row {t sz r n : Nat} {xs : List (List AV)} (h1 : H0.nx ≤ r) (h2 : r < H1.nx) (h3 : H1.get r = some (.row t sz xs)) (h4 : DtR xs) (h5 : n = xs.length) : Grows t sz H0 H1 (.osl r sz 0 n) xs :=
  .inr ⟨r, xs, by rw [h5], h1, h2, h3, List.take_length, h4⟩
theorem Grows.keep {t sz : Nat} {v : AV} {es : List (List AV)} (h : Grows t sz H0 H1 v es) (hn : H1.nx ≤ H2.nx) (hk : ∀ j o, H0.nx ≤ j → H1.get j = some o → H2.get j = some o) : Grows t sz H0 H2 v es := by
  rcases h with h | ⟨r, xs, h1, h2, h3, h4, h5, h6⟩
  · exact .inl h
  · exact .inr ⟨r, xs, h1, h2, by omega, hk _ _ h2 h4, h5, h6⟩
theorem DtR.app {xs ys : List (List AV)} (h : DtR xs) (k : DtR ys) : DtR (xs ++ ys) := fun e he => (List.mem_append.1 he).elim (h e) (k e)
theorem DtR.take {xs : List (List AV)} {n : Nat} (h : DtR xs) : DtR (xs.take n) := fun e he => h e (List.mem_of_mem_take he)
theorem DtR.drop {xs : List (List AV)} {n : Nat} (h : DtR xs) : DtR (xs.drop n) := fun e he => h e (List.mem_of_mem_drop he)
theorem Grows.len {t sz : Nat} {v : AV} {es : List (List AV)} {k : AV → AH → Prop} {H : AH} (h : Grows t sz H0 H1 v es) : Pu P .len [v] k H = k (.p (.int .i64 es.length)) H := by
  rcases h with ⟨rfl, rfl⟩ | ⟨r, xs, rfl, _⟩
  · rw [q_len_nil]; rfl
  · rw [q_len_osl]
/-- what is appended stands behind -/
theorem Grows.app {t sz bytes id : Nat} {v x : AV} {es ys : List (List AV)} {k : AV → AH → AH → Prop} (hw : WF H0) (hg : Grows t sz H0 H1 v es) (hle : H0.le H1) (hid : H0.nx ≤ id) (hid2 : id < H1.nx) (hx : elF H1 sz x = some ys) (hd : DtR ys) (h1 : es.length + ys.length ≤ maxLen) (h2 : (es.length + ys.length) * bytes ≤ 140737488355328)
    (hk : ∀ v' H2, Grows t sz H0 H2 v' (es ++ ys) → H0.le H2 → H2.nx = H1.nx → (∀ j, j ≠ id → (∀ n, v ≠ .osl j sz 0 n) → H2.get j = H1.get j) → (∃ n, v' = .osl id sz 0 n) → k v' H2 H2) : Wr P id (.app t sz bytes) [v, x] k H1 := by
  rcases hg with ⟨rfl, rfl⟩ | ⟨r, xs, rfl, g1, g2, g3, g4, g5⟩
  · rw [wr_app_nil, hx]
    simp only [List.length_nil, Nat.zero_add] at h1 h2
    refine ⟨h1, h2, hk _ _ ?_ (.put hw hid hle) rfl (fun j hj _ => AH.get_put_ne hj) ⟨_, rfl⟩⟩
    exact .row hid hid2 (by rw [AH.get_put_self]; rfl) (by simpa using hd) (by simp)
  · rw [wr_app_osl, hx, g3]
    refine ⟨rfl, rfl, ?_, h1, h2, hk _ _ ?_ (.put hw hid (.kill hw g1 hle)) rfl (fun j hj hv => ?_) ⟨_, rfl⟩⟩
    · have := congrArg List.length g4
      rw [List.length_take] at this
      omega
    · refine .inr ⟨id, _, by rw [List.length_append], hid, hid2, AH.get_put_self, ?_, ?_⟩
      · rw [List.drop_zero, g4, List.take_length]
      · rw [List.drop_zero, g4]; exact DtR.app (by rw [← g4]; exact g5.take) hd
    · have hr : j ≠ r := fun e => hv es.length (by rw [e])
      rw [AH.get_put_ne hj, AH.kill, AH.get_put_ne hr]
theorem Grows.not {t sz j : Nat} {v : AV} {es : List (List AV)} (h : Grows t sz H0 H1 v es) (hj : ∀ xs, H1.get j ≠ some (.row t sz xs)) : ∀ n, v ≠ .osl j sz 0 n := fun n hn => by
  rcases h with ⟨h1, _⟩ | ⟨r, xs, h1, _, _, h4, _⟩
  · rw [h1] at hn; cases hn
  · rw [h1] at hn; injection hn with hn; subst hn; exact hj _ h4
theorem Grows.part {t sz : Nat} {v : AV} {es : List (List AV)} (h : Grows t sz H0 H1 v es) : AV.part v = true ∧ AV.cells v = [v] := by
  rcases h with ⟨rfl, _⟩ | ⟨r, xs, rfl, _⟩ <;> exact ⟨rfl, rfl⟩
theorem Grows.lt {t sz j n : Nat} {v : AV} {es : List (List AV)} (h : Grows t sz H0 H1 v es) (hj : v = .osl j sz 0 n) : j < H1.nx := by
  rcases h with ⟨h1, _⟩ | ⟨r, xs, h1, _, h3, _⟩
  · rw [h1] at hj; cases hj
  · rw [h1] at hj; injection hj with hj; omega
theorem Grows.same {t sz : Nat} {v : AV} {es : List (List AV)} (h : Grows t sz H0 H1 v es) (hn : H1.nx ≤ H2.nx) (hk : ∀ j, j < H1.nx → (∃ n, v = .osl j sz 0 n) → H2.get j = H1.get j) : Grows t sz H0 H2 v es := by
  rcases h with h | ⟨r, xs, h1, h2, h3, h4, h5, h6⟩
  · exact .inl h
  · exact .inr ⟨r, xs, h1, h2, by omega, by rw [hk r h3 ⟨_, h1⟩]; exact h4, h5, h6⟩
theorem Grows.at_ {t sz : Nat} {v : AV} {es : List (List AV)} (h : Grows t sz H0 H1 v es) (hn : 0 < es.length) : ∃ r xs, v = .osl r sz 0 es.length ∧ r < H1.nx ∧ H1.get r = some (.row t sz xs) ∧ ∀ i, i < es.length → xs[i]? = es[i]? := by
  rcases h with ⟨_, h2⟩ | ⟨r, xs, h1, h2, h3, h4, h5, h6⟩
  · rw [h2] at hn; simp at hn
  · refine ⟨r, xs, h1, h3, h4, fun i hi => ?_⟩
    rw [← h5, List.getElem?_take, if_pos hi]
/-- it is handed over as data, in a memory that keeps all else -/
theorem Grows.fz {t sz : Nat} {v : AV} {es : List (List AV)} (h : Grows t sz H0 H1 v es) (hw : WF H0) (hle : H0.le H1) (hn : H0.nx ≤ H1.nx) : ∃ H2, Gst P H1 H2 ∧ H0.le H2 ∧ H2.nx = H1.nx ∧ (∀ j, (∀ n, v ≠ .osl j sz 0 n) → H2.get j = H1.get j) ∧ Sub P H2 v (.dsl sz es) := by
  rcases h with ⟨rfl, rfl⟩ | ⟨r, xs, rfl, h1, h2, h3, h4, h5⟩
  · exact ⟨H1, ⟨Nat.le_refl _, fun w S σ hs => ⟨S, hs, fun _ h => h, fun _ h => .inl h, fun _ h => h⟩⟩, hle, rfl, fun _ _ => rfl, .nil _ _ (Nat.zero_le _)⟩
  · refine ⟨_, .freeze h3 h5, .put hw h1 hle, rfl, fun j hj => AH.get_put_ne fun e => hj es.length (by rw [e]), ?_⟩
    have := Sub.frz (P := P) (H := H1.put r (.frz sz xs)) (r := r) (sz := sz) (off := 0) (n := es.length) AH.get_put_self (by
      have := congrArg List.length h4
      rw [List.length_take] at this
      omega)
    rwa [List.drop_zero, h4] at this
theorem Grows.rt {t sz : Nat} {v : AV} {es : List (List AV)} {Q : AV → AH → Prop} (h : Grows t sz H0 H1 v es) (hw : WF H0) (hle : H0.le H1) (hn : H0.nx ≤ H1.nx) (hq : Q (.dsl sz es) H0) : Rt P H0.nx v Q H1 := by
  obtain ⟨H2, k1, k2, k3, _, k4⟩ := h.fz (P := P) hw hle hn
  exact Gh.step ((GW.st k1 hn).trans (GW.sub (.cons k4 .nil) (by omega))) (Gh.back hw k2 (.one (.dsl _ _)) ⟨_, rfl, hq⟩)
/-- the cells of a box are told anew -/
theorem Gst.box {b : Nat} {t : TypeId} {cs cs' : List AV} (hg : H.get b = some (.box t cs)) (hs : Subs P H cs cs') : Gst P H (H.put b (.box t cs')) := by
  refine ⟨Nat.le_refl _, fun w S σ h => ?_⟩
  have hget : ∀ id o, (H.put b (.box t cs')).get id = some o → ∃ o', H.get id = some o' ∧ o'.owned = o.owned ∧ (id = b ∨ o' = o) := by
    intro id o ho
    by_cases e : id = b
    · subst e; rw [AH.get_put_self] at ho; injection ho with ho; subst ho; exact ⟨_, hg, rfl, .inl rfl⟩
    · rw [AH.get_put_ne e] at ho; exact ⟨_, ho, rfl, .inr rfl⟩
  refine ⟨S, ⟨h.sb, h.dom, fun id o ho => ?_, fun i j o o' x h1 h2 k1 k2 b1 b2 => ?_, fun i o x h1 k1 b1 => ?_, h.sl⟩, fun _ q => q, fun _ q => .inl q, ?_⟩
  · by_cases e : id = b
    · subst e
      rw [AH.get_put_self] at ho; injection ho with ho; subst ho
      obtain ⟨g, arr, h1, h2, h3, h4⟩ := h.obj id _ hg
      exact ⟨g, arr, h1, h2, hs.rps h h3, h4⟩
    · rw [AH.get_put_ne e] at ho; exact h.obj id o ho
  · obtain ⟨p1, q1, r1, _⟩ := hget i o h1
    obtain ⟨p2, q2, r2, _⟩ := hget j o' h2
    exact h.dj i j p1 p2 x q1 q2 (r1.trans k1) (r2.trans k2) b1 b2
  · obtain ⟨p1, q1, r1, _⟩ := hget i o h1
    exact h.sep i p1 x q1 (r1.trans k1) b1
  · rintro x ⟨i, o, h1, k1, b1⟩
    obtain ⟨p1, q1, r1, _⟩ := hget i o h1
    exact ⟨i, p1, q1, r1.trans k1, b1⟩
end
end Go.Proofs.Ytgkkilbeingleaa
