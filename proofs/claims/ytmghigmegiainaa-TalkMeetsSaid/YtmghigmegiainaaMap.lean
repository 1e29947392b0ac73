/- A map of the call's own, as a function from keys to values: made, looked up, written; keys that are told entries, keys that are two numbers. -/
import Derived.Test.YtmghigmegiainaaMtA
import Derived.Maps.OwnOps
import Derived.Maps.Views
import Derived.DeepKeys4
import Derived.Laws.StructEq
namespace Go.Proofs.Ytmghigmegiainaa
open Go.RowKit Go.Maps

def rHeld (v : Value) : Option (DataW Value × List MemPlace) := some (.held v, [])
/-- block b is a map of at most n entries; what is looked up is f's, z where there is no entry -/
def MapFn (P : Program) (k : TypeId) (w : World) (b n : Nat) (z : Value) (f : Value → Value) : Prop :=
  ∃ D : DataW Value, w.ownsMap P k rHeld b n D ∧ ∀ (key : Value) (l : Lit), keyOf P k key = some l → D.atKey l (.held z) = .held (f key)
section
variable {P : Program} {k : TypeId} {w w' : World} {b n : Nat} {z : Value} {f : Value → Value}
theorem MapFn.made (w : World) (P : Program) (k : TypeId) (z : Value) : MapFn P k (w.alloc (.map #[] 0)) w.heap.size 0 z (fun _ => z) :=
  ⟨_, World.ownsMap_made w P k rHeld, fun _ _ _ => rfl⟩
theorem MapFn.lt (h : MapFn P k w b n z f) : b < w.heap.size := by obtain ⟨D, h, _⟩ := h; exact h.lt
theorem MapFn.grown {row : Option Nat} (h : MapFn P k w b n z f) (hg : w.grownBy w' row) (hne : some b ≠ row) : MapFn P k w' b n z f := by
  obtain ⟨D, h, hf⟩ := h; exact ⟨D, h.kept hg hne, hf⟩
theorem MapFn.notBlk {t : TypeId} {cs : Array Value} (h : MapFn P k w b n z f) {g : Nat} (hb : Blk w g t cs) : b ≠ g := by
  obtain ⟨D, ⟨es, clock, hm, _⟩, _⟩ := h
  intro e; subst e; unfold Blk at hb; rw [hb] at hm; cases hm
theorem MapFn.look {t e : TypeId} (h : MapFn P k w b n z f) (K : Keyed P k) (ht : P.underlying t = some (.map k e)) (hz : (zeroValue e).run P w = .ok z w) {key : Value} (hk : (keyOf P k key).isSome = true) :
    (Instr.lookup t (.map (some b)) key false).run P w = .ok (f key) w := by
  obtain ⟨D, h, hf⟩ := h
  obtain ⟨l, hl⟩ := Option.isSome_iff_exists.1 hk
  obtain ⟨v, ps, h1, h2⟩ := h.lookup K ht hz (zd := .held z) (zp := []) rfl hl
  rw [hf key l hl] at h2
  unfold rHeld at h2
  injection h2 with h2; injection h2 with h2 _; injection h2 with h2
  rw [h1, h2]
open Classical in
noncomputable def putAt (f : Value → Value) (key v : Value) : Value → Value := fun x => if x = key then v else f x
theorem putAt_same (f : Value → Value) (key v : Value) : putAt f key v key = v := by simp [putAt]
theorem putAt_other (f : Value → Value) {key x : Value} (v : Value) (h : x ≠ key) : putAt f key v x = f x := by simp [putAt, h]
theorem MapFn.store {t e : TypeId} (h : MapFn P k w b n z f) (K : Keyed P k) (ht : P.underlying t = some (.map k e)) (hn : n < maxLen) {key : Value} (hk : (keyOf P k key).isSome = true) (v : Value) :
    ∃ w', (Instr.mapUpdate t (.map (some b)) key v).run P w = .ok () w' ∧ MapFn P k w' b (n + 1) z (putAt f key v) ∧ w.grownBy w' (some b) := by
  obtain ⟨D, h, hf⟩ := h
  obtain ⟨l, hl⟩ := Option.isSome_iff_exists.1 hk
  obtain ⟨w', h1, h2, h3⟩ := h.update K ht hn hl (val := v) (d := .held v) (ps := []) rfl
  refine ⟨w', h1, ⟨_, h2, fun x l' hl' => ?_⟩, h3⟩
  obtain ⟨es, clock, _, _, _, hD⟩ := h
  by_cases hx : x = key
  · subst hx
    rw [hl] at hl'; injection hl' with hl'; subst hl'
    rw [putAt_same, atKey_put_same ⟨_, hD⟩ (K.key hl)]
  · have hll : l' ≠ l := fun e => hx (K.inj hl' (by rw [e]; exact hl))
    rw [putAt_other _ _ hx, atKey_put_other hll]
    exact hf x l' hl'
end
theorem laid : laidOutB Try.prog = true := by kernel_rfl
theorem lawTold : Keyed Try.prog 44 := Keyed.of_law (deep_law_laid laid (m := 3) (by omega) (of_decide_eq_true (by kernel_rfl)) (by kernel_rfl) (by kernel_rfl))
theorem lawTwo : Keyed Try.prog 49 := Keyed.of_law (deep_law_laid laid (m := 3) (by omega) (of_decide_eq_true (by kernel_rfl)) (by kernel_rfl) (by kernel_rfl))
theorem cellsTold : Try.prog.cellsOf 44 = 5 := by kernel_rfl
theorem cellsTwo : Try.prog.cellsOf 49 = 2 := by kernel_rfl
theorem typeTold : Try.prog.keyType 44 = true := by kernel_rfl
theorem typeTwo : Try.prog.keyType 49 = true := by kernel_rfl
theorem zeroBool (w : World) : (zeroValue 4).run Try.prog w = .ok (.bool false) w := by kernel_rfl
theorem zeroTold (w : World) : (zeroValue 44).run Try.prog w = .ok zeroT.val_ w := by kernel_rfl
theorem fuel3 : ∃ d, Try.prog.types.size + 1 = d + 3 := ⟨Try.prog.types.size - 2, by
  have : 3 ≤ Try.prog.types.size := of_decide_eq_true (by kernel_rfl)
  omega⟩
theorem cellsInt : Try.prog.cellsOf 3 = 1 := by kernel_rfl
theorem cellsStr : Try.prog.cellsOf 9 = 1 := by kernel_rfl
theorem cellsBool : Try.prog.cellsOf 4 = 1 := by kernel_rfl
theorem keyTold {x : Told} (h : x.fits) : (keyOf Try.prog 44 x.val_).isSome = true := by
  obtain ⟨d, hd⟩ := fuel3
  obtain ⟨h1, h2, h3, h4⟩ := h
  have w1 := h1.wf; have w2 := h2.wf; have w3 := h3.wf
  unfold keyOf Told.val_
  rw [Try.underlying44, hd]
  simp [typeTold, Value.formed, Value.cells, Program.keyLits, Try.underlying44, Try.underlying3, Try.underlying9, Try.underlying4, cellsTold, cellsInt, cellsStr, cellsBool, w1, w2, w3, h4]
def two2 (a b : Int) : Value := .agg #[.int .i64 a, .int .i64 b]
theorem keyTwo {a b : Int} (h1 : I64 a) (h2 : I64 b) : (keyOf Try.prog 49 (two2 a b)).isSome = true := by
  obtain ⟨d, hd⟩ := fuel3
  have w1 := h1.wf; have w2 := h2.wf
  unfold keyOf two2
  rw [Try.underlying49, hd]
  simp [typeTwo, Value.formed, Value.cells, Program.keyLits, Try.underlying49, Try.underlying3, cellsTwo, cellsInt, w1, w2, List.range_succ]
theorem two2_inj {a b c d : Int} (h : two2 a b = two2 c d) : a = c ∧ b = d := by
  unfold two2 at h; simp at h; exact h
theorem val_inj {x y : Told} (h : x.val_ = y.val_) : x = y := by
  unfold Told.val_ at h
  cases x; cases y
  simpa using h
theorem eqTold (x y : Told) (w : World) : (Op.equalIn 10000 44 x.val_ y.val_).run Try.prog w = .ok (x.slot == y.slot && (x.ver == y.ver && (x.who == y.who && (x.val.toList == y.val.toList && x.opn == y.opn)))) w := by
  have hS : Try.prog.underlying 44 = some (.struct (Try.prog.fieldsOf 44)) := by kernel_rfl
  have hp : Try.prog.stoodInHeld 44 = false := by kernel_rfl
  unfold Told.val_
  rw [show (10000 : Nat) = 9999 + 1 from rfl, run_equalIn_agg w 9999 44 _ _ hS hp]
  simp only [Program.fieldsOf, Try.underlying44]
  go_simp
  by_cases h1 : x.slot = y.slot <;> by_cases h2 : x.ver = y.ver <;> by_cases h3 : x.who = y.who <;> by_cases h4 : x.val.toList = y.val.toList <;> by_cases h5 : x.opn = y.opn <;> simp [h1, h2, h3, h4, h5]
theorem eqTold_same (x : Told) (w : World) : (Op.equalIn 10000 44 x.val_ x.val_).run Try.prog w = .ok true w := by rw [eqTold]; simp
theorem eqTold_ne {x y : Told} (h : x ≠ y) (w : World) : (Op.equalIn 10000 44 x.val_ y.val_).run Try.prog w = .ok false w := by
  rw [eqTold]
  have : (x.slot == y.slot && (x.ver == y.ver && (x.who == y.who && (x.val.toList == y.val.toList && x.opn == y.opn)))) = false := by
    rw [Bool.eq_false_iff]
    intro hb
    simp only [Bool.and_eq_true, beq_iff_eq] at hb
    exact h (told_ext hb.1 hb.2.1 hb.2.2.1 (ba_ext (by simp [hb.2.2.2.1])) hb.2.2.2.2)
  rw [this]
end Go.Proofs.Ytmghigmegiainaa
