/- What the small functions of prove and of its answer compute. -/
import Derived.Test.YtcmnjoepadjioaaPa
import Derived.Test.YtcmnjoepadjioaaPv2
import Derived.Test.YtcmnjoepadjioaaAwK
namespace Go.Proofs.Ytcmnjoepadjioaa
open Go.RowKit Go.Maps
def Clm.cs (c : Clm) : List AV := [.p (.bool c.so), .p (.int .i64 c.a), .p (.int .i64 c.b)]
def Clm.av (c : Clm) : AV := .agg c.cs
def iv (i : Int) : AV := .p (.int .i64 i)
def bv (b : Bool) : AV := .p (.bool b)
theorem c_literal (n : Int) : PF Try.prog 22 [iv n] (bv (decide (litOk n))) := fun H => tri_wf fun hw => tri_prove_literal (by
  unfold S_prove_literal iv bv litOk
  simp +contextual
  refine ⟨fun h => ⟨fun _ => rt_refl ⟨rfl, by simp [*]⟩ (Nat.le_refl _), fun h2 => ⟨fun h3 => by omega, ?_⟩⟩, fun h => rt_refl ⟨rfl, rfl⟩ (Nat.le_refl _)⟩
  rw [if_neg (by omega)]
  exact rt_refl ⟨rfl, by simp [show ¬ -6 ≤ n by omega]⟩ (Nat.le_refl _))
theorem c_Check (c : Clm) : PF Try.prog 11 [c.av] (iv (if c.ok then 0 else 3)) := fun H => tri_wf fun hw => tri_prove_Check (by
  unfold S_prove_Check Clm.av Clm.cs
  simp +contextual
  refine ca_pure (by kernel_rfl) (c_literal _ _) ?_
  cases h1 : decide (litOk c.a) <;> simp [bv, Clm.ok]
  · exact rt_one hw (by repeat (first | exact AH.le.refl _ | assumption | apply AH.le.up | apply AH.le.put hw (by first | omega | (simp only [up_nx, put_nx, kill_nx]; done) | (simp only [up_nx, put_nx, kill_nx]; omega)) | apply AH.le.kill hw (by first | omega | (simp only [up_nx, put_nx, kill_nx]; done) | (simp only [up_nx, put_nx, kill_nx]; omega)))) (by repeat (first | exact Cl.p _ | exact Cl.dsl _ _ | exact Cl.any | refine Cl.tup ?_ | refine Cl.agg ?_ | exact Clo.nil | refine Clo.cons ?_ ?_)) ⟨rfl, by simp at h1; simp [h1, iv]⟩
  · refine ca_pure (by kernel_rfl) (c_literal _ _) ?_
    simp at h1
    cases h2 : decide (litOk c.b) <;> simp [bv, h1] <;> simp at h2 <;> exact rt_one hw (by repeat (first | exact AH.le.refl _ | assumption | apply AH.le.up | apply AH.le.put hw (by first | omega | (simp only [up_nx, put_nx, kill_nx]; done) | (simp only [up_nx, put_nx, kill_nx]; omega)) | apply AH.le.kill hw (by first | omega | (simp only [up_nx, put_nx, kill_nx]; done) | (simp only [up_nx, put_nx, kill_nx]; omega)))) (by repeat (first | exact Cl.p _ | exact Cl.dsl _ _ | exact Cl.any | refine Cl.tup ?_ | refine Cl.agg ?_ | exact Clo.nil | refine Clo.cons ?_ ?_)) ⟨rfl, by simp [h2, iv]⟩)

theorem any_take {α : Type} {xs : List α} {p : α → Bool} {i : Nat} {x : α} (h : ∀ y ∈ xs.take i, p y = false) (hx : xs[i]? = some x) (hp : p x = false) : ∀ y ∈ xs.take (i + 1), p y = false := fun y hy => by
  rw [List.take_add_one, hx] at hy
  simp at hy
  rcases hy with hy | rfl
  · exact h y hy
  · exact hp
theorem c_IndexFunc_int {H : AH} {xs : List Int} {g : FuncId} {first cap : List AV} {p : Int → Bool} (hg : callable Try.prog g = true) (hp : ∀ x ∈ xs, Tri Try.prog g (first ++ [iv x] ++ cap) H (fun v H' => H' = H ∧ v = bv (p x))) :
    Tri Try.prog 37 [.dsl 1 (xs.map fun x => [iv x]), .fn (.func g) first cap] H (fun v H' => H' = H ∧ ∃ i : Int, v = iv i ∧ decide (i ≥ 0) = xs.any p) := tri_wf fun hw => tri_len 0 rfl fun hl _ => tri_slices_IndexFunc_s_int_int (by
  have hml : maxLen = 9223372036854775807 := by decide
  rw [List.length_map] at hl
  unfold S_slices_IndexFunc_s_int_int
  simp +contextual
  refine loop_st (fun i : Nat => [iv i]) (fun i H' => H' = H ∧ i ≤ xs.length ∧ ∀ y ∈ xs.take i, p y = false) (fun i => xs.length - i) 0 (.refl (Nat.le_refl _)) ⟨rfl, Nat.zero_le _, by simp⟩ ?_
  rintro i _ _ ⟨rfl, hi, hno⟩ k hk
  simp only [iv, List.getD_cons_zero]
  simp +contextual
  refine ⟨fun h => ?_, fun h => ?_⟩
  · have hx := List.getElem?_eq_getElem h
    refine ca_pure hg (hp _ (List.getElem_mem h)) ?_
    cases hq : p xs[i]
    · simp [bv]
      rw [ivn (by omega)]
      exact hk (i + 1) _ _ _ (.refl (Nat.le_refl _)) ⟨rfl, h, any_take hno hx hq⟩ (by omega)
    · simp [bv]
      exact rt_refl ⟨rfl, _, rfl, by simp; exact ⟨_, List.getElem_mem h, hq⟩⟩ (Nat.le_refl _)
  · have : xs.any p = false := by
      rw [List.any_eq_false]; intro y hy; rw [hno y (by rw [List.take_of_length_le (by omega)]; exact hy)]; simp
    exact rt_refl ⟨rfl, _, rfl, by rw [this]; rfl⟩ (Nat.le_refl _))
theorem c_ContainsFunc_int {H : AH} {xs : List Int} {g : FuncId} {first cap : List AV} {p : Int → Bool} (hg : callable Try.prog g = true) (hp : ∀ x ∈ xs, Tri Try.prog g (first ++ [iv x] ++ cap) H (fun v H' => H' = H ∧ v = bv (p x))) :
    Tri Try.prog 19 [.dsl 1 (xs.map fun x => [iv x]), .fn (.func g) first cap] H (fun v H' => H' = H ∧ v = bv (xs.any p)) := tri_wf fun hw => tri_slices_ContainsFunc_s_int_int (by
  unfold S_slices_ContainsFunc_s_int_int
  refine ca_of (by kernel_rfl) (c_IndexFunc_int hg hp) ?_
  rintro _ _ ⟨rfl, i, rfl, hi⟩
  simp only [iv, ↓q_geq_i]
  exact rt_refl ⟨rfl, by rw [hi]; rfl⟩ (Nat.le_refl _))
theorem isL_div {w n : Nat} : w.testBit n = decide (w / 2 ^ n % 2 = 1) := Nat.testBit_eq_decide_div_mod_eq
theorem c_is (w : Nat) (hw64 : w < 9223372036854775808) : ∀ x : Int, litOk x → PF Try.prog 39 [iv w, iv x] (bv (isL w x)) := by
  have pos : ∀ x : Int, litOk x → 0 < x → PF Try.prog 39 [iv w, iv x] (bv (isL w x)) := fun x hx h0 H => tri_wf fun hw => tri_prove_is (by
    unfold S_prove_is iv
    obtain ⟨n, rfl⟩ := Int.eq_ofNat_of_zero_le (by omega : 0 ≤ x)
    have h2 : ¬ ((n : Int) < 0) := by omega
    have h3 : IntKind.i64.wrap ((n : Int) - 1) = ((n - 1 : Nat) : Int) := by rw [IntKind.wrap_i64]; unfold litOk at hx; omega
    have h4 : min (n - 1) IntKind.i64.bits = n - 1 := by unfold litOk at hx; show min (n - 1) 64 = n - 1; omega
    have h5 : (w : Int).fdiv (2 ^ (n - 1)) = ((w / 2 ^ (n - 1) : Nat) : Int) := by
      rw [Int.fdiv_eq_ediv_of_nonneg _ (by exact_mod_cast Nat.zero_le _)]; push_cast; rfl
    have h6 : w / 2 ^ (n - 1) < 9223372036854775808 := Nat.lt_of_le_of_lt (Nat.div_le_self _ _) hw64
    have h7 := i64_and_nat _ 1 h6 (by omega)
    change bit_and .i64 ((w / 2 ^ (n - 1) : Nat) : Int) 1 = _ at h7
    have h8 : (((w / 2 ^ (n - 1) &&& 1 : Nat) : Int) = 1) ↔ w.testBit (n - 1) = true := by
      rw [isL_div, Nat.and_one_is_mod, decide_eq_true_iff]; omega
    have h9 : bit_and .i64 ((w : Int) / 2 ^ (n - 1)) 1 = ((w / 2 ^ (n - 1) &&& 1 : Nat) : Int) := by rw [← h7]; push_cast; rfl
    simp [h2, h3, h4, h5]
    refine rt_refl ⟨rfl, ?_⟩ (Nat.le_refl _)
    simp [bv, isL, h2]
    rw [h9, Bool.eq_iff_iff, decide_eq_true_iff]; exact h8)
  intro x hx H
  by_cases h0 : 0 < x
  · exact pos x hx h0 H
  refine tri_prove_is ?_
  unfold S_prove_is
  have h1 : x < 0 := by unfold litOk at hx; omega
  have h2 : IntKind.i64.wrap (0 - x) = -x := by rw [IntKind.wrap_i64]; unfold litOk at hx; omega
  have h2' : IntKind.i64.wrap (-x) = -x := by rw [IntKind.wrap_i64]; unfold litOk at hx; omega
  simp [iv, h1, h2, h2']
  refine ca_pure (by kernel_rfl) (pos (-x) (lit_neg hx) (by omega) H) ?_
  simp [bv]
  refine rt_refl ⟨rfl, ?_⟩ (Nat.le_refl _)
  rw [isL_neg hx, Bool.not_not]
theorem c_holds1 {H : AH} {w : Nat} (hw64 : w < 9223372036854775808) {c : Clm} (hc : c.ok) {i : Nat} {t : TypeId} (hg : H.get i = some (.box t c.cs)) : Tri Try.prog 38 [iv w, .ptr i 0] H (fun v H' => H' = H ∧ v = bv (holds1 w c)) := tri_prove_holds_fn1 (by
  unfold S_prove_holds_fn1
  simp [hg, Clm.cs]
  refine cav_pure (by kernel_rfl) (fun H2 _ => c_is w hw64 c.a hc.1 H2) ?_
  unfold holds1
  cases h : isL w c.a
  · simp [bv]
    exact rt_refl ⟨rfl, rfl⟩ (Nat.le_refl _)
  · simp [bv, hg, Clm.cs]
    refine cav_pure (by kernel_rfl) (fun H2 _ => c_is w hw64 c.b hc.2 H2) ?_
    simp [bv, hg, Clm.cs]
    exact rt_refl ⟨rfl, rfl⟩ (Nat.le_refl _))
end Go.Proofs.Ytcmnjoepadjioaa
