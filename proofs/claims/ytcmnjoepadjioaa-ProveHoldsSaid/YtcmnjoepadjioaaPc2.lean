/- What Holds, the claims' checks and their twins in the answer compute. -/
import Derived.Test.YtcmnjoepadjioaaPc1
namespace Go.Proofs.Ytcmnjoepadjioaa
open Go.RowKit Go.Maps
def wE (xs : List Int) : AV := .dsl 1 (xs.map fun x => [iv x])
def natL (xs : List Int) : List Nat := xs.map Int.toNat
def inWd (x : Int) : Prop := 0 ≤ x ∧ x < 64
instance (x : Int) : Decidable (inWd x) := by unfold inWd; infer_instance
theorem any_map_congr {α β : Type} {xs : List α} {f : α → β} {p : α → Bool} {q : β → Bool} (h : ∀ x ∈ xs, p x = q (f x)) : xs.any p = (xs.map f).any q := by
  induction xs with
  | nil => rfl
  | cons x xs ih => simp only [List.any_cons, List.map_cons, h x (by simp), ih fun y hy => h y (by simp [hy])]
theorem c_holds {xs : List Int} (hx : ∀ x ∈ xs, inWd x) {c : Clm} (hc : c.ok) : PF Try.prog 21 [wE xs, c.av] (bv (holdsC (natL xs) c)) := fun H => tri_wf fun hw => tri_prove_holds (by
  unfold S_prove_holds Clm.av wE
  simp +contextual
  refine ca_pure (by kernel_rfl) (c_ContainsFunc_int (p := fun x => holds1 x.toNat c) (by kernel_rfl) fun x hxs => ?_) ?_
  · obtain ⟨n, rfl⟩ := Int.eq_ofNat_of_zero_le (hx x hxs).1
    exact c_holds1 (by have := (hx _ hxs).2; omega) hc (put_get _ _)
  · simp [Clm.cs, bv]
    refine rt_one hw (by repeat (first | exact AH.le.refl _ | assumption | apply AH.le.up | apply AH.le.put hw (by first | omega | (simp only [up_nx, put_nx, kill_nx]; done) | (simp only [up_nx, put_nx, kill_nx]; omega)) | apply AH.le.kill hw (by first | omega | (simp only [up_nx, put_nx, kill_nx]; done) | (simp only [up_nx, put_nx, kill_nx]; omega)))) (by repeat (first | exact Cl.p _ | exact Cl.dsl _ _ | exact Cl.any | refine Cl.tup ?_ | refine Cl.agg ?_ | exact Clo.nil | refine Clo.cons ?_ ?_)) ⟨rfl, ?_⟩
    unfold holdsC natL
    rw [any_map_congr (f := Int.toNat) (q := fun w => holds1 w c) (fun _ _ => rfl)])
theorem c_Holds_fn1 (x : Int) : PF Try.prog 20 [iv x] (bv (!decide (inWd x))) := fun H => tri_wf fun hw => tri_prove_Holds_fn1 (by
  unfold S_prove_Holds_fn1 iv
  cases h : decide (x < 0) <;> cases h2 : decide (64 ≤ x) <;> simp [h, h2] <;> simp at h h2 <;> refine rt_refl ⟨rfl, ?_⟩ (Nat.le_refl _)
  · rw [show decide (inWd x) = true from decide_eq_true (by unfold inWd; omega)]; rfl
  all_goals rw [show decide (inWd x) = false from decide_eq_false (by unfold inWd; omega)]; rfl)
def okW (xs : List Int) : Int := if xs.length > 64 then 7 else if xs.all (fun x => decide (inWd x)) then 0 else 3
theorem c_Holds (xs : List Int) (c : Clm) : PF Try.prog 7 [wE xs, c.av] (.tup [bv (decide (okW xs = 0 ∧ c.ok) && holdsC (natL xs) c), iv (if okW xs = 0 then (if c.ok then 0 else 3) else okW xs)]) := fun H => tri_wf fun hw => tri_prove_Holds (by
  unfold S_prove_Holds Clm.av wE
  simp +contextual
  refine ⟨fun h => ?_, fun h => ?_⟩
  · refine rt_tup hw (by repeat (first | exact AH.le.refl _ | assumption | apply AH.le.up | apply AH.le.put hw (by first | omega | (simp only [up_nx, put_nx, kill_nx]; done) | (simp only [up_nx, put_nx, kill_nx]; omega)) | apply AH.le.kill hw (by first | omega | (simp only [up_nx, put_nx, kill_nx]; done) | (simp only [up_nx, put_nx, kill_nx]; omega)))) (by repeat (first | exact Cl.p _ | exact Cl.dsl _ _ | exact Cl.any | refine Cl.tup ?_ | refine Cl.agg ?_ | exact Clo.nil | refine Clo.cons ?_ ?_)) ⟨rfl, ?_⟩
    have h2 : okW xs = 7 := by unfold okW; rw [if_pos (by omega)]
    simp [h2, bv, iv]
  · refine ca_pure (by kernel_rfl) (c_ContainsFunc_int (p := fun x => !decide (inWd x)) (by kernel_rfl) fun x hxs => c_Holds_fn1 x _) ?_
    cases h3 : xs.any (fun x => !decide (inWd x)) <;> simp [bv, Clm.cs]
    · have hall : ∀ x ∈ xs, inWd x := by simpa using h3
      have h2 : okW xs = 0 := by unfold okW; rw [if_neg (by omega), if_pos (by simpa using hall)]
      refine ca_pure (by kernel_rfl) (c_Check c _) ?_
      by_cases hc : c.ok <;> simp [hc, iv]
      · refine ca_pure (by kernel_rfl) (c_holds hall hc _) ?_
        exact rt_tup hw (by repeat (first | exact AH.le.refl _ | assumption | apply AH.le.up | apply AH.le.put hw (by first | omega | (simp only [up_nx, put_nx, kill_nx]; done) | (simp only [up_nx, put_nx, kill_nx]; omega)) | apply AH.le.kill hw (by first | omega | (simp only [up_nx, put_nx, kill_nx]; done) | (simp only [up_nx, put_nx, kill_nx]; omega)))) (by repeat (first | exact Cl.p _ | exact Cl.dsl _ _ | exact Cl.any | refine Cl.tup ?_ | refine Cl.agg ?_ | exact Clo.nil | refine Clo.cons ?_ ?_)) ⟨rfl, by simp [h2, bv]⟩
      · exact rt_tup hw (by repeat (first | exact AH.le.refl _ | assumption | apply AH.le.up | apply AH.le.put hw (by first | omega | (simp only [up_nx, put_nx, kill_nx]; done) | (simp only [up_nx, put_nx, kill_nx]; omega)) | apply AH.le.kill hw (by first | omega | (simp only [up_nx, put_nx, kill_nx]; done) | (simp only [up_nx, put_nx, kill_nx]; omega)))) (by repeat (first | exact Cl.p _ | exact Cl.dsl _ _ | exact Cl.any | refine Cl.tup ?_ | refine Cl.agg ?_ | exact Clo.nil | refine Clo.cons ?_ ?_)) ⟨rfl, by simp [h2]⟩
    · have h2 : okW xs = 3 := by unfold okW; rw [if_neg (by omega), if_neg (by simpa using h3)]
      exact rt_tup hw (by repeat (first | exact AH.le.refl _ | assumption | apply AH.le.up | apply AH.le.put hw (by first | omega | (simp only [up_nx, put_nx, kill_nx]; done) | (simp only [up_nx, put_nx, kill_nx]; omega)) | apply AH.le.kill hw (by first | omega | (simp only [up_nx, put_nx, kill_nx]; done) | (simp only [up_nx, put_nx, kill_nx]; omega)))) (by repeat (first | exact Cl.p _ | exact Cl.dsl _ _ | exact Cl.any | refine Cl.tup ?_ | refine Cl.agg ?_ | exact Clo.nil | refine Clo.cons ?_ ?_)) ⟨rfl, by simp [h2, iv]⟩)
theorem c_RCheckClaim (c : Clm) : PF Try.prog 9 [c.av] (iv (if c.ok then 0 else 3)) := fun H => tri_wf fun hw => tri_wordhoardref_CheckClaim (by
  unfold S_wordhoardref_CheckClaim Clm.av Clm.cs
  cases h1 : decide (c.a = 0) <;> cases h2 : decide (c.a < -6) <;> cases h3 : decide (6 < c.a) <;> cases h4 : decide (c.b = 0) <;> cases h5 : decide (c.b < -6) <;> cases h6 : decide (6 < c.b) <;> simp [h1, h2, h3, h4, h5, h6] <;> simp at h1 h2 h3 h4 h5 h6 <;>
    exact rt_one hw (by repeat (first | exact AH.le.refl _ | assumption | apply AH.le.up | apply AH.le.put hw (by first | omega | (simp only [up_nx, put_nx, kill_nx]; done) | (simp only [up_nx, put_nx, kill_nx]; omega)) | apply AH.le.kill hw (by first | omega | (simp only [up_nx, put_nx, kill_nx]; done) | (simp only [up_nx, put_nx, kill_nx]; omega)))) (by repeat (first | exact Cl.p _ | exact Cl.dsl _ _ | exact Cl.any | refine Cl.tup ?_ | refine Cl.agg ?_ | exact Clo.nil | refine Clo.cons ?_ ?_)) ⟨rfl, by first | (rw [if_pos (by unfold Clm.ok litOk; omega)]; rfl) | (rw [if_neg (by unfold Clm.ok litOk; omega)]; rfl)⟩)
theorem c_RCheckWorld (xs : List Int) : PF Try.prog 8 [wE xs] (iv (okW xs)) := fun H => tri_wf fun hw => tri_len 0 rfl fun hl _ => tri_wordhoardref_CheckWorld (by
  have hml : maxLen = 9223372036854775807 := by decide
  rw [List.length_map] at hl
  unfold S_wordhoardref_CheckWorld wE
  simp +contextual
  refine ⟨fun h => rt_refl ⟨rfl, by unfold okW iv; rw [if_pos (by omega)]⟩ (Nat.le_refl _), fun h => ?_⟩
  refine loop_st (fun i : Nat => [iv i]) (fun i H' => H' = H ∧ i ≤ xs.length ∧ ∀ y ∈ xs.take i, (!decide (inWd y)) = false) (fun i => xs.length - i) 0 (.refl (Nat.le_refl _)) ⟨rfl, Nat.zero_le _, by simp⟩ ?_
  rintro i _ _ ⟨rfl, hi, hno⟩ k hk
  simp only [iv, List.getD_cons_zero]
  by_cases hi2 : i < xs.length
  · have hx := List.getElem?_eq_getElem hi2
    cases h1 : decide (xs[i] < 0) <;> cases h2 : decide (63 < xs[i]) <;> simp [hi2, h1, h2] <;> simp at h1 h2
    · rw [ivn (by omega)]
      exact hk (i + 1) _ _ _ (.refl (Nat.le_refl _)) ⟨rfl, by omega, any_take hno hx (by rw [show decide (inWd xs[i]) = true from decide_eq_true (by unfold inWd; omega)]; rfl)⟩ (by omega)
    all_goals
      refine rt_refl ⟨rfl, ?_⟩ (Nat.le_refl _)
      unfold okW
      rw [if_neg (by omega), if_neg]
      simp only [List.all_eq_true, decide_eq_true_eq]
      intro hall
      have := hall _ (List.getElem_mem hi2)
      unfold inWd at this
      omega
  · simp [hi2]
    refine rt_refl ⟨rfl, ?_⟩ (Nat.le_refl _)
    unfold okW
    rw [if_neg (by omega), if_pos]
    rw [List.take_of_length_le (by omega)] at hno
    simpa using hno)
theorem c_RIs (w : Nat) (hw64 : w < 9223372036854775808) (x : Int) (hx : litOk x) : PF Try.prog 23 [iv w, iv x] (bv (isL w x)) := fun H => tri_wf fun hw => tri_wordhoardref_Is (by
  unfold S_wordhoardref_Is
  refine cut_st (α := Unit) (fun _ => [iv (if x < 0 then -x else x)]) (fun _ H' => H' = H) (fun k hk => ?_) ?_
  · have h2' : IntKind.i64.wrap (-x) = -x := by rw [IntKind.wrap_i64]; unfold litOk at hx; omega
    cases h : decide (x < 0) <;> simp [iv, h, h2'] <;> simp at h <;> refine hk () _ _ _ ?_ rfl
    · rw [if_neg (by omega)]; exact .refl (Nat.le_refl _)
    · rw [if_pos (by omega)]; exact .refl (Nat.le_refl _)
  · rintro _ H _ rfl
    obtain ⟨n, hn⟩ : ∃ n : Nat, (if x < 0 then -x else x) = (n : Int) := Int.eq_ofNat_of_zero_le (by split <;> omega)
    rw [hn]
    have hn0 : 0 < n ∧ n ≤ 6 := by unfold litOk at hx; split at hn <;> omega
    refine loop_st (fun i : Nat => [iv ((w / 2 ^ i : Nat) : Int), iv ((i + 1 : Nat) : Int)]) (fun i H' => H' = H ∧ i < n) (fun i => n - i) 0 ?_ ⟨rfl, by omega⟩ ?_
    · simp
      exact .refl (Nat.le_refl _)
    · rintro i _ _ ⟨rfl, hi⟩ k hk
      simp only [iv, List.getD_cons_zero, List.getD_cons_succ]
      obtain ⟨m, hm⟩ : ∃ m : Nat, w / 2 ^ i = m := ⟨_, rfl⟩
      have hm1 : w / 2 ^ (i + 1) = m / 2 := by rw [Nat.pow_succ, ← Nat.div_div_eq_div_mul, hm]
      have hmw : m ≤ w := by rw [← hm]; exact Nat.div_le_self _ _
      rw [hm]
      have hq : IntKind.i64.wrap (Int.tdiv (m : Int) 2) = ((w / 2 ^ (i + 1) : Nat) : Int) := by
        rw [hm1, Int.tdiv_eq_ediv_of_nonneg (by omega), IntKind.wrap_i64]; omega
      have hi1 : IntKind.i64.wrap (((i + 1 : Nat) : Int) + 1) = ((i + 1 + 1 : Nat) : Int) := ivn (by omega)
      have hr : Int.tmod (m : Int) 2 = ((m % 2 : Nat) : Int) := by rw [Int.tmod_eq_emod_of_nonneg (by omega)]; omega
      rw [q_lss_i, cd_eq]
      refine ⟨fun h => ?_, fun h => ?_⟩
      · rw [decide_eq_true_iff] at h
        rw [q_quo_i, q_add_i, hq, hi1]
        exact ⟨by omega, hk (i + 1) _ _ _ (.refl (Nat.le_refl _)) ⟨rfl, by omega⟩ (by omega)⟩
      · rw [decide_eq_false_iff_not] at h
        rw [q_rem_i, hr, q_eql_i, q_gtr_i, q_eql_b]
        refine ⟨by omega, by kernel_rfl, rt_refl ⟨rfl, ?_⟩ (Nat.le_refl _)⟩
        have hin : i = n - 1 := by omega
        subst hin
        clear hi1 hq
        unfold bv isL
        congr 2
        by_cases hx0 : x < 0
        · rw [if_pos hx0] at hn ⊢
          rw [hn, Int.toNat_natCast, isL_div, hm, Bool.eq_iff_iff]
          simp
          omega
        · rw [if_neg hx0] at hn ⊢
          rw [hn, Int.toNat_natCast, isL_div, hm, Bool.eq_iff_iff]
          simp
          omega)
end Go.Proofs.Ytcmnjoepadjioaa
