/- Texts that the proof rests on, part 14: what each holds stands at its head. -/
import Derived.Test.YtkocpdekknfmaaaKs13

/- What is wrong with a type or a term, the whole question: both programs. -/
namespace Go.Proofs.Ytkocpdekknfmaaa
open Go.RowKit Go.Maps
theorem c_CheckType (t : Ty) : PF Try.prog 21 [t.av] (iv t.check) := fun H => tri_wf fun hw => tri_term_CheckType (by
  unfold S_term_CheckType
  simp (disch := first | omega | simp) [Ty.av, Ty.cs_len, Ty.cs_take]
  refine ca_pure (by kernel_rfl) (c_typeSize t 60 (by decide) (by decide) _) ?_
  by_cases h : (t.size : Int) ≤ 60
  · have hc : t.check = t.wrong := by unfold Ty.check; rw [if_neg (by omega)]
    have h2 : ¬ (60 : Int) < (t.size : Int) := by omega
    rw [capN_low h]
    simp (disch := first | omega | simp) [iv, Ty.cs_len, Ty.cs_take, h2]
    refine ca_pure (by kernel_rfl) (c_checkTy t.size t (Nat.le_refl _) _) ?_
    exact rt_one hw (by repeat (first | with_reducible assumption | with_reducible exact AH.le.refl _ | with_reducible apply AH.le.up | (with_reducible refine AH.le.put hw ?_ ?_; · first | omega | (simp only [up_nx, put_nx, kill_nx]; done) | (simp only [up_nx, put_nx, kill_nx]; omega)) | (with_reducible refine AH.le.kill hw ?_ ?_; · first | omega | (simp only [up_nx, put_nx, kill_nx]; done) | (simp only [up_nx, put_nx, kill_nx]; omega)))) (by repeat (first | exact Cl.p _ | exact Cl.dsl _ _ | exact Cl.any | refine Cl.tup ?_ | refine Cl.agg ?_ | exact Clo.nil | refine Clo.cons ?_ ?_)) ⟨rfl, by rw [hc]; rfl⟩
  · have hc : t.check = 7 := by unfold Ty.check; rw [if_pos (by omega)]
    rw [capN_high h]
    simp (disch := first | omega | simp) [iv]
    exact rt_one hw (by repeat (first | with_reducible assumption | with_reducible exact AH.le.refl _ | with_reducible apply AH.le.up | (with_reducible refine AH.le.put hw ?_ ?_; · first | omega | (simp only [up_nx, put_nx, kill_nx]; done) | (simp only [up_nx, put_nx, kill_nx]; omega)) | (with_reducible refine AH.le.kill hw ?_ ?_; · first | omega | (simp only [up_nx, put_nx, kill_nx]; done) | (simp only [up_nx, put_nx, kill_nx]; omega)))) (by repeat (first | exact Cl.p _ | exact Cl.dsl _ _ | exact Cl.any | refine Cl.tup ?_ | refine Cl.agg ?_ | exact Clo.nil | refine Clo.cons ?_ ?_)) ⟨rfl, by rw [hc]⟩)
theorem c_RCheckType (t : Ty) : PF Try.prog 22 [t.av] (iv t.check) := fun H => tri_wf fun hw => tri_wordhoardref_CheckType (by
  unfold S_wordhoardref_CheckType
  simp (disch := first | omega | simp) [Ty.av, Ty.cs_len, Ty.cs_take]
  refine ca_pure (by kernel_rfl) (c_RTypeSize t.size t (Nat.le_refl _) 60 _ (by decide) (by decide)) ?_
  by_cases h : (t.size : Int) ≤ 60
  · have hc : t.check = t.wrong := by unfold Ty.check; rw [if_neg (by omega)]
    have h2 : ¬ (60 : Int) < (t.size : Int) := by omega
    rw [capN_low h]
    simp (disch := first | omega | simp) [iv, Ty.cs_len, Ty.cs_take, h2]
    refine ca_pure (by kernel_rfl) (c_typeWrong t.size t (Nat.le_refl _) _) ?_
    exact rt_one hw (by repeat (first | with_reducible assumption | with_reducible exact AH.le.refl _ | with_reducible apply AH.le.up | (with_reducible refine AH.le.put hw ?_ ?_; · first | omega | (simp only [up_nx, put_nx, kill_nx]; done) | (simp only [up_nx, put_nx, kill_nx]; omega)) | (with_reducible refine AH.le.kill hw ?_ ?_; · first | omega | (simp only [up_nx, put_nx, kill_nx]; done) | (simp only [up_nx, put_nx, kill_nx]; omega)))) (by repeat (first | exact Cl.p _ | exact Cl.dsl _ _ | exact Cl.any | refine Cl.tup ?_ | refine Cl.agg ?_ | exact Clo.nil | refine Clo.cons ?_ ?_)) ⟨rfl, by rw [hc]; rfl⟩
  · have hc : t.check = 7 := by unfold Ty.check; rw [if_pos (by omega)]
    rw [capN_high h]
    simp (disch := first | omega | simp) [iv]
    exact rt_one hw (by repeat (first | with_reducible assumption | with_reducible exact AH.le.refl _ | with_reducible apply AH.le.up | (with_reducible refine AH.le.put hw ?_ ?_; · first | omega | (simp only [up_nx, put_nx, kill_nx]; done) | (simp only [up_nx, put_nx, kill_nx]; omega)) | (with_reducible refine AH.le.kill hw ?_ ?_; · first | omega | (simp only [up_nx, put_nx, kill_nx]; done) | (simp only [up_nx, put_nx, kill_nx]; omega)))) (by repeat (first | exact Cl.p _ | exact Cl.dsl _ _ | exact Cl.any | refine Cl.tup ?_ | refine Cl.agg ?_ | exact Clo.nil | refine Clo.cons ?_ ?_)) ⟨rfl, by rw [hc]⟩)
set_option maxHeartbeats 8000000 in
theorem c_checkTm (N : Nat) : ∀ t : Tm, t.size ≤ N → ∀ H : AH, Tri Try.prog 39 [t.av] H (fun r H' => H' = H ∧ r = iv t.wrong) := by
  induction N with
  | zero => intro t ht; have := t.size_pos; omega
  | succ N ih =>
    intro t ht H
    refine tri_wf fun hw => tri_lenA 0 5 rfl t.cs_g5 fun hl => tri_term_check ?_
    have hml : maxLen = 9223372036854775807 := by decide
    rw [List.length_map] at hl
    have hsz := t.size_eq
    have hk : ∀ x ∈ t.kids, ∀ H, Tri Try.prog 39 [x.av] H (fun r H' => H' = H ∧ r = iv x.wrong) := fun x hx H => ih x (by have := Tm.sizes_mem hx; omega) H
    unfold S_term_check
    by_cases ka : t.kind < 1
    · have hwr : t.wrong = 4 := by rw [Tm.wrong_eq]; simp [Tm.head, ka]
      simp (disch := first | omega | simp) [iv, Tm.av, Tm.cs_g0, ka]
      exact rt_one hw (by repeat (first | with_reducible assumption | with_reducible exact AH.le.refl _ | with_reducible apply AH.le.up | (with_reducible refine AH.le.put hw ?_ ?_; · first | omega | (simp only [up_nx, put_nx, kill_nx]; done) | (simp only [up_nx, put_nx, kill_nx]; omega)) | (with_reducible refine AH.le.kill hw ?_ ?_; · first | omega | (simp only [up_nx, put_nx, kill_nx]; done) | (simp only [up_nx, put_nx, kill_nx]; omega)))) (by repeat (first | exact Cl.p _ | exact Cl.dsl _ _ | exact Cl.any | refine Cl.tup ?_ | refine Cl.agg ?_ | exact Clo.nil | refine Clo.cons ?_ ?_)) ⟨rfl, by rw [hwr]⟩
    by_cases kb : 4 < t.kind
    · have hwr : t.wrong = 4 := by rw [Tm.wrong_eq]; simp [Tm.head, ka, kb]
      simp (disch := first | omega | simp) [iv, Tm.av, Tm.cs_g0, ka, kb]
      exact rt_one hw (by repeat (first | with_reducible assumption | with_reducible exact AH.le.refl _ | with_reducible apply AH.le.up | (with_reducible refine AH.le.put hw ?_ ?_; · first | omega | (simp only [up_nx, put_nx, kill_nx]; done) | (simp only [up_nx, put_nx, kill_nx]; omega)) | (with_reducible refine AH.le.kill hw ?_ ?_; · first | omega | (simp only [up_nx, put_nx, kill_nx]; done) | (simp only [up_nx, put_nx, kill_nx]; omega)))) (by repeat (first | exact Cl.p _ | exact Cl.dsl _ _ | exact Cl.any | refine Cl.tup ?_ | refine Cl.agg ?_ | exact Clo.nil | refine Clo.cons ?_ ?_)) ⟨rfl, by rw [hwr]⟩
    have kc : t.kind = 1 ∨ t.kind = 2 ∨ t.kind = 3 ∨ t.kind = 4 := by omega
    clear ka kb
    rcases kc with k1 | k1 | k1 | k1
    · by_cases l : t.kids.length = 0
      · have hn3 : t.num < 0 ∨ t.num = 0 ∨ 0 < t.num := by omega
        have hb4 : t.type.kind ≠ 0 ∨ (t.type.kind = 0 ∧ t.type.num ≠ 0) ∨ (t.type.kind = 0 ∧ t.type.num = 0 ∧ t.type.kids.length ≠ 0) ∨ (t.type.kind = 0 ∧ t.type.num = 0 ∧ t.type.kids.length = 0) := by omega
        rcases hb4 with b1 | ⟨b1, b2⟩ | ⟨b1, b2, b3⟩ | ⟨b1, b2, b3⟩ <;> rcases hn3 with n | n | n
        · have hwr : t.wrong = 3 := by rw [Tm.wrong_eq]; simp [Tm.head, Ty.bare, k1, l, b1, n]
          simp (disch := first | omega | simp) [iv, Tm.av, Tm.cs_g0, Tm.cs_g5, k1, l]
          unfold S_term_check_C3
          simp (disch := first | omega | simp) [iv, Tm.cs_g1, Tm.cs_g2, b1, n]
          exact rt_one hw (by repeat (first | with_reducible assumption | with_reducible exact AH.le.refl _ | with_reducible apply AH.le.up | (with_reducible refine AH.le.put hw ?_ ?_; · first | omega | (simp only [up_nx, put_nx, kill_nx]; done) | (simp only [up_nx, put_nx, kill_nx]; omega)) | (with_reducible refine AH.le.kill hw ?_ ?_; · first | omega | (simp only [up_nx, put_nx, kill_nx]; done) | (simp only [up_nx, put_nx, kill_nx]; omega)))) (by repeat (first | exact Cl.p _ | exact Cl.dsl _ _ | exact Cl.any | refine Cl.tup ?_ | refine Cl.agg ?_ | exact Clo.nil | refine Clo.cons ?_ ?_)) ⟨rfl, by rw [hwr]⟩
        · have hwr : t.wrong = 3 := by rw [Tm.wrong_eq]; simp [Tm.head, Ty.bare, k1, l, b1, n]
          simp (disch := first | omega | simp) [iv, Tm.av, Tm.cs_g0, Tm.cs_g5, k1, l]
          unfold S_term_check_C3
          simp (disch := first | omega | simp) [iv, Tm.cs_g0, Tm.cs_g1, Tm.cs_g2, k1, b1, n]
          exact rt_one hw (by repeat (first | with_reducible assumption | with_reducible exact AH.le.refl _ | with_reducible apply AH.le.up | (with_reducible refine AH.le.put hw ?_ ?_; · first | omega | (simp only [up_nx, put_nx, kill_nx]; done) | (simp only [up_nx, put_nx, kill_nx]; omega)) | (with_reducible refine AH.le.kill hw ?_ ?_; · first | omega | (simp only [up_nx, put_nx, kill_nx]; done) | (simp only [up_nx, put_nx, kill_nx]; omega)))) (by repeat (first | exact Cl.p _ | exact Cl.dsl _ _ | exact Cl.any | refine Cl.tup ?_ | refine Cl.agg ?_ | exact Clo.nil | refine Clo.cons ?_ ?_)) ⟨rfl, by rw [hwr]⟩
        · have n1 : ¬ t.num < 0 := by omega
          have n2 : ¬ t.num = 0 := by omega
          have hwr : t.wrong = 3 := by rw [Tm.wrong_eq]; simp [Tm.head, Ty.bare, k1, l, b1, n, n1]
          simp (disch := first | omega | simp) [iv, Tm.av, Tm.cs_g0, Tm.cs_g5, k1, l]
          unfold S_term_check_C3
          simp (disch := first | omega | simp) [iv, Tm.cs_g0, Tm.cs_g1, Tm.cs_g2, k1, b1, n, n1]
          exact rt_one hw (by repeat (first | with_reducible assumption | with_reducible exact AH.le.refl _ | with_reducible apply AH.le.up | (with_reducible refine AH.le.put hw ?_ ?_; · first | omega | (simp only [up_nx, put_nx, kill_nx]; done) | (simp only [up_nx, put_nx, kill_nx]; omega)) | (with_reducible refine AH.le.kill hw ?_ ?_; · first | omega | (simp only [up_nx, put_nx, kill_nx]; done) | (simp only [up_nx, put_nx, kill_nx]; omega)))) (by repeat (first | exact Cl.p _ | exact Cl.dsl _ _ | exact Cl.any | refine Cl.tup ?_ | refine Cl.agg ?_ | exact Clo.nil | refine Clo.cons ?_ ?_)) ⟨rfl, by rw [hwr]⟩
        · have hwr : t.wrong = 3 := by rw [Tm.wrong_eq]; simp [Tm.head, Ty.bare, k1, l, b1, b2, n]
          simp (disch := first | omega | simp) [iv, Tm.av, Tm.cs_g0, Tm.cs_g5, k1, l]
          unfold S_term_check_C3
          simp (disch := first | omega | simp) [iv, Tm.cs_g1, Tm.cs_g2, Tm.cs_g3, b1, b2, n]
          exact rt_one hw (by repeat (first | with_reducible assumption | with_reducible exact AH.le.refl _ | with_reducible apply AH.le.up | (with_reducible refine AH.le.put hw ?_ ?_; · first | omega | (simp only [up_nx, put_nx, kill_nx]; done) | (simp only [up_nx, put_nx, kill_nx]; omega)) | (with_reducible refine AH.le.kill hw ?_ ?_; · first | omega | (simp only [up_nx, put_nx, kill_nx]; done) | (simp only [up_nx, put_nx, kill_nx]; omega)))) (by repeat (first | exact Cl.p _ | exact Cl.dsl _ _ | exact Cl.any | refine Cl.tup ?_ | refine Cl.agg ?_ | exact Clo.nil | refine Clo.cons ?_ ?_)) ⟨rfl, by rw [hwr]⟩
        · have hwr : t.wrong = 3 := by rw [Tm.wrong_eq]; simp [Tm.head, Ty.bare, k1, l, b1, b2, n]
          simp (disch := first | omega | simp) [iv, Tm.av, Tm.cs_g0, Tm.cs_g5, k1, l]
          unfold S_term_check_C3
          simp (disch := first | omega | simp) [iv, Tm.cs_g0, Tm.cs_g1, Tm.cs_g2, Tm.cs_g3, k1, b1, b2, n]
          exact rt_one hw (by repeat (first | with_reducible assumption | with_reducible exact AH.le.refl _ | with_reducible apply AH.le.up | (with_reducible refine AH.le.put hw ?_ ?_; · first | omega | (simp only [up_nx, put_nx, kill_nx]; done) | (simp only [up_nx, put_nx, kill_nx]; omega)) | (with_reducible refine AH.le.kill hw ?_ ?_; · first | omega | (simp only [up_nx, put_nx, kill_nx]; done) | (simp only [up_nx, put_nx, kill_nx]; omega)))) (by repeat (first | exact Cl.p _ | exact Cl.dsl _ _ | exact Cl.any | refine Cl.tup ?_ | refine Cl.agg ?_ | exact Clo.nil | refine Clo.cons ?_ ?_)) ⟨rfl, by rw [hwr]⟩
        · have n1 : ¬ t.num < 0 := by omega
          have n2 : ¬ t.num = 0 := by omega
          have hwr : t.wrong = 3 := by rw [Tm.wrong_eq]; simp [Tm.head, Ty.bare, k1, l, b1, b2, n, n1]
          simp (disch := first | omega | simp) [iv, Tm.av, Tm.cs_g0, Tm.cs_g5, k1, l]
          unfold S_term_check_C3
          simp (disch := first | omega | simp) [iv, Tm.cs_g0, Tm.cs_g1, Tm.cs_g2, Tm.cs_g3, k1, b1, b2, n, n1]
          exact rt_one hw (by repeat (first | with_reducible assumption | with_reducible exact AH.le.refl _ | with_reducible apply AH.le.up | (with_reducible refine AH.le.put hw ?_ ?_; · first | omega | (simp only [up_nx, put_nx, kill_nx]; done) | (simp only [up_nx, put_nx, kill_nx]; omega)) | (with_reducible refine AH.le.kill hw ?_ ?_; · first | omega | (simp only [up_nx, put_nx, kill_nx]; done) | (simp only [up_nx, put_nx, kill_nx]; omega)))) (by repeat (first | exact Cl.p _ | exact Cl.dsl _ _ | exact Cl.any | refine Cl.tup ?_ | refine Cl.agg ?_ | exact Clo.nil | refine Clo.cons ?_ ?_)) ⟨rfl, by rw [hwr]⟩
        · have b4 : ¬ ((t.type.kids.length : Int) = 0) := by omega
          have b5 : 0 < t.type.kids.length := by omega
          have hwr : t.wrong = 3 := by rw [Tm.wrong_eq]; simp [Tm.head, Ty.bare, k1, l, b1, b2, b3, n]
          simp (disch := first | omega | simp) [iv, Tm.av, Tm.cs_g0, Tm.cs_g5, k1, l]
          unfold S_term_check_C3
          simp (disch := first | omega | simp) [iv, Tm.cs_g1, Tm.cs_g2, Tm.cs_g3, Tm.cs_g4, b1, b2, b3, n]
          exact rt_one hw (by repeat (first | with_reducible assumption | with_reducible exact AH.le.refl _ | with_reducible apply AH.le.up | (with_reducible refine AH.le.put hw ?_ ?_; · first | omega | (simp only [up_nx, put_nx, kill_nx]; done) | (simp only [up_nx, put_nx, kill_nx]; omega)) | (with_reducible refine AH.le.kill hw ?_ ?_; · first | omega | (simp only [up_nx, put_nx, kill_nx]; done) | (simp only [up_nx, put_nx, kill_nx]; omega)))) (by repeat (first | exact Cl.p _ | exact Cl.dsl _ _ | exact Cl.any | refine Cl.tup ?_ | refine Cl.agg ?_ | exact Clo.nil | refine Clo.cons ?_ ?_)) ⟨rfl, by rw [hwr]⟩
        · have b4 : ¬ ((t.type.kids.length : Int) = 0) := by omega
          have b5 : 0 < t.type.kids.length := by omega
          have hwr : t.wrong = 3 := by rw [Tm.wrong_eq]; simp [Tm.head, Ty.bare, k1, l, b1, b2, b3, n]
          simp (disch := first | omega | simp) [iv, Tm.av, Tm.cs_g0, Tm.cs_g5, k1, l]
          unfold S_term_check_C3
          simp (disch := first | omega | simp) [iv, Tm.cs_g0, Tm.cs_g1, Tm.cs_g2, Tm.cs_g3, Tm.cs_g4, k1, b1, b2, b3, n]
          exact rt_one hw (by repeat (first | with_reducible assumption | with_reducible exact AH.le.refl _ | with_reducible apply AH.le.up | (with_reducible refine AH.le.put hw ?_ ?_; · first | omega | (simp only [up_nx, put_nx, kill_nx]; done) | (simp only [up_nx, put_nx, kill_nx]; omega)) | (with_reducible refine AH.le.kill hw ?_ ?_; · first | omega | (simp only [up_nx, put_nx, kill_nx]; done) | (simp only [up_nx, put_nx, kill_nx]; omega)))) (by repeat (first | exact Cl.p _ | exact Cl.dsl _ _ | exact Cl.any | refine Cl.tup ?_ | refine Cl.agg ?_ | exact Clo.nil | refine Clo.cons ?_ ?_)) ⟨rfl, by rw [hwr]⟩
        · have b4 : ¬ ((t.type.kids.length : Int) = 0) := by omega
          have b5 : 0 < t.type.kids.length := by omega
          have n1 : ¬ t.num < 0 := by omega
          have n2 : ¬ t.num = 0 := by omega
          have hwr : t.wrong = 3 := by rw [Tm.wrong_eq]; simp [Tm.head, Ty.bare, k1, l, b1, b2, b3, n, n1]
          simp (disch := first | omega | simp) [iv, Tm.av, Tm.cs_g0, Tm.cs_g5, k1, l]
          unfold S_term_check_C3
          simp (disch := first | omega | simp) [iv, Tm.cs_g0, Tm.cs_g1, Tm.cs_g2, Tm.cs_g3, Tm.cs_g4, k1, b1, b2, b3, n, n1]
          exact rt_one hw (by repeat (first | with_reducible assumption | with_reducible exact AH.le.refl _ | with_reducible apply AH.le.up | (with_reducible refine AH.le.put hw ?_ ?_; · first | omega | (simp only [up_nx, put_nx, kill_nx]; done) | (simp only [up_nx, put_nx, kill_nx]; omega)) | (with_reducible refine AH.le.kill hw ?_ ?_; · first | omega | (simp only [up_nx, put_nx, kill_nx]; done) | (simp only [up_nx, put_nx, kill_nx]; omega)))) (by repeat (first | exact Cl.p _ | exact Cl.dsl _ _ | exact Cl.any | refine Cl.tup ?_ | refine Cl.agg ?_ | exact Clo.nil | refine Clo.cons ?_ ?_)) ⟨rfl, by rw [hwr]⟩
        · have hwr : t.wrong = 3 := by rw [Tm.wrong_eq]; simp [Tm.head, Ty.bare, k1, l, b1, b2, b3, n]
          simp (disch := first | omega | simp) [iv, Tm.av, Tm.cs_g0, Tm.cs_g5, k1, l]
          unfold S_term_check_C3
          simp (disch := first | omega | simp) [iv, Tm.cs_g1, Tm.cs_g2, Tm.cs_g3, Tm.cs_g4, b1, b2, b3, n]
          exact rt_one hw (by repeat (first | with_reducible assumption | with_reducible exact AH.le.refl _ | with_reducible apply AH.le.up | (with_reducible refine AH.le.put hw ?_ ?_; · first | omega | (simp only [up_nx, put_nx, kill_nx]; done) | (simp only [up_nx, put_nx, kill_nx]; omega)) | (with_reducible refine AH.le.kill hw ?_ ?_; · first | omega | (simp only [up_nx, put_nx, kill_nx]; done) | (simp only [up_nx, put_nx, kill_nx]; omega)))) (by repeat (first | exact Cl.p _ | exact Cl.dsl _ _ | exact Cl.any | refine Cl.tup ?_ | refine Cl.agg ?_ | exact Clo.nil | refine Clo.cons ?_ ?_)) ⟨rfl, by rw [hwr]⟩
        · have hwr : t.wrong = Tm.wrongs t.kids := by rw [Tm.wrong_eq]; simp [Tm.head, Ty.bare, k1, l, b1, b2, b3, n]
          simp (disch := first | omega | simp) [iv, Tm.av, Tm.cs_g0, Tm.cs_g5, k1, l]
          unfold S_term_check_C3
          simp (disch := first | omega | simp) [iv, Tm.cs_g1, Tm.cs_g2, Tm.cs_g3, Tm.cs_g4, b1, b2, b3, n]
          refine cut_st (fun _ : Unit => []) (fun _ H' => ((H.up 2).put H.nx (.box 27 t.cs)) = H') (fun k hk2 => ?_) ?_
          · simp (disch := first | omega | simp) [iv, Tm.cs_g0, k1]
            exact hk2 () _ _ _ (.refl (Nat.le_refl _)) rfl
          · rintro _ H2 hn2 rfl
            unfold S_term_check_K2
            simp (disch := first | omega | simp) [Tm.cs_g5, l]
            rw [hwr]
            exact checkTm_loop (by simp [l]) hw (by repeat (first | with_reducible assumption | with_reducible exact AH.le.refl _ | with_reducible apply AH.le.up | (with_reducible refine AH.le.put hw ?_ ?_; · first | omega | (simp only [up_nx, put_nx, kill_nx]; done) | (simp only [up_nx, put_nx, kill_nx]; omega)) | (with_reducible refine AH.le.kill hw ?_ ?_; · first | omega | (simp only [up_nx, put_nx, kill_nx]; done) | (simp only [up_nx, put_nx, kill_nx]; omega)))) (by first | omega | (simp only [up_nx, put_nx]; done) | (simp only [up_nx, put_nx]; omega)) (by omega) hk
        · have n1 : ¬ t.num < 0 := by omega
          have n2 : ¬ t.num = 0 := by omega
          have hwr : t.wrong = Tm.wrongs t.kids := by rw [Tm.wrong_eq]; simp [Tm.head, Ty.bare, k1, l, b1, b2, b3, n, n1]
          simp (disch := first | omega | simp) [iv, Tm.av, Tm.cs_g0, Tm.cs_g5, k1, l]
          unfold S_term_check_C3
          simp (disch := first | omega | simp) [iv, Tm.cs_g0, Tm.cs_g1, Tm.cs_g2, Tm.cs_g3, Tm.cs_g4, k1, b1, b2, b3, n, n1]
          refine cut_st (fun _ : Unit => []) (fun _ H' => ((H.up 2).put H.nx (.box 27 t.cs)) = H') (fun k hk2 => ?_) ?_
          · simp (disch := first | omega | simp) [iv, Tm.cs_g0, k1]
            exact hk2 () _ _ _ (.refl (Nat.le_refl _)) rfl
          · rintro _ H2 hn2 rfl
            unfold S_term_check_K2
            simp (disch := first | omega | simp) [Tm.cs_g5, l]
            rw [hwr]
            exact checkTm_loop (by simp [l]) hw (by repeat (first | with_reducible assumption | with_reducible exact AH.le.refl _ | with_reducible apply AH.le.up | (with_reducible refine AH.le.put hw ?_ ?_; · first | omega | (simp only [up_nx, put_nx, kill_nx]; done) | (simp only [up_nx, put_nx, kill_nx]; omega)) | (with_reducible refine AH.le.kill hw ?_ ?_; · first | omega | (simp only [up_nx, put_nx, kill_nx]; done) | (simp only [up_nx, put_nx, kill_nx]; omega)))) (by first | omega | (simp only [up_nx, put_nx]; done) | (simp only [up_nx, put_nx]; omega)) (by omega) hk
      · have l2 : ¬ ((t.kids.length : Int) = 0) := by omega
        have l3 : t.kids ≠ [] := fun e => l (by rw [e]; rfl)
        have hwr : t.wrong = 1 := by rw [Tm.wrong_eq]; simp [Tm.head, k1, l3]
        simp (disch := first | omega | simp) [iv, Tm.av, Tm.cs_g0, Tm.cs_g5, k1, l3]
        exact rt_one hw (by repeat (first | with_reducible assumption | with_reducible exact AH.le.refl _ | with_reducible apply AH.le.up | (with_reducible refine AH.le.put hw ?_ ?_; · first | omega | (simp only [up_nx, put_nx, kill_nx]; done) | (simp only [up_nx, put_nx, kill_nx]; omega)) | (with_reducible refine AH.le.kill hw ?_ ?_; · first | omega | (simp only [up_nx, put_nx, kill_nx]; done) | (simp only [up_nx, put_nx, kill_nx]; omega)))) (by repeat (first | exact Cl.p _ | exact Cl.dsl _ _ | exact Cl.any | refine Cl.tup ?_ | refine Cl.agg ?_ | exact Clo.nil | refine Clo.cons ?_ ?_)) ⟨rfl, by rw [hwr]⟩
    · by_cases l : t.kids.length = 0
      · have hn3 : t.num < 0 ∨ t.num = 0 ∨ 0 < t.num := by omega
        have hb4 : t.type.kind ≠ 0 ∨ (t.type.kind = 0 ∧ t.type.num ≠ 0) ∨ (t.type.kind = 0 ∧ t.type.num = 0 ∧ t.type.kids.length ≠ 0) ∨ (t.type.kind = 0 ∧ t.type.num = 0 ∧ t.type.kids.length = 0) := by omega
        rcases hb4 with b1 | ⟨b1, b2⟩ | ⟨b1, b2, b3⟩ | ⟨b1, b2, b3⟩ <;> rcases hn3 with n | n | n
        · have hwr : t.wrong = 3 := by rw [Tm.wrong_eq]; simp [Tm.head, Ty.bare, k1, l, b1, n]
          simp (disch := first | omega | simp) [iv, Tm.av, Tm.cs_g0, Tm.cs_g5, k1, l]
          unfold S_term_check_C3
          simp (disch := first | omega | simp) [iv, Tm.cs_g1, Tm.cs_g2, b1, n]
          exact rt_one hw (by repeat (first | with_reducible assumption | with_reducible exact AH.le.refl _ | with_reducible apply AH.le.up | (with_reducible refine AH.le.put hw ?_ ?_; · first | omega | (simp only [up_nx, put_nx, kill_nx]; done) | (simp only [up_nx, put_nx, kill_nx]; omega)) | (with_reducible refine AH.le.kill hw ?_ ?_; · first | omega | (simp only [up_nx, put_nx, kill_nx]; done) | (simp only [up_nx, put_nx, kill_nx]; omega)))) (by repeat (first | exact Cl.p _ | exact Cl.dsl _ _ | exact Cl.any | refine Cl.tup ?_ | refine Cl.agg ?_ | exact Clo.nil | refine Clo.cons ?_ ?_)) ⟨rfl, by rw [hwr]⟩
        · have hwr : t.wrong = 3 := by rw [Tm.wrong_eq]; simp [Tm.head, Ty.bare, k1, l, b1, n]
          simp (disch := first | omega | simp) [iv, Tm.av, Tm.cs_g0, Tm.cs_g5, k1, l]
          unfold S_term_check_C3
          simp (disch := first | omega | simp) [iv, Tm.cs_g0, Tm.cs_g1, Tm.cs_g2, k1, b1, n]
          exact rt_one hw (by repeat (first | with_reducible assumption | with_reducible exact AH.le.refl _ | with_reducible apply AH.le.up | (with_reducible refine AH.le.put hw ?_ ?_; · first | omega | (simp only [up_nx, put_nx, kill_nx]; done) | (simp only [up_nx, put_nx, kill_nx]; omega)) | (with_reducible refine AH.le.kill hw ?_ ?_; · first | omega | (simp only [up_nx, put_nx, kill_nx]; done) | (simp only [up_nx, put_nx, kill_nx]; omega)))) (by repeat (first | exact Cl.p _ | exact Cl.dsl _ _ | exact Cl.any | refine Cl.tup ?_ | refine Cl.agg ?_ | exact Clo.nil | refine Clo.cons ?_ ?_)) ⟨rfl, by rw [hwr]⟩
        · have n1 : ¬ t.num < 0 := by omega
          have n2 : ¬ t.num = 0 := by omega
          have hwr : t.wrong = 3 := by rw [Tm.wrong_eq]; simp [Tm.head, Ty.bare, k1, l, b1, n, n1]
          simp (disch := first | omega | simp) [iv, Tm.av, Tm.cs_g0, Tm.cs_g5, k1, l]
          unfold S_term_check_C3
          simp (disch := first | omega | simp) [iv, Tm.cs_g0, Tm.cs_g1, Tm.cs_g2, k1, b1, n, n1]
          exact rt_one hw (by repeat (first | with_reducible assumption | with_reducible exact AH.le.refl _ | with_reducible apply AH.le.up | (with_reducible refine AH.le.put hw ?_ ?_; · first | omega | (simp only [up_nx, put_nx, kill_nx]; done) | (simp only [up_nx, put_nx, kill_nx]; omega)) | (with_reducible refine AH.le.kill hw ?_ ?_; · first | omega | (simp only [up_nx, put_nx, kill_nx]; done) | (simp only [up_nx, put_nx, kill_nx]; omega)))) (by repeat (first | exact Cl.p _ | exact Cl.dsl _ _ | exact Cl.any | refine Cl.tup ?_ | refine Cl.agg ?_ | exact Clo.nil | refine Clo.cons ?_ ?_)) ⟨rfl, by rw [hwr]⟩
        · have hwr : t.wrong = 3 := by rw [Tm.wrong_eq]; simp [Tm.head, Ty.bare, k1, l, b1, b2, n]
          simp (disch := first | omega | simp) [iv, Tm.av, Tm.cs_g0, Tm.cs_g5, k1, l]
          unfold S_term_check_C3
          simp (disch := first | omega | simp) [iv, Tm.cs_g1, Tm.cs_g2, Tm.cs_g3, b1, b2, n]
          exact rt_one hw (by repeat (first | with_reducible assumption | with_reducible exact AH.le.refl _ | with_reducible apply AH.le.up | (with_reducible refine AH.le.put hw ?_ ?_; · first | omega | (simp only [up_nx, put_nx, kill_nx]; done) | (simp only [up_nx, put_nx, kill_nx]; omega)) | (with_reducible refine AH.le.kill hw ?_ ?_; · first | omega | (simp only [up_nx, put_nx, kill_nx]; done) | (simp only [up_nx, put_nx, kill_nx]; omega)))) (by repeat (first | exact Cl.p _ | exact Cl.dsl _ _ | exact Cl.any | refine Cl.tup ?_ | refine Cl.agg ?_ | exact Clo.nil | refine Clo.cons ?_ ?_)) ⟨rfl, by rw [hwr]⟩
        · have hwr : t.wrong = 3 := by rw [Tm.wrong_eq]; simp [Tm.head, Ty.bare, k1, l, b1, b2, n]
          simp (disch := first | omega | simp) [iv, Tm.av, Tm.cs_g0, Tm.cs_g5, k1, l]
          unfold S_term_check_C3
          simp (disch := first | omega | simp) [iv, Tm.cs_g0, Tm.cs_g1, Tm.cs_g2, Tm.cs_g3, k1, b1, b2, n]
          exact rt_one hw (by repeat (first | with_reducible assumption | with_reducible exact AH.le.refl _ | with_reducible apply AH.le.up | (with_reducible refine AH.le.put hw ?_ ?_; · first | omega | (simp only [up_nx, put_nx, kill_nx]; done) | (simp only [up_nx, put_nx, kill_nx]; omega)) | (with_reducible refine AH.le.kill hw ?_ ?_; · first | omega | (simp only [up_nx, put_nx, kill_nx]; done) | (simp only [up_nx, put_nx, kill_nx]; omega)))) (by repeat (first | exact Cl.p _ | exact Cl.dsl _ _ | exact Cl.any | refine Cl.tup ?_ | refine Cl.agg ?_ | exact Clo.nil | refine Clo.cons ?_ ?_)) ⟨rfl, by rw [hwr]⟩
        · have n1 : ¬ t.num < 0 := by omega
          have n2 : ¬ t.num = 0 := by omega
          have hwr : t.wrong = 3 := by rw [Tm.wrong_eq]; simp [Tm.head, Ty.bare, k1, l, b1, b2, n, n1]
          simp (disch := first | omega | simp) [iv, Tm.av, Tm.cs_g0, Tm.cs_g5, k1, l]
          unfold S_term_check_C3
          simp (disch := first | omega | simp) [iv, Tm.cs_g0, Tm.cs_g1, Tm.cs_g2, Tm.cs_g3, k1, b1, b2, n, n1]
          exact rt_one hw (by repeat (first | with_reducible assumption | with_reducible exact AH.le.refl _ | with_reducible apply AH.le.up | (with_reducible refine AH.le.put hw ?_ ?_; · first | omega | (simp only [up_nx, put_nx, kill_nx]; done) | (simp only [up_nx, put_nx, kill_nx]; omega)) | (with_reducible refine AH.le.kill hw ?_ ?_; · first | omega | (simp only [up_nx, put_nx, kill_nx]; done) | (simp only [up_nx, put_nx, kill_nx]; omega)))) (by repeat (first | exact Cl.p _ | exact Cl.dsl _ _ | exact Cl.any | refine Cl.tup ?_ | refine Cl.agg ?_ | exact Clo.nil | refine Clo.cons ?_ ?_)) ⟨rfl, by rw [hwr]⟩
        · have b4 : ¬ ((t.type.kids.length : Int) = 0) := by omega
          have b5 : 0 < t.type.kids.length := by omega
          have hwr : t.wrong = 3 := by rw [Tm.wrong_eq]; simp [Tm.head, Ty.bare, k1, l, b1, b2, b3, n]
          simp (disch := first | omega | simp) [iv, Tm.av, Tm.cs_g0, Tm.cs_g5, k1, l]
          unfold S_term_check_C3
          simp (disch := first | omega | simp) [iv, Tm.cs_g1, Tm.cs_g2, Tm.cs_g3, Tm.cs_g4, b1, b2, b3, n]
          exact rt_one hw (by repeat (first | with_reducible assumption | with_reducible exact AH.le.refl _ | with_reducible apply AH.le.up | (with_reducible refine AH.le.put hw ?_ ?_; · first | omega | (simp only [up_nx, put_nx, kill_nx]; done) | (simp only [up_nx, put_nx, kill_nx]; omega)) | (with_reducible refine AH.le.kill hw ?_ ?_; · first | omega | (simp only [up_nx, put_nx, kill_nx]; done) | (simp only [up_nx, put_nx, kill_nx]; omega)))) (by repeat (first | exact Cl.p _ | exact Cl.dsl _ _ | exact Cl.any | refine Cl.tup ?_ | refine Cl.agg ?_ | exact Clo.nil | refine Clo.cons ?_ ?_)) ⟨rfl, by rw [hwr]⟩
        · have b4 : ¬ ((t.type.kids.length : Int) = 0) := by omega
          have b5 : 0 < t.type.kids.length := by omega
          have hwr : t.wrong = 3 := by rw [Tm.wrong_eq]; simp [Tm.head, Ty.bare, k1, l, b1, b2, b3, n]
          simp (disch := first | omega | simp) [iv, Tm.av, Tm.cs_g0, Tm.cs_g5, k1, l]
          unfold S_term_check_C3
          simp (disch := first | omega | simp) [iv, Tm.cs_g0, Tm.cs_g1, Tm.cs_g2, Tm.cs_g3, Tm.cs_g4, k1, b1, b2, b3, n]
          exact rt_one hw (by repeat (first | with_reducible assumption | with_reducible exact AH.le.refl _ | with_reducible apply AH.le.up | (with_reducible refine AH.le.put hw ?_ ?_; · first | omega | (simp only [up_nx, put_nx, kill_nx]; done) | (simp only [up_nx, put_nx, kill_nx]; omega)) | (with_reducible refine AH.le.kill hw ?_ ?_; · first | omega | (simp only [up_nx, put_nx, kill_nx]; done) | (simp only [up_nx, put_nx, kill_nx]; omega)))) (by repeat (first | exact Cl.p _ | exact Cl.dsl _ _ | exact Cl.any | refine Cl.tup ?_ | refine Cl.agg ?_ | exact Clo.nil | refine Clo.cons ?_ ?_)) ⟨rfl, by rw [hwr]⟩
        · have b4 : ¬ ((t.type.kids.length : Int) = 0) := by omega
          have b5 : 0 < t.type.kids.length := by omega
          have n1 : ¬ t.num < 0 := by omega
          have n2 : ¬ t.num = 0 := by omega
          have hwr : t.wrong = 3 := by rw [Tm.wrong_eq]; simp [Tm.head, Ty.bare, k1, l, b1, b2, b3, n, n1]
          simp (disch := first | omega | simp) [iv, Tm.av, Tm.cs_g0, Tm.cs_g5, k1, l]
          unfold S_term_check_C3
          simp (disch := first | omega | simp) [iv, Tm.cs_g0, Tm.cs_g1, Tm.cs_g2, Tm.cs_g3, Tm.cs_g4, k1, b1, b2, b3, n, n1]
          exact rt_one hw (by repeat (first | with_reducible assumption | with_reducible exact AH.le.refl _ | with_reducible apply AH.le.up | (with_reducible refine AH.le.put hw ?_ ?_; · first | omega | (simp only [up_nx, put_nx, kill_nx]; done) | (simp only [up_nx, put_nx, kill_nx]; omega)) | (with_reducible refine AH.le.kill hw ?_ ?_; · first | omega | (simp only [up_nx, put_nx, kill_nx]; done) | (simp only [up_nx, put_nx, kill_nx]; omega)))) (by repeat (first | exact Cl.p _ | exact Cl.dsl _ _ | exact Cl.any | refine Cl.tup ?_ | refine Cl.agg ?_ | exact Clo.nil | refine Clo.cons ?_ ?_)) ⟨rfl, by rw [hwr]⟩
        · have hwr : t.wrong = 3 := by rw [Tm.wrong_eq]; simp [Tm.head, Ty.bare, k1, l, b1, b2, b3, n]
          simp (disch := first | omega | simp) [iv, Tm.av, Tm.cs_g0, Tm.cs_g5, k1, l]
          unfold S_term_check_C3
          simp (disch := first | omega | simp) [iv, Tm.cs_g1, Tm.cs_g2, Tm.cs_g3, Tm.cs_g4, b1, b2, b3, n]
          exact rt_one hw (by repeat (first | with_reducible assumption | with_reducible exact AH.le.refl _ | with_reducible apply AH.le.up | (with_reducible refine AH.le.put hw ?_ ?_; · first | omega | (simp only [up_nx, put_nx, kill_nx]; done) | (simp only [up_nx, put_nx, kill_nx]; omega)) | (with_reducible refine AH.le.kill hw ?_ ?_; · first | omega | (simp only [up_nx, put_nx, kill_nx]; done) | (simp only [up_nx, put_nx, kill_nx]; omega)))) (by repeat (first | exact Cl.p _ | exact Cl.dsl _ _ | exact Cl.any | refine Cl.tup ?_ | refine Cl.agg ?_ | exact Clo.nil | refine Clo.cons ?_ ?_)) ⟨rfl, by rw [hwr]⟩
        · have hwr : t.wrong = Tm.wrongs t.kids := by rw [Tm.wrong_eq]; simp [Tm.head, Ty.bare, k1, l, b1, b2, b3, n]
          simp (disch := first | omega | simp) [iv, Tm.av, Tm.cs_g0, Tm.cs_g5, k1, l]
          unfold S_term_check_C3
          simp (disch := first | omega | simp) [iv, Tm.cs_g1, Tm.cs_g2, Tm.cs_g3, Tm.cs_g4, b1, b2, b3, n]
          refine cut_st (fun _ : Unit => []) (fun _ H' => ((H.up 2).put H.nx (.box 27 t.cs)) = H') (fun k hk2 => ?_) ?_
          · simp (disch := first | omega | simp) [iv, Tm.cs_g0, k1]
            exact hk2 () _ _ _ (.refl (Nat.le_refl _)) rfl
          · rintro _ H2 hn2 rfl
            unfold S_term_check_K2
            simp (disch := first | omega | simp) [Tm.cs_g5, l]
            rw [hwr]
            exact checkTm_loop (by simp [l]) hw (by repeat (first | with_reducible assumption | with_reducible exact AH.le.refl _ | with_reducible apply AH.le.up | (with_reducible refine AH.le.put hw ?_ ?_; · first | omega | (simp only [up_nx, put_nx, kill_nx]; done) | (simp only [up_nx, put_nx, kill_nx]; omega)) | (with_reducible refine AH.le.kill hw ?_ ?_; · first | omega | (simp only [up_nx, put_nx, kill_nx]; done) | (simp only [up_nx, put_nx, kill_nx]; omega)))) (by first | omega | (simp only [up_nx, put_nx]; done) | (simp only [up_nx, put_nx]; omega)) (by omega) hk
        · have n1 : ¬ t.num < 0 := by omega
          have n2 : ¬ t.num = 0 := by omega
          have hwr : t.wrong = Tm.wrongs t.kids := by rw [Tm.wrong_eq]; simp [Tm.head, Ty.bare, k1, l, b1, b2, b3, n, n1]
          simp (disch := first | omega | simp) [iv, Tm.av, Tm.cs_g0, Tm.cs_g5, k1, l]
          unfold S_term_check_C3
          simp (disch := first | omega | simp) [iv, Tm.cs_g0, Tm.cs_g1, Tm.cs_g2, Tm.cs_g3, Tm.cs_g4, k1, b1, b2, b3, n, n1]
          refine cut_st (fun _ : Unit => []) (fun _ H' => ((H.up 2).put H.nx (.box 27 t.cs)) = H') (fun k hk2 => ?_) ?_
          · simp (disch := first | omega | simp) [iv, Tm.cs_g0, k1]
            exact hk2 () _ _ _ (.refl (Nat.le_refl _)) rfl
          · rintro _ H2 hn2 rfl
            unfold S_term_check_K2
            simp (disch := first | omega | simp) [Tm.cs_g5, l]
            rw [hwr]
            exact checkTm_loop (by simp [l]) hw (by repeat (first | with_reducible assumption | with_reducible exact AH.le.refl _ | with_reducible apply AH.le.up | (with_reducible refine AH.le.put hw ?_ ?_; · first | omega | (simp only [up_nx, put_nx, kill_nx]; done) | (simp only [up_nx, put_nx, kill_nx]; omega)) | (with_reducible refine AH.le.kill hw ?_ ?_; · first | omega | (simp only [up_nx, put_nx, kill_nx]; done) | (simp only [up_nx, put_nx, kill_nx]; omega)))) (by first | omega | (simp only [up_nx, put_nx]; done) | (simp only [up_nx, put_nx]; omega)) (by omega) hk
      · have l2 : ¬ ((t.kids.length : Int) = 0) := by omega
        have l3 : t.kids ≠ [] := fun e => l (by rw [e]; rfl)
        have hwr : t.wrong = 1 := by rw [Tm.wrong_eq]; simp [Tm.head, k1, l3]
        simp (disch := first | omega | simp) [iv, Tm.av, Tm.cs_g0, Tm.cs_g5, k1, l3]
        exact rt_one hw (by repeat (first | with_reducible assumption | with_reducible exact AH.le.refl _ | with_reducible apply AH.le.up | (with_reducible refine AH.le.put hw ?_ ?_; · first | omega | (simp only [up_nx, put_nx, kill_nx]; done) | (simp only [up_nx, put_nx, kill_nx]; omega)) | (with_reducible refine AH.le.kill hw ?_ ?_; · first | omega | (simp only [up_nx, put_nx, kill_nx]; done) | (simp only [up_nx, put_nx, kill_nx]; omega)))) (by repeat (first | exact Cl.p _ | exact Cl.dsl _ _ | exact Cl.any | refine Cl.tup ?_ | refine Cl.agg ?_ | exact Clo.nil | refine Clo.cons ?_ ?_)) ⟨rfl, by rw [hwr]⟩
    · by_cases l : t.kids.length = 1
      · have hn3 : t.num < 0 ∨ t.num = 0 ∨ 0 < t.num := by omega
        have hb4 : t.type.kind ≠ 0 ∨ (t.type.kind = 0 ∧ t.type.num ≠ 0) ∨ (t.type.kind = 0 ∧ t.type.num = 0 ∧ t.type.kids.length ≠ 0) ∨ (t.type.kind = 0 ∧ t.type.num = 0 ∧ t.type.kids.length = 0) := by omega
        rcases hb4 with b1 | ⟨b1, b2⟩ | ⟨b1, b2, b3⟩ | ⟨b1, b2, b3⟩ <;> rcases hn3 with n | n | n
        · have hwr : t.wrong = 3 := by rw [Tm.wrong_eq]; simp [Tm.head, Ty.bare, k1, l, b1, n]
          simp (disch := first | omega | simp) [iv, Tm.av, Tm.cs_g0, Tm.cs_g5, k1, l]
          unfold S_term_check_C3
          simp (disch := first | omega | simp) [iv, Tm.cs_g1, Tm.cs_g2, b1, n]
          exact rt_one hw (by repeat (first | with_reducible assumption | with_reducible exact AH.le.refl _ | with_reducible apply AH.le.up | (with_reducible refine AH.le.put hw ?_ ?_; · first | omega | (simp only [up_nx, put_nx, kill_nx]; done) | (simp only [up_nx, put_nx, kill_nx]; omega)) | (with_reducible refine AH.le.kill hw ?_ ?_; · first | omega | (simp only [up_nx, put_nx, kill_nx]; done) | (simp only [up_nx, put_nx, kill_nx]; omega)))) (by repeat (first | exact Cl.p _ | exact Cl.dsl _ _ | exact Cl.any | refine Cl.tup ?_ | refine Cl.agg ?_ | exact Clo.nil | refine Clo.cons ?_ ?_)) ⟨rfl, by rw [hwr]⟩
        · simp (disch := first | omega | simp) [iv, Tm.av, Tm.cs_g0, Tm.cs_g5, k1, l]
          unfold S_term_check_C3
          simp (disch := first | omega | simp) [iv, Tm.cs_g0, Tm.cs_g1, Tm.cs_g2, k1, b1, n]
          by_cases h0 : t.type.check = 0
          · have hwr : t.wrong = Tm.wrongs t.kids := by rw [Tm.wrong_eq]; simp [Tm.head, Ty.bare, k1, l, b1, n, h0]
            refine cut_st (fun _ : Unit => []) (fun _ H' => ((H.up 2).put H.nx (.box 27 t.cs)) = H') (fun k hk2 => ?_) ?_
            · simp (disch := first | omega | simp) [iv, Tm.cs_len, Tm.cs_g0, Tm.cs_type, k1]
              refine ca_pure (by kernel_rfl) (c_CheckType t.type _) ?_
              simp (disch := first | omega | simp) [iv, h0]
              exact hk2 () _ _ _ (.refl (Nat.le_refl _)) rfl
            · rintro _ H2 hn2 rfl
              unfold S_term_check_K2
              simp (disch := first | omega | simp) [Tm.cs_g5, l]
              rw [hwr]
              exact checkTm_loop (by simp [l]) hw (by repeat (first | with_reducible assumption | with_reducible exact AH.le.refl _ | with_reducible apply AH.le.up | (with_reducible refine AH.le.put hw ?_ ?_; · first | omega | (simp only [up_nx, put_nx, kill_nx]; done) | (simp only [up_nx, put_nx, kill_nx]; omega)) | (with_reducible refine AH.le.kill hw ?_ ?_; · first | omega | (simp only [up_nx, put_nx, kill_nx]; done) | (simp only [up_nx, put_nx, kill_nx]; omega)))) (by first | omega | (simp only [up_nx, put_nx]; done) | (simp only [up_nx, put_nx]; omega)) (by omega) hk
          · have hwr : t.wrong = t.type.check := by rw [Tm.wrong_eq]; simp [Tm.head, Ty.bare, k1, l, b1, n, h0]
            refine cut_st (fun _ : Unit => []) (fun _ _ => False) (fun k hk2 => ?_) (fun _ _ _ h => h.elim)
            simp (disch := first | omega | simp) [iv, Tm.cs_len, Tm.cs_g0, Tm.cs_type, k1]
            refine ca_pure (by kernel_rfl) (c_CheckType t.type _) ?_
            simp (disch := first | omega | simp) [iv, h0]
            exact rt_one hw (by repeat (first | with_reducible assumption | with_reducible exact AH.le.refl _ | with_reducible apply AH.le.up | (with_reducible refine AH.le.put hw ?_ ?_; · first | omega | (simp only [up_nx, put_nx, kill_nx]; done) | (simp only [up_nx, put_nx, kill_nx]; omega)) | (with_reducible refine AH.le.kill hw ?_ ?_; · first | omega | (simp only [up_nx, put_nx, kill_nx]; done) | (simp only [up_nx, put_nx, kill_nx]; omega)))) (by repeat (first | exact Cl.p _ | exact Cl.dsl _ _ | exact Cl.any | refine Cl.tup ?_ | refine Cl.agg ?_ | exact Clo.nil | refine Clo.cons ?_ ?_)) ⟨rfl, by rw [hwr]⟩
        · have n1 : ¬ t.num < 0 := by omega
          have n2 : ¬ t.num = 0 := by omega
          have hwr : t.wrong = 3 := by rw [Tm.wrong_eq]; simp [Tm.head, Ty.bare, k1, l, b1, n, n1]
          simp (disch := first | omega | simp) [iv, Tm.av, Tm.cs_g0, Tm.cs_g5, k1, l]
          unfold S_term_check_C3
          simp (disch := first | omega | simp) [iv, Tm.cs_g0, Tm.cs_g1, Tm.cs_g2, k1, b1, n, n1]
          exact rt_one hw (by repeat (first | with_reducible assumption | with_reducible exact AH.le.refl _ | with_reducible apply AH.le.up | (with_reducible refine AH.le.put hw ?_ ?_; · first | omega | (simp only [up_nx, put_nx, kill_nx]; done) | (simp only [up_nx, put_nx, kill_nx]; omega)) | (with_reducible refine AH.le.kill hw ?_ ?_; · first | omega | (simp only [up_nx, put_nx, kill_nx]; done) | (simp only [up_nx, put_nx, kill_nx]; omega)))) (by repeat (first | exact Cl.p _ | exact Cl.dsl _ _ | exact Cl.any | refine Cl.tup ?_ | refine Cl.agg ?_ | exact Clo.nil | refine Clo.cons ?_ ?_)) ⟨rfl, by rw [hwr]⟩
        · have hwr : t.wrong = 3 := by rw [Tm.wrong_eq]; simp [Tm.head, Ty.bare, k1, l, b1, b2, n]
          simp (disch := first | omega | simp) [iv, Tm.av, Tm.cs_g0, Tm.cs_g5, k1, l]
          unfold S_term_check_C3
          simp (disch := first | omega | simp) [iv, Tm.cs_g1, Tm.cs_g2, Tm.cs_g3, b1, b2, n]
          exact rt_one hw (by repeat (first | with_reducible assumption | with_reducible exact AH.le.refl _ | with_reducible apply AH.le.up | (with_reducible refine AH.le.put hw ?_ ?_; · first | omega | (simp only [up_nx, put_nx, kill_nx]; done) | (simp only [up_nx, put_nx, kill_nx]; omega)) | (with_reducible refine AH.le.kill hw ?_ ?_; · first | omega | (simp only [up_nx, put_nx, kill_nx]; done) | (simp only [up_nx, put_nx, kill_nx]; omega)))) (by repeat (first | exact Cl.p _ | exact Cl.dsl _ _ | exact Cl.any | refine Cl.tup ?_ | refine Cl.agg ?_ | exact Clo.nil | refine Clo.cons ?_ ?_)) ⟨rfl, by rw [hwr]⟩
        · simp (disch := first | omega | simp) [iv, Tm.av, Tm.cs_g0, Tm.cs_g5, k1, l]
          unfold S_term_check_C3
          simp (disch := first | omega | simp) [iv, Tm.cs_g0, Tm.cs_g1, Tm.cs_g2, Tm.cs_g3, k1, b1, b2, n]
          by_cases h0 : t.type.check = 0
          · have hwr : t.wrong = Tm.wrongs t.kids := by rw [Tm.wrong_eq]; simp [Tm.head, Ty.bare, k1, l, b1, b2, n, h0]
            refine cut_st (fun _ : Unit => []) (fun _ H' => ((H.up 2).put H.nx (.box 27 t.cs)) = H') (fun k hk2 => ?_) ?_
            · simp (disch := first | omega | simp) [iv, Tm.cs_len, Tm.cs_g0, Tm.cs_type, k1]
              refine ca_pure (by kernel_rfl) (c_CheckType t.type _) ?_
              simp (disch := first | omega | simp) [iv, h0]
              exact hk2 () _ _ _ (.refl (Nat.le_refl _)) rfl
            · rintro _ H2 hn2 rfl
              unfold S_term_check_K2
              simp (disch := first | omega | simp) [Tm.cs_g5, l]
              rw [hwr]
              exact checkTm_loop (by simp [l]) hw (by repeat (first | with_reducible assumption | with_reducible exact AH.le.refl _ | with_reducible apply AH.le.up | (with_reducible refine AH.le.put hw ?_ ?_; · first | omega | (simp only [up_nx, put_nx, kill_nx]; done) | (simp only [up_nx, put_nx, kill_nx]; omega)) | (with_reducible refine AH.le.kill hw ?_ ?_; · first | omega | (simp only [up_nx, put_nx, kill_nx]; done) | (simp only [up_nx, put_nx, kill_nx]; omega)))) (by first | omega | (simp only [up_nx, put_nx]; done) | (simp only [up_nx, put_nx]; omega)) (by omega) hk
          · have hwr : t.wrong = t.type.check := by rw [Tm.wrong_eq]; simp [Tm.head, Ty.bare, k1, l, b1, b2, n, h0]
            refine cut_st (fun _ : Unit => []) (fun _ _ => False) (fun k hk2 => ?_) (fun _ _ _ h => h.elim)
            simp (disch := first | omega | simp) [iv, Tm.cs_len, Tm.cs_g0, Tm.cs_type, k1]
            refine ca_pure (by kernel_rfl) (c_CheckType t.type _) ?_
            simp (disch := first | omega | simp) [iv, h0]
            exact rt_one hw (by repeat (first | with_reducible assumption | with_reducible exact AH.le.refl _ | with_reducible apply AH.le.up | (with_reducible refine AH.le.put hw ?_ ?_; · first | omega | (simp only [up_nx, put_nx, kill_nx]; done) | (simp only [up_nx, put_nx, kill_nx]; omega)) | (with_reducible refine AH.le.kill hw ?_ ?_; · first | omega | (simp only [up_nx, put_nx, kill_nx]; done) | (simp only [up_nx, put_nx, kill_nx]; omega)))) (by repeat (first | exact Cl.p _ | exact Cl.dsl _ _ | exact Cl.any | refine Cl.tup ?_ | refine Cl.agg ?_ | exact Clo.nil | refine Clo.cons ?_ ?_)) ⟨rfl, by rw [hwr]⟩
        · have n1 : ¬ t.num < 0 := by omega
          have n2 : ¬ t.num = 0 := by omega
          have hwr : t.wrong = 3 := by rw [Tm.wrong_eq]; simp [Tm.head, Ty.bare, k1, l, b1, b2, n, n1]
          simp (disch := first | omega | simp) [iv, Tm.av, Tm.cs_g0, Tm.cs_g5, k1, l]
          unfold S_term_check_C3
          simp (disch := first | omega | simp) [iv, Tm.cs_g0, Tm.cs_g1, Tm.cs_g2, Tm.cs_g3, k1, b1, b2, n, n1]
          exact rt_one hw (by repeat (first | with_reducible assumption | with_reducible exact AH.le.refl _ | with_reducible apply AH.le.up | (with_reducible refine AH.le.put hw ?_ ?_; · first | omega | (simp only [up_nx, put_nx, kill_nx]; done) | (simp only [up_nx, put_nx, kill_nx]; omega)) | (with_reducible refine AH.le.kill hw ?_ ?_; · first | omega | (simp only [up_nx, put_nx, kill_nx]; done) | (simp only [up_nx, put_nx, kill_nx]; omega)))) (by repeat (first | exact Cl.p _ | exact Cl.dsl _ _ | exact Cl.any | refine Cl.tup ?_ | refine Cl.agg ?_ | exact Clo.nil | refine Clo.cons ?_ ?_)) ⟨rfl, by rw [hwr]⟩
        · have b4 : ¬ ((t.type.kids.length : Int) = 0) := by omega
          have b5 : 0 < t.type.kids.length := by omega
          have hwr : t.wrong = 3 := by rw [Tm.wrong_eq]; simp [Tm.head, Ty.bare, k1, l, b1, b2, b3, n]
          simp (disch := first | omega | simp) [iv, Tm.av, Tm.cs_g0, Tm.cs_g5, k1, l]
          unfold S_term_check_C3
          simp (disch := first | omega | simp) [iv, Tm.cs_g1, Tm.cs_g2, Tm.cs_g3, Tm.cs_g4, b1, b2, b3, n]
          exact rt_one hw (by repeat (first | with_reducible assumption | with_reducible exact AH.le.refl _ | with_reducible apply AH.le.up | (with_reducible refine AH.le.put hw ?_ ?_; · first | omega | (simp only [up_nx, put_nx, kill_nx]; done) | (simp only [up_nx, put_nx, kill_nx]; omega)) | (with_reducible refine AH.le.kill hw ?_ ?_; · first | omega | (simp only [up_nx, put_nx, kill_nx]; done) | (simp only [up_nx, put_nx, kill_nx]; omega)))) (by repeat (first | exact Cl.p _ | exact Cl.dsl _ _ | exact Cl.any | refine Cl.tup ?_ | refine Cl.agg ?_ | exact Clo.nil | refine Clo.cons ?_ ?_)) ⟨rfl, by rw [hwr]⟩
        · have b4 : ¬ ((t.type.kids.length : Int) = 0) := by omega
          have b5 : 0 < t.type.kids.length := by omega
          simp (disch := first | omega | simp) [iv, Tm.av, Tm.cs_g0, Tm.cs_g5, k1, l]
          unfold S_term_check_C3
          simp (disch := first | omega | simp) [iv, Tm.cs_g0, Tm.cs_g1, Tm.cs_g2, Tm.cs_g3, Tm.cs_g4, k1, b1, b2, b3, n]
          by_cases h0 : t.type.check = 0
          · have hwr : t.wrong = Tm.wrongs t.kids := by rw [Tm.wrong_eq]; simp [Tm.head, Ty.bare, k1, l, b1, b2, b3, n, h0]
            refine cut_st (fun _ : Unit => []) (fun _ H' => ((H.up 2).put H.nx (.box 27 t.cs)) = H') (fun k hk2 => ?_) ?_
            · simp (disch := first | omega | simp) [iv, Tm.cs_len, Tm.cs_g0, Tm.cs_type, k1]
              refine ca_pure (by kernel_rfl) (c_CheckType t.type _) ?_
              simp (disch := first | omega | simp) [iv, h0]
              exact hk2 () _ _ _ (.refl (Nat.le_refl _)) rfl
            · rintro _ H2 hn2 rfl
              unfold S_term_check_K2
              simp (disch := first | omega | simp) [Tm.cs_g5, l]
              rw [hwr]
              exact checkTm_loop (by simp [l]) hw (by repeat (first | with_reducible assumption | with_reducible exact AH.le.refl _ | with_reducible apply AH.le.up | (with_reducible refine AH.le.put hw ?_ ?_; · first | omega | (simp only [up_nx, put_nx, kill_nx]; done) | (simp only [up_nx, put_nx, kill_nx]; omega)) | (with_reducible refine AH.le.kill hw ?_ ?_; · first | omega | (simp only [up_nx, put_nx, kill_nx]; done) | (simp only [up_nx, put_nx, kill_nx]; omega)))) (by first | omega | (simp only [up_nx, put_nx]; done) | (simp only [up_nx, put_nx]; omega)) (by omega) hk
          · have hwr : t.wrong = t.type.check := by rw [Tm.wrong_eq]; simp [Tm.head, Ty.bare, k1, l, b1, b2, b3, n, h0]
            refine cut_st (fun _ : Unit => []) (fun _ _ => False) (fun k hk2 => ?_) (fun _ _ _ h => h.elim)
            simp (disch := first | omega | simp) [iv, Tm.cs_len, Tm.cs_g0, Tm.cs_type, k1]
            refine ca_pure (by kernel_rfl) (c_CheckType t.type _) ?_
            simp (disch := first | omega | simp) [iv, h0]
            exact rt_one hw (by repeat (first | with_reducible assumption | with_reducible exact AH.le.refl _ | with_reducible apply AH.le.up | (with_reducible refine AH.le.put hw ?_ ?_; · first | omega | (simp only [up_nx, put_nx, kill_nx]; done) | (simp only [up_nx, put_nx, kill_nx]; omega)) | (with_reducible refine AH.le.kill hw ?_ ?_; · first | omega | (simp only [up_nx, put_nx, kill_nx]; done) | (simp only [up_nx, put_nx, kill_nx]; omega)))) (by repeat (first | exact Cl.p _ | exact Cl.dsl _ _ | exact Cl.any | refine Cl.tup ?_ | refine Cl.agg ?_ | exact Clo.nil | refine Clo.cons ?_ ?_)) ⟨rfl, by rw [hwr]⟩
        · have b4 : ¬ ((t.type.kids.length : Int) = 0) := by omega
          have b5 : 0 < t.type.kids.length := by omega
          have n1 : ¬ t.num < 0 := by omega
          have n2 : ¬ t.num = 0 := by omega
          have hwr : t.wrong = 3 := by rw [Tm.wrong_eq]; simp [Tm.head, Ty.bare, k1, l, b1, b2, b3, n, n1]
          simp (disch := first | omega | simp) [iv, Tm.av, Tm.cs_g0, Tm.cs_g5, k1, l]
          unfold S_term_check_C3
          simp (disch := first | omega | simp) [iv, Tm.cs_g0, Tm.cs_g1, Tm.cs_g2, Tm.cs_g3, Tm.cs_g4, k1, b1, b2, b3, n, n1]
          exact rt_one hw (by repeat (first | with_reducible assumption | with_reducible exact AH.le.refl _ | with_reducible apply AH.le.up | (with_reducible refine AH.le.put hw ?_ ?_; · first | omega | (simp only [up_nx, put_nx, kill_nx]; done) | (simp only [up_nx, put_nx, kill_nx]; omega)) | (with_reducible refine AH.le.kill hw ?_ ?_; · first | omega | (simp only [up_nx, put_nx, kill_nx]; done) | (simp only [up_nx, put_nx, kill_nx]; omega)))) (by repeat (first | exact Cl.p _ | exact Cl.dsl _ _ | exact Cl.any | refine Cl.tup ?_ | refine Cl.agg ?_ | exact Clo.nil | refine Clo.cons ?_ ?_)) ⟨rfl, by rw [hwr]⟩
        · have hwr : t.wrong = 3 := by rw [Tm.wrong_eq]; simp [Tm.head, Ty.bare, k1, l, b1, b2, b3, n]
          simp (disch := first | omega | simp) [iv, Tm.av, Tm.cs_g0, Tm.cs_g5, k1, l]
          unfold S_term_check_C3
          simp (disch := first | omega | simp) [iv, Tm.cs_g1, Tm.cs_g2, Tm.cs_g3, Tm.cs_g4, b1, b2, b3, n]
          exact rt_one hw (by repeat (first | with_reducible assumption | with_reducible exact AH.le.refl _ | with_reducible apply AH.le.up | (with_reducible refine AH.le.put hw ?_ ?_; · first | omega | (simp only [up_nx, put_nx, kill_nx]; done) | (simp only [up_nx, put_nx, kill_nx]; omega)) | (with_reducible refine AH.le.kill hw ?_ ?_; · first | omega | (simp only [up_nx, put_nx, kill_nx]; done) | (simp only [up_nx, put_nx, kill_nx]; omega)))) (by repeat (first | exact Cl.p _ | exact Cl.dsl _ _ | exact Cl.any | refine Cl.tup ?_ | refine Cl.agg ?_ | exact Clo.nil | refine Clo.cons ?_ ?_)) ⟨rfl, by rw [hwr]⟩
        · simp (disch := first | omega | simp) [iv, Tm.av, Tm.cs_g0, Tm.cs_g5, k1, l]
          unfold S_term_check_C3
          simp (disch := first | omega | simp) [iv, Tm.cs_g1, Tm.cs_g2, Tm.cs_g3, Tm.cs_g4, b1, b2, b3, n]
          by_cases h0 : t.type.check = 0
          · have hwr : t.wrong = Tm.wrongs t.kids := by rw [Tm.wrong_eq]; simp [Tm.head, Ty.bare, k1, l, b1, b2, b3, n, h0]
            refine cut_st (fun _ : Unit => []) (fun _ H' => ((H.up 2).put H.nx (.box 27 t.cs)) = H') (fun k hk2 => ?_) ?_
            · simp (disch := first | omega | simp) [iv, Tm.cs_len, Tm.cs_g0, Tm.cs_type, k1]
              refine ca_pure (by kernel_rfl) (c_CheckType t.type _) ?_
              simp (disch := first | omega | simp) [iv, h0]
              exact hk2 () _ _ _ (.refl (Nat.le_refl _)) rfl
            · rintro _ H2 hn2 rfl
              unfold S_term_check_K2
              simp (disch := first | omega | simp) [Tm.cs_g5, l]
              rw [hwr]
              exact checkTm_loop (by simp [l]) hw (by repeat (first | with_reducible assumption | with_reducible exact AH.le.refl _ | with_reducible apply AH.le.up | (with_reducible refine AH.le.put hw ?_ ?_; · first | omega | (simp only [up_nx, put_nx, kill_nx]; done) | (simp only [up_nx, put_nx, kill_nx]; omega)) | (with_reducible refine AH.le.kill hw ?_ ?_; · first | omega | (simp only [up_nx, put_nx, kill_nx]; done) | (simp only [up_nx, put_nx, kill_nx]; omega)))) (by first | omega | (simp only [up_nx, put_nx]; done) | (simp only [up_nx, put_nx]; omega)) (by omega) hk
          · have hwr : t.wrong = t.type.check := by rw [Tm.wrong_eq]; simp [Tm.head, Ty.bare, k1, l, b1, b2, b3, n, h0]
            refine cut_st (fun _ : Unit => []) (fun _ _ => False) (fun k hk2 => ?_) (fun _ _ _ h => h.elim)
            simp (disch := first | omega | simp) [iv, Tm.cs_len, Tm.cs_g0, Tm.cs_type, k1]
            refine ca_pure (by kernel_rfl) (c_CheckType t.type _) ?_
            simp (disch := first | omega | simp) [iv, h0]
            exact rt_one hw (by repeat (first | with_reducible assumption | with_reducible exact AH.le.refl _ | with_reducible apply AH.le.up | (with_reducible refine AH.le.put hw ?_ ?_; · first | omega | (simp only [up_nx, put_nx, kill_nx]; done) | (simp only [up_nx, put_nx, kill_nx]; omega)) | (with_reducible refine AH.le.kill hw ?_ ?_; · first | omega | (simp only [up_nx, put_nx, kill_nx]; done) | (simp only [up_nx, put_nx, kill_nx]; omega)))) (by repeat (first | exact Cl.p _ | exact Cl.dsl _ _ | exact Cl.any | refine Cl.tup ?_ | refine Cl.agg ?_ | exact Clo.nil | refine Clo.cons ?_ ?_)) ⟨rfl, by rw [hwr]⟩
        · have n1 : ¬ t.num < 0 := by omega
          have n2 : ¬ t.num = 0 := by omega
          have hwr : t.wrong = 3 := by rw [Tm.wrong_eq]; simp [Tm.head, Ty.bare, k1, l, b1, b2, b3, n, n1]
          simp (disch := first | omega | simp) [iv, Tm.av, Tm.cs_g0, Tm.cs_g5, k1, l]
          unfold S_term_check_C3
          simp (disch := first | omega | simp) [iv, Tm.cs_g0, Tm.cs_g1, Tm.cs_g2, Tm.cs_g3, Tm.cs_g4, k1, b1, b2, b3, n, n1]
          exact rt_one hw (by repeat (first | with_reducible assumption | with_reducible exact AH.le.refl _ | with_reducible apply AH.le.up | (with_reducible refine AH.le.put hw ?_ ?_; · first | omega | (simp only [up_nx, put_nx, kill_nx]; done) | (simp only [up_nx, put_nx, kill_nx]; omega)) | (with_reducible refine AH.le.kill hw ?_ ?_; · first | omega | (simp only [up_nx, put_nx, kill_nx]; done) | (simp only [up_nx, put_nx, kill_nx]; omega)))) (by repeat (first | exact Cl.p _ | exact Cl.dsl _ _ | exact Cl.any | refine Cl.tup ?_ | refine Cl.agg ?_ | exact Clo.nil | refine Clo.cons ?_ ?_)) ⟨rfl, by rw [hwr]⟩
      · have l2 : ¬ ((t.kids.length : Int) = 1) := by omega
        have hwr : t.wrong = 1 := by rw [Tm.wrong_eq]; simp [Tm.head, k1, l2]
        simp (disch := first | omega | simp) [iv, Tm.av, Tm.cs_g0, Tm.cs_g5, k1, l2]
        exact rt_one hw (by repeat (first | with_reducible assumption | with_reducible exact AH.le.refl _ | with_reducible apply AH.le.up | (with_reducible refine AH.le.put hw ?_ ?_; · first | omega | (simp only [up_nx, put_nx, kill_nx]; done) | (simp only [up_nx, put_nx, kill_nx]; omega)) | (with_reducible refine AH.le.kill hw ?_ ?_; · first | omega | (simp only [up_nx, put_nx, kill_nx]; done) | (simp only [up_nx, put_nx, kill_nx]; omega)))) (by repeat (first | exact Cl.p _ | exact Cl.dsl _ _ | exact Cl.any | refine Cl.tup ?_ | refine Cl.agg ?_ | exact Clo.nil | refine Clo.cons ?_ ?_)) ⟨rfl, by rw [hwr]⟩
    · by_cases l : t.kids.length = 2
      · have hn3 : t.num < 0 ∨ t.num = 0 ∨ 0 < t.num := by omega
        have hb4 : t.type.kind ≠ 0 ∨ (t.type.kind = 0 ∧ t.type.num ≠ 0) ∨ (t.type.kind = 0 ∧ t.type.num = 0 ∧ t.type.kids.length ≠ 0) ∨ (t.type.kind = 0 ∧ t.type.num = 0 ∧ t.type.kids.length = 0) := by omega
        rcases hb4 with b1 | ⟨b1, b2⟩ | ⟨b1, b2, b3⟩ | ⟨b1, b2, b3⟩ <;> rcases hn3 with n | n | n
        · have hwr : t.wrong = 3 := by rw [Tm.wrong_eq]; simp [Tm.head, Ty.bare, k1, l, b1, n]
          simp (disch := first | omega | simp) [iv, Tm.av, Tm.cs_g0, Tm.cs_g5, k1, l]
          unfold S_term_check_C3
          simp (disch := first | omega | simp) [iv, Tm.cs_g1, Tm.cs_g2, b1, n]
          exact rt_one hw (by repeat (first | with_reducible assumption | with_reducible exact AH.le.refl _ | with_reducible apply AH.le.up | (with_reducible refine AH.le.put hw ?_ ?_; · first | omega | (simp only [up_nx, put_nx, kill_nx]; done) | (simp only [up_nx, put_nx, kill_nx]; omega)) | (with_reducible refine AH.le.kill hw ?_ ?_; · first | omega | (simp only [up_nx, put_nx, kill_nx]; done) | (simp only [up_nx, put_nx, kill_nx]; omega)))) (by repeat (first | exact Cl.p _ | exact Cl.dsl _ _ | exact Cl.any | refine Cl.tup ?_ | refine Cl.agg ?_ | exact Clo.nil | refine Clo.cons ?_ ?_)) ⟨rfl, by rw [hwr]⟩
        · have hwr : t.wrong = 3 := by rw [Tm.wrong_eq]; simp [Tm.head, Ty.bare, k1, l, b1, n]
          simp (disch := first | omega | simp) [iv, Tm.av, Tm.cs_g0, Tm.cs_g5, k1, l]
          unfold S_term_check_C3
          simp (disch := first | omega | simp) [iv, Tm.cs_g0, Tm.cs_g1, Tm.cs_g2, k1, b1, n]
          exact rt_one hw (by repeat (first | with_reducible assumption | with_reducible exact AH.le.refl _ | with_reducible apply AH.le.up | (with_reducible refine AH.le.put hw ?_ ?_; · first | omega | (simp only [up_nx, put_nx, kill_nx]; done) | (simp only [up_nx, put_nx, kill_nx]; omega)) | (with_reducible refine AH.le.kill hw ?_ ?_; · first | omega | (simp only [up_nx, put_nx, kill_nx]; done) | (simp only [up_nx, put_nx, kill_nx]; omega)))) (by repeat (first | exact Cl.p _ | exact Cl.dsl _ _ | exact Cl.any | refine Cl.tup ?_ | refine Cl.agg ?_ | exact Clo.nil | refine Clo.cons ?_ ?_)) ⟨rfl, by rw [hwr]⟩
        · have n1 : ¬ t.num < 0 := by omega
          have n2 : ¬ t.num = 0 := by omega
          have hwr : t.wrong = 3 := by rw [Tm.wrong_eq]; simp [Tm.head, Ty.bare, k1, l, b1, n, n1]
          simp (disch := first | omega | simp) [iv, Tm.av, Tm.cs_g0, Tm.cs_g5, k1, l]
          unfold S_term_check_C3
          simp (disch := first | omega | simp) [iv, Tm.cs_g0, Tm.cs_g1, Tm.cs_g2, k1, b1, n, n1]
          exact rt_one hw (by repeat (first | with_reducible assumption | with_reducible exact AH.le.refl _ | with_reducible apply AH.le.up | (with_reducible refine AH.le.put hw ?_ ?_; · first | omega | (simp only [up_nx, put_nx, kill_nx]; done) | (simp only [up_nx, put_nx, kill_nx]; omega)) | (with_reducible refine AH.le.kill hw ?_ ?_; · first | omega | (simp only [up_nx, put_nx, kill_nx]; done) | (simp only [up_nx, put_nx, kill_nx]; omega)))) (by repeat (first | exact Cl.p _ | exact Cl.dsl _ _ | exact Cl.any | refine Cl.tup ?_ | refine Cl.agg ?_ | exact Clo.nil | refine Clo.cons ?_ ?_)) ⟨rfl, by rw [hwr]⟩
        · have hwr : t.wrong = 3 := by rw [Tm.wrong_eq]; simp [Tm.head, Ty.bare, k1, l, b1, b2, n]
          simp (disch := first | omega | simp) [iv, Tm.av, Tm.cs_g0, Tm.cs_g5, k1, l]
          unfold S_term_check_C3
          simp (disch := first | omega | simp) [iv, Tm.cs_g1, Tm.cs_g2, Tm.cs_g3, b1, b2, n]
          exact rt_one hw (by repeat (first | with_reducible assumption | with_reducible exact AH.le.refl _ | with_reducible apply AH.le.up | (with_reducible refine AH.le.put hw ?_ ?_; · first | omega | (simp only [up_nx, put_nx, kill_nx]; done) | (simp only [up_nx, put_nx, kill_nx]; omega)) | (with_reducible refine AH.le.kill hw ?_ ?_; · first | omega | (simp only [up_nx, put_nx, kill_nx]; done) | (simp only [up_nx, put_nx, kill_nx]; omega)))) (by repeat (first | exact Cl.p _ | exact Cl.dsl _ _ | exact Cl.any | refine Cl.tup ?_ | refine Cl.agg ?_ | exact Clo.nil | refine Clo.cons ?_ ?_)) ⟨rfl, by rw [hwr]⟩
        · have hwr : t.wrong = 3 := by rw [Tm.wrong_eq]; simp [Tm.head, Ty.bare, k1, l, b1, b2, n]
          simp (disch := first | omega | simp) [iv, Tm.av, Tm.cs_g0, Tm.cs_g5, k1, l]
          unfold S_term_check_C3
          simp (disch := first | omega | simp) [iv, Tm.cs_g0, Tm.cs_g1, Tm.cs_g2, Tm.cs_g3, k1, b1, b2, n]
          exact rt_one hw (by repeat (first | with_reducible assumption | with_reducible exact AH.le.refl _ | with_reducible apply AH.le.up | (with_reducible refine AH.le.put hw ?_ ?_; · first | omega | (simp only [up_nx, put_nx, kill_nx]; done) | (simp only [up_nx, put_nx, kill_nx]; omega)) | (with_reducible refine AH.le.kill hw ?_ ?_; · first | omega | (simp only [up_nx, put_nx, kill_nx]; done) | (simp only [up_nx, put_nx, kill_nx]; omega)))) (by repeat (first | exact Cl.p _ | exact Cl.dsl _ _ | exact Cl.any | refine Cl.tup ?_ | refine Cl.agg ?_ | exact Clo.nil | refine Clo.cons ?_ ?_)) ⟨rfl, by rw [hwr]⟩
        · have n1 : ¬ t.num < 0 := by omega
          have n2 : ¬ t.num = 0 := by omega
          have hwr : t.wrong = 3 := by rw [Tm.wrong_eq]; simp [Tm.head, Ty.bare, k1, l, b1, b2, n, n1]
          simp (disch := first | omega | simp) [iv, Tm.av, Tm.cs_g0, Tm.cs_g5, k1, l]
          unfold S_term_check_C3
          simp (disch := first | omega | simp) [iv, Tm.cs_g0, Tm.cs_g1, Tm.cs_g2, Tm.cs_g3, k1, b1, b2, n, n1]
          exact rt_one hw (by repeat (first | with_reducible assumption | with_reducible exact AH.le.refl _ | with_reducible apply AH.le.up | (with_reducible refine AH.le.put hw ?_ ?_; · first | omega | (simp only [up_nx, put_nx, kill_nx]; done) | (simp only [up_nx, put_nx, kill_nx]; omega)) | (with_reducible refine AH.le.kill hw ?_ ?_; · first | omega | (simp only [up_nx, put_nx, kill_nx]; done) | (simp only [up_nx, put_nx, kill_nx]; omega)))) (by repeat (first | exact Cl.p _ | exact Cl.dsl _ _ | exact Cl.any | refine Cl.tup ?_ | refine Cl.agg ?_ | exact Clo.nil | refine Clo.cons ?_ ?_)) ⟨rfl, by rw [hwr]⟩
        · have b4 : ¬ ((t.type.kids.length : Int) = 0) := by omega
          have b5 : 0 < t.type.kids.length := by omega
          have hwr : t.wrong = 3 := by rw [Tm.wrong_eq]; simp [Tm.head, Ty.bare, k1, l, b1, b2, b3, n]
          simp (disch := first | omega | simp) [iv, Tm.av, Tm.cs_g0, Tm.cs_g5, k1, l]
          unfold S_term_check_C3
          simp (disch := first | omega | simp) [iv, Tm.cs_g1, Tm.cs_g2, Tm.cs_g3, Tm.cs_g4, b1, b2, b3, n]
          exact rt_one hw (by repeat (first | with_reducible assumption | with_reducible exact AH.le.refl _ | with_reducible apply AH.le.up | (with_reducible refine AH.le.put hw ?_ ?_; · first | omega | (simp only [up_nx, put_nx, kill_nx]; done) | (simp only [up_nx, put_nx, kill_nx]; omega)) | (with_reducible refine AH.le.kill hw ?_ ?_; · first | omega | (simp only [up_nx, put_nx, kill_nx]; done) | (simp only [up_nx, put_nx, kill_nx]; omega)))) (by repeat (first | exact Cl.p _ | exact Cl.dsl _ _ | exact Cl.any | refine Cl.tup ?_ | refine Cl.agg ?_ | exact Clo.nil | refine Clo.cons ?_ ?_)) ⟨rfl, by rw [hwr]⟩
        · have b4 : ¬ ((t.type.kids.length : Int) = 0) := by omega
          have b5 : 0 < t.type.kids.length := by omega
          have hwr : t.wrong = 3 := by rw [Tm.wrong_eq]; simp [Tm.head, Ty.bare, k1, l, b1, b2, b3, n]
          simp (disch := first | omega | simp) [iv, Tm.av, Tm.cs_g0, Tm.cs_g5, k1, l]
          unfold S_term_check_C3
          simp (disch := first | omega | simp) [iv, Tm.cs_g0, Tm.cs_g1, Tm.cs_g2, Tm.cs_g3, Tm.cs_g4, k1, b1, b2, b3, n]
          exact rt_one hw (by repeat (first | with_reducible assumption | with_reducible exact AH.le.refl _ | with_reducible apply AH.le.up | (with_reducible refine AH.le.put hw ?_ ?_; · first | omega | (simp only [up_nx, put_nx, kill_nx]; done) | (simp only [up_nx, put_nx, kill_nx]; omega)) | (with_reducible refine AH.le.kill hw ?_ ?_; · first | omega | (simp only [up_nx, put_nx, kill_nx]; done) | (simp only [up_nx, put_nx, kill_nx]; omega)))) (by repeat (first | exact Cl.p _ | exact Cl.dsl _ _ | exact Cl.any | refine Cl.tup ?_ | refine Cl.agg ?_ | exact Clo.nil | refine Clo.cons ?_ ?_)) ⟨rfl, by rw [hwr]⟩
        · have b4 : ¬ ((t.type.kids.length : Int) = 0) := by omega
          have b5 : 0 < t.type.kids.length := by omega
          have n1 : ¬ t.num < 0 := by omega
          have n2 : ¬ t.num = 0 := by omega
          have hwr : t.wrong = 3 := by rw [Tm.wrong_eq]; simp [Tm.head, Ty.bare, k1, l, b1, b2, b3, n, n1]
          simp (disch := first | omega | simp) [iv, Tm.av, Tm.cs_g0, Tm.cs_g5, k1, l]
          unfold S_term_check_C3
          simp (disch := first | omega | simp) [iv, Tm.cs_g0, Tm.cs_g1, Tm.cs_g2, Tm.cs_g3, Tm.cs_g4, k1, b1, b2, b3, n, n1]
          exact rt_one hw (by repeat (first | with_reducible assumption | with_reducible exact AH.le.refl _ | with_reducible apply AH.le.up | (with_reducible refine AH.le.put hw ?_ ?_; · first | omega | (simp only [up_nx, put_nx, kill_nx]; done) | (simp only [up_nx, put_nx, kill_nx]; omega)) | (with_reducible refine AH.le.kill hw ?_ ?_; · first | omega | (simp only [up_nx, put_nx, kill_nx]; done) | (simp only [up_nx, put_nx, kill_nx]; omega)))) (by repeat (first | exact Cl.p _ | exact Cl.dsl _ _ | exact Cl.any | refine Cl.tup ?_ | refine Cl.agg ?_ | exact Clo.nil | refine Clo.cons ?_ ?_)) ⟨rfl, by rw [hwr]⟩
        · have hwr : t.wrong = 3 := by rw [Tm.wrong_eq]; simp [Tm.head, Ty.bare, k1, l, b1, b2, b3, n]
          simp (disch := first | omega | simp) [iv, Tm.av, Tm.cs_g0, Tm.cs_g5, k1, l]
          unfold S_term_check_C3
          simp (disch := first | omega | simp) [iv, Tm.cs_g1, Tm.cs_g2, Tm.cs_g3, Tm.cs_g4, b1, b2, b3, n]
          exact rt_one hw (by repeat (first | with_reducible assumption | with_reducible exact AH.le.refl _ | with_reducible apply AH.le.up | (with_reducible refine AH.le.put hw ?_ ?_; · first | omega | (simp only [up_nx, put_nx, kill_nx]; done) | (simp only [up_nx, put_nx, kill_nx]; omega)) | (with_reducible refine AH.le.kill hw ?_ ?_; · first | omega | (simp only [up_nx, put_nx, kill_nx]; done) | (simp only [up_nx, put_nx, kill_nx]; omega)))) (by repeat (first | exact Cl.p _ | exact Cl.dsl _ _ | exact Cl.any | refine Cl.tup ?_ | refine Cl.agg ?_ | exact Clo.nil | refine Clo.cons ?_ ?_)) ⟨rfl, by rw [hwr]⟩
        · have hwr : t.wrong = Tm.wrongs t.kids := by rw [Tm.wrong_eq]; simp [Tm.head, Ty.bare, k1, l, b1, b2, b3, n]
          simp (disch := first | omega | simp) [iv, Tm.av, Tm.cs_g0, Tm.cs_g5, k1, l]
          unfold S_term_check_C3
          simp (disch := first | omega | simp) [iv, Tm.cs_g1, Tm.cs_g2, Tm.cs_g3, Tm.cs_g4, b1, b2, b3, n]
          refine cut_st (fun _ : Unit => []) (fun _ H' => ((H.up 2).put H.nx (.box 27 t.cs)) = H') (fun k hk2 => ?_) ?_
          · simp (disch := first | omega | simp) [iv, Tm.cs_g0, k1]
            exact hk2 () _ _ _ (.refl (Nat.le_refl _)) rfl
          · rintro _ H2 hn2 rfl
            unfold S_term_check_K2
            simp (disch := first | omega | simp) [Tm.cs_g5, l]
            rw [hwr]
            exact checkTm_loop (by simp [l]) hw (by repeat (first | with_reducible assumption | with_reducible exact AH.le.refl _ | with_reducible apply AH.le.up | (with_reducible refine AH.le.put hw ?_ ?_; · first | omega | (simp only [up_nx, put_nx, kill_nx]; done) | (simp only [up_nx, put_nx, kill_nx]; omega)) | (with_reducible refine AH.le.kill hw ?_ ?_; · first | omega | (simp only [up_nx, put_nx, kill_nx]; done) | (simp only [up_nx, put_nx, kill_nx]; omega)))) (by first | omega | (simp only [up_nx, put_nx]; done) | (simp only [up_nx, put_nx]; omega)) (by omega) hk
        · have n1 : ¬ t.num < 0 := by omega
          have n2 : ¬ t.num = 0 := by omega
          have hwr : t.wrong = 3 := by rw [Tm.wrong_eq]; simp [Tm.head, Ty.bare, k1, l, b1, b2, b3, n, n1]
          simp (disch := first | omega | simp) [iv, Tm.av, Tm.cs_g0, Tm.cs_g5, k1, l]
          unfold S_term_check_C3
          simp (disch := first | omega | simp) [iv, Tm.cs_g0, Tm.cs_g1, Tm.cs_g2, Tm.cs_g3, Tm.cs_g4, k1, b1, b2, b3, n, n1]
          exact rt_one hw (by repeat (first | with_reducible assumption | with_reducible exact AH.le.refl _ | with_reducible apply AH.le.up | (with_reducible refine AH.le.put hw ?_ ?_; · first | omega | (simp only [up_nx, put_nx, kill_nx]; done) | (simp only [up_nx, put_nx, kill_nx]; omega)) | (with_reducible refine AH.le.kill hw ?_ ?_; · first | omega | (simp only [up_nx, put_nx, kill_nx]; done) | (simp only [up_nx, put_nx, kill_nx]; omega)))) (by repeat (first | exact Cl.p _ | exact Cl.dsl _ _ | exact Cl.any | refine Cl.tup ?_ | refine Cl.agg ?_ | exact Clo.nil | refine Clo.cons ?_ ?_)) ⟨rfl, by rw [hwr]⟩
      · have l2 : ¬ ((t.kids.length : Int) = 2) := by omega
        have hwr : t.wrong = 1 := by rw [Tm.wrong_eq]; simp [Tm.head, k1, l2]
        simp (disch := first | omega | simp) [iv, Tm.av, Tm.cs_g0, Tm.cs_g5, k1, l2]
        exact rt_one hw (by repeat (first | with_reducible assumption | with_reducible exact AH.le.refl _ | with_reducible apply AH.le.up | (with_reducible refine AH.le.put hw ?_ ?_; · first | omega | (simp only [up_nx, put_nx, kill_nx]; done) | (simp only [up_nx, put_nx, kill_nx]; omega)) | (with_reducible refine AH.le.kill hw ?_ ?_; · first | omega | (simp only [up_nx, put_nx, kill_nx]; done) | (simp only [up_nx, put_nx, kill_nx]; omega)))) (by repeat (first | exact Cl.p _ | exact Cl.dsl _ _ | exact Cl.any | refine Cl.tup ?_ | refine Cl.agg ?_ | exact Clo.nil | refine Clo.cons ?_ ?_)) ⟨rfl, by rw [hwr]⟩
set_option maxHeartbeats 8000000 in
theorem c_termWrong (N : Nat) : ∀ t : Tm, t.size ≤ N → ∀ H : AH, Tri Try.prog 28 [t.av] H (fun r H' => H' = H ∧ r = iv t.wrong) := by
  induction N with
  | zero => intro t ht; have := t.size_pos; omega
  | succ N ih =>
    intro t ht H
    refine tri_wf fun hw => tri_lenA 0 5 rfl t.cs_g5 fun hl => tri_wordhoardref_termWrong ?_
    have hml : maxLen = 9223372036854775807 := by decide
    rw [List.length_map] at hl
    have hsz := t.size_eq
    have hk : ∀ x ∈ t.kids, ∀ H, Tri Try.prog 28 [x.av] H (fun r H' => H' = H ∧ r = iv x.wrong) := fun x hx H => ih x (by have := Tm.sizes_mem hx; omega) H
    unfold S_wordhoardref_termWrong
    by_cases ka : t.kind < 1
    · have hwr : t.wrong = 4 := by rw [Tm.wrong_eq]; simp [Tm.head, ka]
      simp (disch := first | omega | simp) [iv, Tm.av, Tm.cs_g0, ka]
      exact rt_one hw (by repeat (first | with_reducible assumption | with_reducible exact AH.le.refl _ | with_reducible apply AH.le.up | (with_reducible refine AH.le.put hw ?_ ?_; · first | omega | (simp only [up_nx, put_nx, kill_nx]; done) | (simp only [up_nx, put_nx, kill_nx]; omega)) | (with_reducible refine AH.le.kill hw ?_ ?_; · first | omega | (simp only [up_nx, put_nx, kill_nx]; done) | (simp only [up_nx, put_nx, kill_nx]; omega)))) (by repeat (first | exact Cl.p _ | exact Cl.dsl _ _ | exact Cl.any | refine Cl.tup ?_ | refine Cl.agg ?_ | exact Clo.nil | refine Clo.cons ?_ ?_)) ⟨rfl, by rw [hwr]⟩
    by_cases kb : 4 < t.kind
    · have hwr : t.wrong = 4 := by rw [Tm.wrong_eq]; simp [Tm.head, ka, kb]
      simp (disch := first | omega | simp) [iv, Tm.av, Tm.cs_g0, ka, kb]
      exact rt_one hw (by repeat (first | with_reducible assumption | with_reducible exact AH.le.refl _ | with_reducible apply AH.le.up | (with_reducible refine AH.le.put hw ?_ ?_; · first | omega | (simp only [up_nx, put_nx, kill_nx]; done) | (simp only [up_nx, put_nx, kill_nx]; omega)) | (with_reducible refine AH.le.kill hw ?_ ?_; · first | omega | (simp only [up_nx, put_nx, kill_nx]; done) | (simp only [up_nx, put_nx, kill_nx]; omega)))) (by repeat (first | exact Cl.p _ | exact Cl.dsl _ _ | exact Cl.any | refine Cl.tup ?_ | refine Cl.agg ?_ | exact Clo.nil | refine Clo.cons ?_ ?_)) ⟨rfl, by rw [hwr]⟩
    have kc : t.kind = 1 ∨ t.kind = 2 ∨ t.kind = 3 ∨ t.kind = 4 := by omega
    clear ka kb
    rcases kc with k1 | k1 | k1 | k1
    · by_cases l : t.kids.length = 0
      · have hn3 : t.num < 0 ∨ t.num = 0 ∨ 0 < t.num := by omega
        have hb4 : t.type.kind ≠ 0 ∨ (t.type.kind = 0 ∧ t.type.num ≠ 0) ∨ (t.type.kind = 0 ∧ t.type.num = 0 ∧ t.type.kids.length ≠ 0) ∨ (t.type.kind = 0 ∧ t.type.num = 0 ∧ t.type.kids.length = 0) := by omega
        rcases hb4 with b1 | ⟨b1, b2⟩ | ⟨b1, b2, b3⟩ | ⟨b1, b2, b3⟩ <;> rcases hn3 with n | n | n
        · have hwr : t.wrong = 3 := by rw [Tm.wrong_eq]; simp [Tm.head, Ty.bare, k1, l, b1, n]
          simp (disch := first | omega | simp) [iv, Tm.av, Tm.cs_g0, k1]
          refine cut_st (fun _ : Unit => [.p (.int .i64 0)]) (fun _ H' => ((H.up 2).put H.nx (.box 27 t.cs)) = H') (fun k hk2 => by simp (disch := first | omega | simp) [iv, Tm.cs_g0, k1]; exact hk2 () _ _ _ (.refl (Nat.le_refl _)) rfl) ?_
          rintro _ H2 hn2 rfl
          unfold S_wordhoardref_termWrong_K4
          simp (disch := first | omega | simp) [Tm.cs_g5, l]
          unfold S_wordhoardref_termWrong_C3
          simp (disch := first | omega | simp) [iv, Tm.cs_g1, n]
          exact rt_one hw (by repeat (first | with_reducible assumption | with_reducible exact AH.le.refl _ | with_reducible apply AH.le.up | (with_reducible refine AH.le.put hw ?_ ?_; · first | omega | (simp only [up_nx, put_nx, kill_nx]; done) | (simp only [up_nx, put_nx, kill_nx]; omega)) | (with_reducible refine AH.le.kill hw ?_ ?_; · first | omega | (simp only [up_nx, put_nx, kill_nx]; done) | (simp only [up_nx, put_nx, kill_nx]; omega)))) (by repeat (first | exact Cl.p _ | exact Cl.dsl _ _ | exact Cl.any | refine Cl.tup ?_ | refine Cl.agg ?_ | exact Clo.nil | refine Clo.cons ?_ ?_)) ⟨rfl, by rw [hwr]⟩
        · have hwr : t.wrong = 3 := by rw [Tm.wrong_eq]; simp [Tm.head, Ty.bare, k1, l, b1, n]
          simp (disch := first | omega | simp) [iv, Tm.av, Tm.cs_g0, k1]
          refine cut_st (fun _ : Unit => [.p (.int .i64 0)]) (fun _ H' => ((H.up 2).put H.nx (.box 27 t.cs)) = H') (fun k hk2 => by simp (disch := first | omega | simp) [iv, Tm.cs_g0, k1]; exact hk2 () _ _ _ (.refl (Nat.le_refl _)) rfl) ?_
          rintro _ H2 hn2 rfl
          unfold S_wordhoardref_termWrong_K4
          simp (disch := first | omega | simp) [Tm.cs_g5, l]
          unfold S_wordhoardref_termWrong_C3
          simp (disch := first | omega | simp) [iv, Tm.cs_g0, Tm.cs_g1, Tm.cs_g2, k1, b1, n]
          exact rt_one hw (by repeat (first | with_reducible assumption | with_reducible exact AH.le.refl _ | with_reducible apply AH.le.up | (with_reducible refine AH.le.put hw ?_ ?_; · first | omega | (simp only [up_nx, put_nx, kill_nx]; done) | (simp only [up_nx, put_nx, kill_nx]; omega)) | (with_reducible refine AH.le.kill hw ?_ ?_; · first | omega | (simp only [up_nx, put_nx, kill_nx]; done) | (simp only [up_nx, put_nx, kill_nx]; omega)))) (by repeat (first | exact Cl.p _ | exact Cl.dsl _ _ | exact Cl.any | refine Cl.tup ?_ | refine Cl.agg ?_ | exact Clo.nil | refine Clo.cons ?_ ?_)) ⟨rfl, by rw [hwr]⟩
        · have n1 : ¬ t.num < 0 := by omega
          have n2 : ¬ t.num = 0 := by omega
          have hwr : t.wrong = 3 := by rw [Tm.wrong_eq]; simp [Tm.head, Ty.bare, k1, l, b1, n, n1]
          simp (disch := first | omega | simp) [iv, Tm.av, Tm.cs_g0, k1]
          refine cut_st (fun _ : Unit => [.p (.int .i64 0)]) (fun _ H' => ((H.up 2).put H.nx (.box 27 t.cs)) = H') (fun k hk2 => by simp (disch := first | omega | simp) [iv, Tm.cs_g0, k1]; exact hk2 () _ _ _ (.refl (Nat.le_refl _)) rfl) ?_
          rintro _ H2 hn2 rfl
          unfold S_wordhoardref_termWrong_K4
          simp (disch := first | omega | simp) [Tm.cs_g5, l]
          unfold S_wordhoardref_termWrong_C3
          simp (disch := first | omega | simp) [iv, Tm.cs_g0, Tm.cs_g1, Tm.cs_g2, k1, b1, n1]
          exact rt_one hw (by repeat (first | with_reducible assumption | with_reducible exact AH.le.refl _ | with_reducible apply AH.le.up | (with_reducible refine AH.le.put hw ?_ ?_; · first | omega | (simp only [up_nx, put_nx, kill_nx]; done) | (simp only [up_nx, put_nx, kill_nx]; omega)) | (with_reducible refine AH.le.kill hw ?_ ?_; · first | omega | (simp only [up_nx, put_nx, kill_nx]; done) | (simp only [up_nx, put_nx, kill_nx]; omega)))) (by repeat (first | exact Cl.p _ | exact Cl.dsl _ _ | exact Cl.any | refine Cl.tup ?_ | refine Cl.agg ?_ | exact Clo.nil | refine Clo.cons ?_ ?_)) ⟨rfl, by rw [hwr]⟩
        · have hwr : t.wrong = 3 := by rw [Tm.wrong_eq]; simp [Tm.head, Ty.bare, k1, l, b1, b2, n]
          simp (disch := first | omega | simp) [iv, Tm.av, Tm.cs_g0, k1]
          refine cut_st (fun _ : Unit => [.p (.int .i64 0)]) (fun _ H' => ((H.up 2).put H.nx (.box 27 t.cs)) = H') (fun k hk2 => by simp (disch := first | omega | simp) [iv, Tm.cs_g0, k1]; exact hk2 () _ _ _ (.refl (Nat.le_refl _)) rfl) ?_
          rintro _ H2 hn2 rfl
          unfold S_wordhoardref_termWrong_K4
          simp (disch := first | omega | simp) [Tm.cs_g5, l]
          unfold S_wordhoardref_termWrong_C3
          simp (disch := first | omega | simp) [iv, Tm.cs_g1, n]
          exact rt_one hw (by repeat (first | with_reducible assumption | with_reducible exact AH.le.refl _ | with_reducible apply AH.le.up | (with_reducible refine AH.le.put hw ?_ ?_; · first | omega | (simp only [up_nx, put_nx, kill_nx]; done) | (simp only [up_nx, put_nx, kill_nx]; omega)) | (with_reducible refine AH.le.kill hw ?_ ?_; · first | omega | (simp only [up_nx, put_nx, kill_nx]; done) | (simp only [up_nx, put_nx, kill_nx]; omega)))) (by repeat (first | exact Cl.p _ | exact Cl.dsl _ _ | exact Cl.any | refine Cl.tup ?_ | refine Cl.agg ?_ | exact Clo.nil | refine Clo.cons ?_ ?_)) ⟨rfl, by rw [hwr]⟩
        · have hwr : t.wrong = 3 := by rw [Tm.wrong_eq]; simp [Tm.head, Ty.bare, k1, l, b1, b2, n]
          simp (disch := first | omega | simp) [iv, Tm.av, Tm.cs_g0, k1]
          refine cut_st (fun _ : Unit => [.p (.int .i64 0)]) (fun _ H' => ((H.up 2).put H.nx (.box 27 t.cs)) = H') (fun k hk2 => by simp (disch := first | omega | simp) [iv, Tm.cs_g0, k1]; exact hk2 () _ _ _ (.refl (Nat.le_refl _)) rfl) ?_
          rintro _ H2 hn2 rfl
          unfold S_wordhoardref_termWrong_K4
          simp (disch := first | omega | simp) [Tm.cs_g5, l]
          unfold S_wordhoardref_termWrong_C3
          simp (disch := first | omega | simp) [iv, Tm.cs_g0, Tm.cs_g1, Tm.cs_g2, Tm.cs_g3, k1, b1, b2, n]
          exact rt_one hw (by repeat (first | with_reducible assumption | with_reducible exact AH.le.refl _ | with_reducible apply AH.le.up | (with_reducible refine AH.le.put hw ?_ ?_; · first | omega | (simp only [up_nx, put_nx, kill_nx]; done) | (simp only [up_nx, put_nx, kill_nx]; omega)) | (with_reducible refine AH.le.kill hw ?_ ?_; · first | omega | (simp only [up_nx, put_nx, kill_nx]; done) | (simp only [up_nx, put_nx, kill_nx]; omega)))) (by repeat (first | exact Cl.p _ | exact Cl.dsl _ _ | exact Cl.any | refine Cl.tup ?_ | refine Cl.agg ?_ | exact Clo.nil | refine Clo.cons ?_ ?_)) ⟨rfl, by rw [hwr]⟩
        · have n1 : ¬ t.num < 0 := by omega
          have n2 : ¬ t.num = 0 := by omega
          have hwr : t.wrong = 3 := by rw [Tm.wrong_eq]; simp [Tm.head, Ty.bare, k1, l, b1, b2, n, n1]
          simp (disch := first | omega | simp) [iv, Tm.av, Tm.cs_g0, k1]
          refine cut_st (fun _ : Unit => [.p (.int .i64 0)]) (fun _ H' => ((H.up 2).put H.nx (.box 27 t.cs)) = H') (fun k hk2 => by simp (disch := first | omega | simp) [iv, Tm.cs_g0, k1]; exact hk2 () _ _ _ (.refl (Nat.le_refl _)) rfl) ?_
          rintro _ H2 hn2 rfl
          unfold S_wordhoardref_termWrong_K4
          simp (disch := first | omega | simp) [Tm.cs_g5, l]
          unfold S_wordhoardref_termWrong_C3
          simp (disch := first | omega | simp) [iv, Tm.cs_g0, Tm.cs_g1, Tm.cs_g2, Tm.cs_g3, k1, b1, b2, n1]
          exact rt_one hw (by repeat (first | with_reducible assumption | with_reducible exact AH.le.refl _ | with_reducible apply AH.le.up | (with_reducible refine AH.le.put hw ?_ ?_; · first | omega | (simp only [up_nx, put_nx, kill_nx]; done) | (simp only [up_nx, put_nx, kill_nx]; omega)) | (with_reducible refine AH.le.kill hw ?_ ?_; · first | omega | (simp only [up_nx, put_nx, kill_nx]; done) | (simp only [up_nx, put_nx, kill_nx]; omega)))) (by repeat (first | exact Cl.p _ | exact Cl.dsl _ _ | exact Cl.any | refine Cl.tup ?_ | refine Cl.agg ?_ | exact Clo.nil | refine Clo.cons ?_ ?_)) ⟨rfl, by rw [hwr]⟩
        · have b4 : ¬ ((t.type.kids.length : Int) = 0) := by omega
          have b5 : 0 < t.type.kids.length := by omega
          have hwr : t.wrong = 3 := by rw [Tm.wrong_eq]; simp [Tm.head, Ty.bare, k1, l, b1, b2, b3, n]
          simp (disch := first | omega | simp) [iv, Tm.av, Tm.cs_g0, k1]
          refine cut_st (fun _ : Unit => [.p (.int .i64 0)]) (fun _ H' => ((H.up 2).put H.nx (.box 27 t.cs)) = H') (fun k hk2 => by simp (disch := first | omega | simp) [iv, Tm.cs_g0, k1]; exact hk2 () _ _ _ (.refl (Nat.le_refl _)) rfl) ?_
          rintro _ H2 hn2 rfl
          unfold S_wordhoardref_termWrong_K4
          simp (disch := first | omega | simp) [Tm.cs_g5, l]
          unfold S_wordhoardref_termWrong_C3
          simp (disch := first | omega | simp) [iv, Tm.cs_g1, n]
          exact rt_one hw (by repeat (first | with_reducible assumption | with_reducible exact AH.le.refl _ | with_reducible apply AH.le.up | (with_reducible refine AH.le.put hw ?_ ?_; · first | omega | (simp only [up_nx, put_nx, kill_nx]; done) | (simp only [up_nx, put_nx, kill_nx]; omega)) | (with_reducible refine AH.le.kill hw ?_ ?_; · first | omega | (simp only [up_nx, put_nx, kill_nx]; done) | (simp only [up_nx, put_nx, kill_nx]; omega)))) (by repeat (first | exact Cl.p _ | exact Cl.dsl _ _ | exact Cl.any | refine Cl.tup ?_ | refine Cl.agg ?_ | exact Clo.nil | refine Clo.cons ?_ ?_)) ⟨rfl, by rw [hwr]⟩
        · have b4 : ¬ ((t.type.kids.length : Int) = 0) := by omega
          have b5 : 0 < t.type.kids.length := by omega
          have hwr : t.wrong = 3 := by rw [Tm.wrong_eq]; simp [Tm.head, Ty.bare, k1, l, b1, b2, b3, n]
          simp (disch := first | omega | simp) [iv, Tm.av, Tm.cs_g0, k1]
          refine cut_st (fun _ : Unit => [.p (.int .i64 0)]) (fun _ H' => ((H.up 2).put H.nx (.box 27 t.cs)) = H') (fun k hk2 => by simp (disch := first | omega | simp) [iv, Tm.cs_g0, k1]; exact hk2 () _ _ _ (.refl (Nat.le_refl _)) rfl) ?_
          rintro _ H2 hn2 rfl
          unfold S_wordhoardref_termWrong_K4
          simp (disch := first | omega | simp) [Tm.cs_g5, l]
          unfold S_wordhoardref_termWrong_C3
          simp (disch := first | omega | simp) [iv, Tm.cs_g0, Tm.cs_g1, Tm.cs_g2, Tm.cs_g3, Tm.cs_g4, k1, b1, b2, b5, n]
          exact rt_one hw (by repeat (first | with_reducible assumption | with_reducible exact AH.le.refl _ | with_reducible apply AH.le.up | (with_reducible refine AH.le.put hw ?_ ?_; · first | omega | (simp only [up_nx, put_nx, kill_nx]; done) | (simp only [up_nx, put_nx, kill_nx]; omega)) | (with_reducible refine AH.le.kill hw ?_ ?_; · first | omega | (simp only [up_nx, put_nx, kill_nx]; done) | (simp only [up_nx, put_nx, kill_nx]; omega)))) (by repeat (first | exact Cl.p _ | exact Cl.dsl _ _ | exact Cl.any | refine Cl.tup ?_ | refine Cl.agg ?_ | exact Clo.nil | refine Clo.cons ?_ ?_)) ⟨rfl, by rw [hwr]⟩
        · have b4 : ¬ ((t.type.kids.length : Int) = 0) := by omega
          have b5 : 0 < t.type.kids.length := by omega
          have n1 : ¬ t.num < 0 := by omega
          have n2 : ¬ t.num = 0 := by omega
          have hwr : t.wrong = 3 := by rw [Tm.wrong_eq]; simp [Tm.head, Ty.bare, k1, l, b1, b2, b3, n, n1]
          simp (disch := first | omega | simp) [iv, Tm.av, Tm.cs_g0, k1]
          refine cut_st (fun _ : Unit => [.p (.int .i64 0)]) (fun _ H' => ((H.up 2).put H.nx (.box 27 t.cs)) = H') (fun k hk2 => by simp (disch := first | omega | simp) [iv, Tm.cs_g0, k1]; exact hk2 () _ _ _ (.refl (Nat.le_refl _)) rfl) ?_
          rintro _ H2 hn2 rfl
          unfold S_wordhoardref_termWrong_K4
          simp (disch := first | omega | simp) [Tm.cs_g5, l]
          unfold S_wordhoardref_termWrong_C3
          simp (disch := first | omega | simp) [iv, Tm.cs_g0, Tm.cs_g1, Tm.cs_g2, Tm.cs_g3, Tm.cs_g4, k1, b1, b2, b5, n1]
          exact rt_one hw (by repeat (first | with_reducible assumption | with_reducible exact AH.le.refl _ | with_reducible apply AH.le.up | (with_reducible refine AH.le.put hw ?_ ?_; · first | omega | (simp only [up_nx, put_nx, kill_nx]; done) | (simp only [up_nx, put_nx, kill_nx]; omega)) | (with_reducible refine AH.le.kill hw ?_ ?_; · first | omega | (simp only [up_nx, put_nx, kill_nx]; done) | (simp only [up_nx, put_nx, kill_nx]; omega)))) (by repeat (first | exact Cl.p _ | exact Cl.dsl _ _ | exact Cl.any | refine Cl.tup ?_ | refine Cl.agg ?_ | exact Clo.nil | refine Clo.cons ?_ ?_)) ⟨rfl, by rw [hwr]⟩
        · have hwr : t.wrong = 3 := by rw [Tm.wrong_eq]; simp [Tm.head, Ty.bare, k1, l, b1, b2, b3, n]
          simp (disch := first | omega | simp) [iv, Tm.av, Tm.cs_g0, k1]
          refine cut_st (fun _ : Unit => [.p (.int .i64 0)]) (fun _ H' => ((H.up 2).put H.nx (.box 27 t.cs)) = H') (fun k hk2 => by simp (disch := first | omega | simp) [iv, Tm.cs_g0, k1]; exact hk2 () _ _ _ (.refl (Nat.le_refl _)) rfl) ?_
          rintro _ H2 hn2 rfl
          unfold S_wordhoardref_termWrong_K4
          simp (disch := first | omega | simp) [Tm.cs_g5, l]
          unfold S_wordhoardref_termWrong_C3
          simp (disch := first | omega | simp) [iv, Tm.cs_g1, n]
          exact rt_one hw (by repeat (first | with_reducible assumption | with_reducible exact AH.le.refl _ | with_reducible apply AH.le.up | (with_reducible refine AH.le.put hw ?_ ?_; · first | omega | (simp only [up_nx, put_nx, kill_nx]; done) | (simp only [up_nx, put_nx, kill_nx]; omega)) | (with_reducible refine AH.le.kill hw ?_ ?_; · first | omega | (simp only [up_nx, put_nx, kill_nx]; done) | (simp only [up_nx, put_nx, kill_nx]; omega)))) (by repeat (first | exact Cl.p _ | exact Cl.dsl _ _ | exact Cl.any | refine Cl.tup ?_ | refine Cl.agg ?_ | exact Clo.nil | refine Clo.cons ?_ ?_)) ⟨rfl, by rw [hwr]⟩
        · have hwr : t.wrong = Tm.wrongs t.kids := by rw [Tm.wrong_eq]; simp [Tm.head, Ty.bare, k1, l, b1, b2, b3, n]
          simp (disch := first | omega | simp) [iv, Tm.av, Tm.cs_g0, k1]
          refine cut_st (fun _ : Unit => [.p (.int .i64 0)]) (fun _ H' => ((H.up 2).put H.nx (.box 27 t.cs)) = H') (fun k hk2 => by simp (disch := first | omega | simp) [iv, Tm.cs_g0, k1]; exact hk2 () _ _ _ (.refl (Nat.le_refl _)) rfl) ?_
          rintro _ H2 hn2 rfl
          unfold S_wordhoardref_termWrong_K4
          simp (disch := first | omega | simp) [Tm.cs_g5, l]
          unfold S_wordhoardref_termWrong_C3
          simp (disch := first | omega | simp) [iv, Tm.cs_g0, Tm.cs_g1, Tm.cs_g2, Tm.cs_g3, Tm.cs_g4, k1, b1, b2, b3, n]
          refine cut_st (fun _ : Unit => []) (fun _ H' => ((H.up 2).put H.nx (.box 27 t.cs)) = H') (fun k hk2 => ?_) ?_
          · simp (disch := first | omega | simp) [iv, Tm.cs_g0, k1]
            exact hk2 () _ _ _ (.refl (Nat.le_refl _)) rfl
          · rintro _ H2 hn2 rfl
            unfold S_wordhoardref_termWrong_K2
            rw [hwr]
            exact termWrong_loop (put_get _ _) hw (by repeat (first | with_reducible assumption | with_reducible exact AH.le.refl _ | with_reducible apply AH.le.up | (with_reducible refine AH.le.put hw ?_ ?_; · first | omega | (simp only [up_nx, put_nx, kill_nx]; done) | (simp only [up_nx, put_nx, kill_nx]; omega)) | (with_reducible refine AH.le.kill hw ?_ ?_; · first | omega | (simp only [up_nx, put_nx, kill_nx]; done) | (simp only [up_nx, put_nx, kill_nx]; omega)))) (by first | omega | (simp only [up_nx, put_nx]; done) | (simp only [up_nx, put_nx]; omega)) (by omega) hk
        · have n1 : ¬ t.num < 0 := by omega
          have n2 : ¬ t.num = 0 := by omega
          have hwr : t.wrong = Tm.wrongs t.kids := by rw [Tm.wrong_eq]; simp [Tm.head, Ty.bare, k1, l, b1, b2, b3, n, n1]
          simp (disch := first | omega | simp) [iv, Tm.av, Tm.cs_g0, k1]
          refine cut_st (fun _ : Unit => [.p (.int .i64 0)]) (fun _ H' => ((H.up 2).put H.nx (.box 27 t.cs)) = H') (fun k hk2 => by simp (disch := first | omega | simp) [iv, Tm.cs_g0, k1]; exact hk2 () _ _ _ (.refl (Nat.le_refl _)) rfl) ?_
          rintro _ H2 hn2 rfl
          unfold S_wordhoardref_termWrong_K4
          simp (disch := first | omega | simp) [Tm.cs_g5, l]
          unfold S_wordhoardref_termWrong_C3
          simp (disch := first | omega | simp) [iv, Tm.cs_g0, Tm.cs_g1, Tm.cs_g2, Tm.cs_g3, Tm.cs_g4, k1, b1, b2, b3, n1]
          refine cut_st (fun _ : Unit => []) (fun _ H' => ((H.up 2).put H.nx (.box 27 t.cs)) = H') (fun k hk2 => ?_) ?_
          · simp (disch := first | omega | simp) [iv, Tm.cs_g0, k1]
            exact hk2 () _ _ _ (.refl (Nat.le_refl _)) rfl
          · rintro _ H2 hn2 rfl
            unfold S_wordhoardref_termWrong_K2
            rw [hwr]
            exact termWrong_loop (put_get _ _) hw (by repeat (first | with_reducible assumption | with_reducible exact AH.le.refl _ | with_reducible apply AH.le.up | (with_reducible refine AH.le.put hw ?_ ?_; · first | omega | (simp only [up_nx, put_nx, kill_nx]; done) | (simp only [up_nx, put_nx, kill_nx]; omega)) | (with_reducible refine AH.le.kill hw ?_ ?_; · first | omega | (simp only [up_nx, put_nx, kill_nx]; done) | (simp only [up_nx, put_nx, kill_nx]; omega)))) (by first | omega | (simp only [up_nx, put_nx]; done) | (simp only [up_nx, put_nx]; omega)) (by omega) hk
      · have l2 : ¬ ((t.kids.length : Int) = 0) := by omega
        have l3 : t.kids ≠ [] := fun e => l (by rw [e]; rfl)
        have hwr : t.wrong = 1 := by rw [Tm.wrong_eq]; simp [Tm.head, k1, l3]
        simp (disch := first | omega | simp) [iv, Tm.av, Tm.cs_g0, k1]
        refine cut_st (fun _ : Unit => [.p (.int .i64 0)]) (fun _ H' => ((H.up 2).put H.nx (.box 27 t.cs)) = H') (fun k hk2 => by simp (disch := first | omega | simp) [iv, Tm.cs_g0, k1]; exact hk2 () _ _ _ (.refl (Nat.le_refl _)) rfl) ?_
        rintro _ H2 hn2 rfl
        unfold S_wordhoardref_termWrong_K4
        simp (disch := first | omega | simp) [Tm.cs_g5, l3]
        exact rt_one hw (by repeat (first | with_reducible assumption | with_reducible exact AH.le.refl _ | with_reducible apply AH.le.up | (with_reducible refine AH.le.put hw ?_ ?_; · first | omega | (simp only [up_nx, put_nx, kill_nx]; done) | (simp only [up_nx, put_nx, kill_nx]; omega)) | (with_reducible refine AH.le.kill hw ?_ ?_; · first | omega | (simp only [up_nx, put_nx, kill_nx]; done) | (simp only [up_nx, put_nx, kill_nx]; omega)))) (by repeat (first | exact Cl.p _ | exact Cl.dsl _ _ | exact Cl.any | refine Cl.tup ?_ | refine Cl.agg ?_ | exact Clo.nil | refine Clo.cons ?_ ?_)) ⟨rfl, by rw [hwr]⟩
    · by_cases l : t.kids.length = 0
      · have hn3 : t.num < 0 ∨ t.num = 0 ∨ 0 < t.num := by omega
        have hb4 : t.type.kind ≠ 0 ∨ (t.type.kind = 0 ∧ t.type.num ≠ 0) ∨ (t.type.kind = 0 ∧ t.type.num = 0 ∧ t.type.kids.length ≠ 0) ∨ (t.type.kind = 0 ∧ t.type.num = 0 ∧ t.type.kids.length = 0) := by omega
        rcases hb4 with b1 | ⟨b1, b2⟩ | ⟨b1, b2, b3⟩ | ⟨b1, b2, b3⟩ <;> rcases hn3 with n | n | n
        · have hwr : t.wrong = 3 := by rw [Tm.wrong_eq]; simp [Tm.head, Ty.bare, k1, l, b1, n]
          simp (disch := first | omega | simp) [iv, Tm.av, Tm.cs_g0, k1]
          refine cut_st (fun _ : Unit => [.p (.int .i64 0)]) (fun _ H' => ((H.up 2).put H.nx (.box 27 t.cs)) = H') (fun k hk2 => by simp (disch := first | omega | simp) [iv, Tm.cs_g0, k1]; exact hk2 () _ _ _ (.refl (Nat.le_refl _)) rfl) ?_
          rintro _ H2 hn2 rfl
          unfold S_wordhoardref_termWrong_K4
          simp (disch := first | omega | simp) [Tm.cs_g5, l]
          unfold S_wordhoardref_termWrong_C3
          simp (disch := first | omega | simp) [iv, Tm.cs_g1, n]
          exact rt_one hw (by repeat (first | with_reducible assumption | with_reducible exact AH.le.refl _ | with_reducible apply AH.le.up | (with_reducible refine AH.le.put hw ?_ ?_; · first | omega | (simp only [up_nx, put_nx, kill_nx]; done) | (simp only [up_nx, put_nx, kill_nx]; omega)) | (with_reducible refine AH.le.kill hw ?_ ?_; · first | omega | (simp only [up_nx, put_nx, kill_nx]; done) | (simp only [up_nx, put_nx, kill_nx]; omega)))) (by repeat (first | exact Cl.p _ | exact Cl.dsl _ _ | exact Cl.any | refine Cl.tup ?_ | refine Cl.agg ?_ | exact Clo.nil | refine Clo.cons ?_ ?_)) ⟨rfl, by rw [hwr]⟩
        · have hwr : t.wrong = 3 := by rw [Tm.wrong_eq]; simp [Tm.head, Ty.bare, k1, l, b1, n]
          simp (disch := first | omega | simp) [iv, Tm.av, Tm.cs_g0, k1]
          refine cut_st (fun _ : Unit => [.p (.int .i64 0)]) (fun _ H' => ((H.up 2).put H.nx (.box 27 t.cs)) = H') (fun k hk2 => by simp (disch := first | omega | simp) [iv, Tm.cs_g0, k1]; exact hk2 () _ _ _ (.refl (Nat.le_refl _)) rfl) ?_
          rintro _ H2 hn2 rfl
          unfold S_wordhoardref_termWrong_K4
          simp (disch := first | omega | simp) [Tm.cs_g5, l]
          unfold S_wordhoardref_termWrong_C3
          simp (disch := first | omega | simp) [iv, Tm.cs_g0, Tm.cs_g1, Tm.cs_g2, k1, b1, n]
          exact rt_one hw (by repeat (first | with_reducible assumption | with_reducible exact AH.le.refl _ | with_reducible apply AH.le.up | (with_reducible refine AH.le.put hw ?_ ?_; · first | omega | (simp only [up_nx, put_nx, kill_nx]; done) | (simp only [up_nx, put_nx, kill_nx]; omega)) | (with_reducible refine AH.le.kill hw ?_ ?_; · first | omega | (simp only [up_nx, put_nx, kill_nx]; done) | (simp only [up_nx, put_nx, kill_nx]; omega)))) (by repeat (first | exact Cl.p _ | exact Cl.dsl _ _ | exact Cl.any | refine Cl.tup ?_ | refine Cl.agg ?_ | exact Clo.nil | refine Clo.cons ?_ ?_)) ⟨rfl, by rw [hwr]⟩
        · have n1 : ¬ t.num < 0 := by omega
          have n2 : ¬ t.num = 0 := by omega
          have hwr : t.wrong = 3 := by rw [Tm.wrong_eq]; simp [Tm.head, Ty.bare, k1, l, b1, n, n1]
          simp (disch := first | omega | simp) [iv, Tm.av, Tm.cs_g0, k1]
          refine cut_st (fun _ : Unit => [.p (.int .i64 0)]) (fun _ H' => ((H.up 2).put H.nx (.box 27 t.cs)) = H') (fun k hk2 => by simp (disch := first | omega | simp) [iv, Tm.cs_g0, k1]; exact hk2 () _ _ _ (.refl (Nat.le_refl _)) rfl) ?_
          rintro _ H2 hn2 rfl
          unfold S_wordhoardref_termWrong_K4
          simp (disch := first | omega | simp) [Tm.cs_g5, l]
          unfold S_wordhoardref_termWrong_C3
          simp (disch := first | omega | simp) [iv, Tm.cs_g0, Tm.cs_g1, Tm.cs_g2, k1, b1, n1]
          exact rt_one hw (by repeat (first | with_reducible assumption | with_reducible exact AH.le.refl _ | with_reducible apply AH.le.up | (with_reducible refine AH.le.put hw ?_ ?_; · first | omega | (simp only [up_nx, put_nx, kill_nx]; done) | (simp only [up_nx, put_nx, kill_nx]; omega)) | (with_reducible refine AH.le.kill hw ?_ ?_; · first | omega | (simp only [up_nx, put_nx, kill_nx]; done) | (simp only [up_nx, put_nx, kill_nx]; omega)))) (by repeat (first | exact Cl.p _ | exact Cl.dsl _ _ | exact Cl.any | refine Cl.tup ?_ | refine Cl.agg ?_ | exact Clo.nil | refine Clo.cons ?_ ?_)) ⟨rfl, by rw [hwr]⟩
        · have hwr : t.wrong = 3 := by rw [Tm.wrong_eq]; simp [Tm.head, Ty.bare, k1, l, b1, b2, n]
          simp (disch := first | omega | simp) [iv, Tm.av, Tm.cs_g0, k1]
          refine cut_st (fun _ : Unit => [.p (.int .i64 0)]) (fun _ H' => ((H.up 2).put H.nx (.box 27 t.cs)) = H') (fun k hk2 => by simp (disch := first | omega | simp) [iv, Tm.cs_g0, k1]; exact hk2 () _ _ _ (.refl (Nat.le_refl _)) rfl) ?_
          rintro _ H2 hn2 rfl
          unfold S_wordhoardref_termWrong_K4
          simp (disch := first | omega | simp) [Tm.cs_g5, l]
          unfold S_wordhoardref_termWrong_C3
          simp (disch := first | omega | simp) [iv, Tm.cs_g1, n]
          exact rt_one hw (by repeat (first | with_reducible assumption | with_reducible exact AH.le.refl _ | with_reducible apply AH.le.up | (with_reducible refine AH.le.put hw ?_ ?_; · first | omega | (simp only [up_nx, put_nx, kill_nx]; done) | (simp only [up_nx, put_nx, kill_nx]; omega)) | (with_reducible refine AH.le.kill hw ?_ ?_; · first | omega | (simp only [up_nx, put_nx, kill_nx]; done) | (simp only [up_nx, put_nx, kill_nx]; omega)))) (by repeat (first | exact Cl.p _ | exact Cl.dsl _ _ | exact Cl.any | refine Cl.tup ?_ | refine Cl.agg ?_ | exact Clo.nil | refine Clo.cons ?_ ?_)) ⟨rfl, by rw [hwr]⟩
        · have hwr : t.wrong = 3 := by rw [Tm.wrong_eq]; simp [Tm.head, Ty.bare, k1, l, b1, b2, n]
          simp (disch := first | omega | simp) [iv, Tm.av, Tm.cs_g0, k1]
          refine cut_st (fun _ : Unit => [.p (.int .i64 0)]) (fun _ H' => ((H.up 2).put H.nx (.box 27 t.cs)) = H') (fun k hk2 => by simp (disch := first | omega | simp) [iv, Tm.cs_g0, k1]; exact hk2 () _ _ _ (.refl (Nat.le_refl _)) rfl) ?_
          rintro _ H2 hn2 rfl
          unfold S_wordhoardref_termWrong_K4
          simp (disch := first | omega | simp) [Tm.cs_g5, l]
          unfold S_wordhoardref_termWrong_C3
          simp (disch := first | omega | simp) [iv, Tm.cs_g0, Tm.cs_g1, Tm.cs_g2, Tm.cs_g3, k1, b1, b2, n]
          exact rt_one hw (by repeat (first | with_reducible assumption | with_reducible exact AH.le.refl _ | with_reducible apply AH.le.up | (with_reducible refine AH.le.put hw ?_ ?_; · first | omega | (simp only [up_nx, put_nx, kill_nx]; done) | (simp only [up_nx, put_nx, kill_nx]; omega)) | (with_reducible refine AH.le.kill hw ?_ ?_; · first | omega | (simp only [up_nx, put_nx, kill_nx]; done) | (simp only [up_nx, put_nx, kill_nx]; omega)))) (by repeat (first | exact Cl.p _ | exact Cl.dsl _ _ | exact Cl.any | refine Cl.tup ?_ | refine Cl.agg ?_ | exact Clo.nil | refine Clo.cons ?_ ?_)) ⟨rfl, by rw [hwr]⟩
        · have n1 : ¬ t.num < 0 := by omega
          have n2 : ¬ t.num = 0 := by omega
          have hwr : t.wrong = 3 := by rw [Tm.wrong_eq]; simp [Tm.head, Ty.bare, k1, l, b1, b2, n, n1]
          simp (disch := first | omega | simp) [iv, Tm.av, Tm.cs_g0, k1]
          refine cut_st (fun _ : Unit => [.p (.int .i64 0)]) (fun _ H' => ((H.up 2).put H.nx (.box 27 t.cs)) = H') (fun k hk2 => by simp (disch := first | omega | simp) [iv, Tm.cs_g0, k1]; exact hk2 () _ _ _ (.refl (Nat.le_refl _)) rfl) ?_
          rintro _ H2 hn2 rfl
          unfold S_wordhoardref_termWrong_K4
          simp (disch := first | omega | simp) [Tm.cs_g5, l]
          unfold S_wordhoardref_termWrong_C3
          simp (disch := first | omega | simp) [iv, Tm.cs_g0, Tm.cs_g1, Tm.cs_g2, Tm.cs_g3, k1, b1, b2, n1]
          exact rt_one hw (by repeat (first | with_reducible assumption | with_reducible exact AH.le.refl _ | with_reducible apply AH.le.up | (with_reducible refine AH.le.put hw ?_ ?_; · first | omega | (simp only [up_nx, put_nx, kill_nx]; done) | (simp only [up_nx, put_nx, kill_nx]; omega)) | (with_reducible refine AH.le.kill hw ?_ ?_; · first | omega | (simp only [up_nx, put_nx, kill_nx]; done) | (simp only [up_nx, put_nx, kill_nx]; omega)))) (by repeat (first | exact Cl.p _ | exact Cl.dsl _ _ | exact Cl.any | refine Cl.tup ?_ | refine Cl.agg ?_ | exact Clo.nil | refine Clo.cons ?_ ?_)) ⟨rfl, by rw [hwr]⟩
        · have b4 : ¬ ((t.type.kids.length : Int) = 0) := by omega
          have b5 : 0 < t.type.kids.length := by omega
          have hwr : t.wrong = 3 := by rw [Tm.wrong_eq]; simp [Tm.head, Ty.bare, k1, l, b1, b2, b3, n]
          simp (disch := first | omega | simp) [iv, Tm.av, Tm.cs_g0, k1]
          refine cut_st (fun _ : Unit => [.p (.int .i64 0)]) (fun _ H' => ((H.up 2).put H.nx (.box 27 t.cs)) = H') (fun k hk2 => by simp (disch := first | omega | simp) [iv, Tm.cs_g0, k1]; exact hk2 () _ _ _ (.refl (Nat.le_refl _)) rfl) ?_
          rintro _ H2 hn2 rfl
          unfold S_wordhoardref_termWrong_K4
          simp (disch := first | omega | simp) [Tm.cs_g5, l]
          unfold S_wordhoardref_termWrong_C3
          simp (disch := first | omega | simp) [iv, Tm.cs_g1, n]
          exact rt_one hw (by repeat (first | with_reducible assumption | with_reducible exact AH.le.refl _ | with_reducible apply AH.le.up | (with_reducible refine AH.le.put hw ?_ ?_; · first | omega | (simp only [up_nx, put_nx, kill_nx]; done) | (simp only [up_nx, put_nx, kill_nx]; omega)) | (with_reducible refine AH.le.kill hw ?_ ?_; · first | omega | (simp only [up_nx, put_nx, kill_nx]; done) | (simp only [up_nx, put_nx, kill_nx]; omega)))) (by repeat (first | exact Cl.p _ | exact Cl.dsl _ _ | exact Cl.any | refine Cl.tup ?_ | refine Cl.agg ?_ | exact Clo.nil | refine Clo.cons ?_ ?_)) ⟨rfl, by rw [hwr]⟩
        · have b4 : ¬ ((t.type.kids.length : Int) = 0) := by omega
          have b5 : 0 < t.type.kids.length := by omega
          have hwr : t.wrong = 3 := by rw [Tm.wrong_eq]; simp [Tm.head, Ty.bare, k1, l, b1, b2, b3, n]
          simp (disch := first | omega | simp) [iv, Tm.av, Tm.cs_g0, k1]
          refine cut_st (fun _ : Unit => [.p (.int .i64 0)]) (fun _ H' => ((H.up 2).put H.nx (.box 27 t.cs)) = H') (fun k hk2 => by simp (disch := first | omega | simp) [iv, Tm.cs_g0, k1]; exact hk2 () _ _ _ (.refl (Nat.le_refl _)) rfl) ?_
          rintro _ H2 hn2 rfl
          unfold S_wordhoardref_termWrong_K4
          simp (disch := first | omega | simp) [Tm.cs_g5, l]
          unfold S_wordhoardref_termWrong_C3
          simp (disch := first | omega | simp) [iv, Tm.cs_g0, Tm.cs_g1, Tm.cs_g2, Tm.cs_g3, Tm.cs_g4, k1, b1, b2, b5, n]
          exact rt_one hw (by repeat (first | with_reducible assumption | with_reducible exact AH.le.refl _ | with_reducible apply AH.le.up | (with_reducible refine AH.le.put hw ?_ ?_; · first | omega | (simp only [up_nx, put_nx, kill_nx]; done) | (simp only [up_nx, put_nx, kill_nx]; omega)) | (with_reducible refine AH.le.kill hw ?_ ?_; · first | omega | (simp only [up_nx, put_nx, kill_nx]; done) | (simp only [up_nx, put_nx, kill_nx]; omega)))) (by repeat (first | exact Cl.p _ | exact Cl.dsl _ _ | exact Cl.any | refine Cl.tup ?_ | refine Cl.agg ?_ | exact Clo.nil | refine Clo.cons ?_ ?_)) ⟨rfl, by rw [hwr]⟩
        · have b4 : ¬ ((t.type.kids.length : Int) = 0) := by omega
          have b5 : 0 < t.type.kids.length := by omega
          have n1 : ¬ t.num < 0 := by omega
          have n2 : ¬ t.num = 0 := by omega
          have hwr : t.wrong = 3 := by rw [Tm.wrong_eq]; simp [Tm.head, Ty.bare, k1, l, b1, b2, b3, n, n1]
          simp (disch := first | omega | simp) [iv, Tm.av, Tm.cs_g0, k1]
          refine cut_st (fun _ : Unit => [.p (.int .i64 0)]) (fun _ H' => ((H.up 2).put H.nx (.box 27 t.cs)) = H') (fun k hk2 => by simp (disch := first | omega | simp) [iv, Tm.cs_g0, k1]; exact hk2 () _ _ _ (.refl (Nat.le_refl _)) rfl) ?_
          rintro _ H2 hn2 rfl
          unfold S_wordhoardref_termWrong_K4
          simp (disch := first | omega | simp) [Tm.cs_g5, l]
          unfold S_wordhoardref_termWrong_C3
          simp (disch := first | omega | simp) [iv, Tm.cs_g0, Tm.cs_g1, Tm.cs_g2, Tm.cs_g3, Tm.cs_g4, k1, b1, b2, b5, n1]
          exact rt_one hw (by repeat (first | with_reducible assumption | with_reducible exact AH.le.refl _ | with_reducible apply AH.le.up | (with_reducible refine AH.le.put hw ?_ ?_; · first | omega | (simp only [up_nx, put_nx, kill_nx]; done) | (simp only [up_nx, put_nx, kill_nx]; omega)) | (with_reducible refine AH.le.kill hw ?_ ?_; · first | omega | (simp only [up_nx, put_nx, kill_nx]; done) | (simp only [up_nx, put_nx, kill_nx]; omega)))) (by repeat (first | exact Cl.p _ | exact Cl.dsl _ _ | exact Cl.any | refine Cl.tup ?_ | refine Cl.agg ?_ | exact Clo.nil | refine Clo.cons ?_ ?_)) ⟨rfl, by rw [hwr]⟩
        · have hwr : t.wrong = 3 := by rw [Tm.wrong_eq]; simp [Tm.head, Ty.bare, k1, l, b1, b2, b3, n]
          simp (disch := first | omega | simp) [iv, Tm.av, Tm.cs_g0, k1]
          refine cut_st (fun _ : Unit => [.p (.int .i64 0)]) (fun _ H' => ((H.up 2).put H.nx (.box 27 t.cs)) = H') (fun k hk2 => by simp (disch := first | omega | simp) [iv, Tm.cs_g0, k1]; exact hk2 () _ _ _ (.refl (Nat.le_refl _)) rfl) ?_
          rintro _ H2 hn2 rfl
          unfold S_wordhoardref_termWrong_K4
          simp (disch := first | omega | simp) [Tm.cs_g5, l]
          unfold S_wordhoardref_termWrong_C3
          simp (disch := first | omega | simp) [iv, Tm.cs_g1, n]
          exact rt_one hw (by repeat (first | with_reducible assumption | with_reducible exact AH.le.refl _ | with_reducible apply AH.le.up | (with_reducible refine AH.le.put hw ?_ ?_; · first | omega | (simp only [up_nx, put_nx, kill_nx]; done) | (simp only [up_nx, put_nx, kill_nx]; omega)) | (with_reducible refine AH.le.kill hw ?_ ?_; · first | omega | (simp only [up_nx, put_nx, kill_nx]; done) | (simp only [up_nx, put_nx, kill_nx]; omega)))) (by repeat (first | exact Cl.p _ | exact Cl.dsl _ _ | exact Cl.any | refine Cl.tup ?_ | refine Cl.agg ?_ | exact Clo.nil | refine Clo.cons ?_ ?_)) ⟨rfl, by rw [hwr]⟩
        · have hwr : t.wrong = Tm.wrongs t.kids := by rw [Tm.wrong_eq]; simp [Tm.head, Ty.bare, k1, l, b1, b2, b3, n]
          simp (disch := first | omega | simp) [iv, Tm.av, Tm.cs_g0, k1]
          refine cut_st (fun _ : Unit => [.p (.int .i64 0)]) (fun _ H' => ((H.up 2).put H.nx (.box 27 t.cs)) = H') (fun k hk2 => by simp (disch := first | omega | simp) [iv, Tm.cs_g0, k1]; exact hk2 () _ _ _ (.refl (Nat.le_refl _)) rfl) ?_
          rintro _ H2 hn2 rfl
          unfold S_wordhoardref_termWrong_K4
          simp (disch := first | omega | simp) [Tm.cs_g5, l]
          unfold S_wordhoardref_termWrong_C3
          simp (disch := first | omega | simp) [iv, Tm.cs_g0, Tm.cs_g1, Tm.cs_g2, Tm.cs_g3, Tm.cs_g4, k1, b1, b2, b3, n]
          refine cut_st (fun _ : Unit => []) (fun _ H' => ((H.up 2).put H.nx (.box 27 t.cs)) = H') (fun k hk2 => ?_) ?_
          · simp (disch := first | omega | simp) [iv, Tm.cs_g0, k1]
            exact hk2 () _ _ _ (.refl (Nat.le_refl _)) rfl
          · rintro _ H2 hn2 rfl
            unfold S_wordhoardref_termWrong_K2
            rw [hwr]
            exact termWrong_loop (put_get _ _) hw (by repeat (first | with_reducible assumption | with_reducible exact AH.le.refl _ | with_reducible apply AH.le.up | (with_reducible refine AH.le.put hw ?_ ?_; · first | omega | (simp only [up_nx, put_nx, kill_nx]; done) | (simp only [up_nx, put_nx, kill_nx]; omega)) | (with_reducible refine AH.le.kill hw ?_ ?_; · first | omega | (simp only [up_nx, put_nx, kill_nx]; done) | (simp only [up_nx, put_nx, kill_nx]; omega)))) (by first | omega | (simp only [up_nx, put_nx]; done) | (simp only [up_nx, put_nx]; omega)) (by omega) hk
        · have n1 : ¬ t.num < 0 := by omega
          have n2 : ¬ t.num = 0 := by omega
          have hwr : t.wrong = Tm.wrongs t.kids := by rw [Tm.wrong_eq]; simp [Tm.head, Ty.bare, k1, l, b1, b2, b3, n, n1]
          simp (disch := first | omega | simp) [iv, Tm.av, Tm.cs_g0, k1]
          refine cut_st (fun _ : Unit => [.p (.int .i64 0)]) (fun _ H' => ((H.up 2).put H.nx (.box 27 t.cs)) = H') (fun k hk2 => by simp (disch := first | omega | simp) [iv, Tm.cs_g0, k1]; exact hk2 () _ _ _ (.refl (Nat.le_refl _)) rfl) ?_
          rintro _ H2 hn2 rfl
          unfold S_wordhoardref_termWrong_K4
          simp (disch := first | omega | simp) [Tm.cs_g5, l]
          unfold S_wordhoardref_termWrong_C3
          simp (disch := first | omega | simp) [iv, Tm.cs_g0, Tm.cs_g1, Tm.cs_g2, Tm.cs_g3, Tm.cs_g4, k1, b1, b2, b3, n1]
          refine cut_st (fun _ : Unit => []) (fun _ H' => ((H.up 2).put H.nx (.box 27 t.cs)) = H') (fun k hk2 => ?_) ?_
          · simp (disch := first | omega | simp) [iv, Tm.cs_g0, k1]
            exact hk2 () _ _ _ (.refl (Nat.le_refl _)) rfl
          · rintro _ H2 hn2 rfl
            unfold S_wordhoardref_termWrong_K2
            rw [hwr]
            exact termWrong_loop (put_get _ _) hw (by repeat (first | with_reducible assumption | with_reducible exact AH.le.refl _ | with_reducible apply AH.le.up | (with_reducible refine AH.le.put hw ?_ ?_; · first | omega | (simp only [up_nx, put_nx, kill_nx]; done) | (simp only [up_nx, put_nx, kill_nx]; omega)) | (with_reducible refine AH.le.kill hw ?_ ?_; · first | omega | (simp only [up_nx, put_nx, kill_nx]; done) | (simp only [up_nx, put_nx, kill_nx]; omega)))) (by first | omega | (simp only [up_nx, put_nx]; done) | (simp only [up_nx, put_nx]; omega)) (by omega) hk
      · have l2 : ¬ ((t.kids.length : Int) = 0) := by omega
        have l3 : t.kids ≠ [] := fun e => l (by rw [e]; rfl)
        have hwr : t.wrong = 1 := by rw [Tm.wrong_eq]; simp [Tm.head, k1, l3]
        simp (disch := first | omega | simp) [iv, Tm.av, Tm.cs_g0, k1]
        refine cut_st (fun _ : Unit => [.p (.int .i64 0)]) (fun _ H' => ((H.up 2).put H.nx (.box 27 t.cs)) = H') (fun k hk2 => by simp (disch := first | omega | simp) [iv, Tm.cs_g0, k1]; exact hk2 () _ _ _ (.refl (Nat.le_refl _)) rfl) ?_
        rintro _ H2 hn2 rfl
        unfold S_wordhoardref_termWrong_K4
        simp (disch := first | omega | simp) [Tm.cs_g5, l3]
        exact rt_one hw (by repeat (first | with_reducible assumption | with_reducible exact AH.le.refl _ | with_reducible apply AH.le.up | (with_reducible refine AH.le.put hw ?_ ?_; · first | omega | (simp only [up_nx, put_nx, kill_nx]; done) | (simp only [up_nx, put_nx, kill_nx]; omega)) | (with_reducible refine AH.le.kill hw ?_ ?_; · first | omega | (simp only [up_nx, put_nx, kill_nx]; done) | (simp only [up_nx, put_nx, kill_nx]; omega)))) (by repeat (first | exact Cl.p _ | exact Cl.dsl _ _ | exact Cl.any | refine Cl.tup ?_ | refine Cl.agg ?_ | exact Clo.nil | refine Clo.cons ?_ ?_)) ⟨rfl, by rw [hwr]⟩
    · by_cases l : t.kids.length = 1
      · have hn3 : t.num < 0 ∨ t.num = 0 ∨ 0 < t.num := by omega
        have hb4 : t.type.kind ≠ 0 ∨ (t.type.kind = 0 ∧ t.type.num ≠ 0) ∨ (t.type.kind = 0 ∧ t.type.num = 0 ∧ t.type.kids.length ≠ 0) ∨ (t.type.kind = 0 ∧ t.type.num = 0 ∧ t.type.kids.length = 0) := by omega
        rcases hb4 with b1 | ⟨b1, b2⟩ | ⟨b1, b2, b3⟩ | ⟨b1, b2, b3⟩ <;> rcases hn3 with n | n | n
        · have hwr : t.wrong = 3 := by rw [Tm.wrong_eq]; simp [Tm.head, Ty.bare, k1, l, b1, n]
          simp (disch := first | omega | simp) [iv, Tm.av, Tm.cs_g0, k1]
          refine cut_st (fun _ : Unit => [.p (.int .i64 1)]) (fun _ H' => ((H.up 2).put H.nx (.box 27 t.cs)) = H') (fun k hk2 => by simp (disch := first | omega | simp) [iv, Tm.cs_g0, k1]; exact hk2 () _ _ _ (.refl (Nat.le_refl _)) rfl) ?_
          rintro _ H2 hn2 rfl
          unfold S_wordhoardref_termWrong_K4
          simp (disch := first | omega | simp) [Tm.cs_g5, l]
          unfold S_wordhoardref_termWrong_C3
          simp (disch := first | omega | simp) [iv, Tm.cs_g1, n]
          exact rt_one hw (by repeat (first | with_reducible assumption | with_reducible exact AH.le.refl _ | with_reducible apply AH.le.up | (with_reducible refine AH.le.put hw ?_ ?_; · first | omega | (simp only [up_nx, put_nx, kill_nx]; done) | (simp only [up_nx, put_nx, kill_nx]; omega)) | (with_reducible refine AH.le.kill hw ?_ ?_; · first | omega | (simp only [up_nx, put_nx, kill_nx]; done) | (simp only [up_nx, put_nx, kill_nx]; omega)))) (by repeat (first | exact Cl.p _ | exact Cl.dsl _ _ | exact Cl.any | refine Cl.tup ?_ | refine Cl.agg ?_ | exact Clo.nil | refine Clo.cons ?_ ?_)) ⟨rfl, by rw [hwr]⟩
        · simp (disch := first | omega | simp) [iv, Tm.av, Tm.cs_g0, k1]
          refine cut_st (fun _ : Unit => [.p (.int .i64 1)]) (fun _ H' => ((H.up 2).put H.nx (.box 27 t.cs)) = H') (fun k hk2 => by simp (disch := first | omega | simp) [iv, Tm.cs_g0, k1]; exact hk2 () _ _ _ (.refl (Nat.le_refl _)) rfl) ?_
          rintro _ H2 hn2 rfl
          unfold S_wordhoardref_termWrong_K4
          simp (disch := first | omega | simp) [Tm.cs_g5, l]
          unfold S_wordhoardref_termWrong_C3
          simp (disch := first | omega | simp) [iv, Tm.cs_g0, Tm.cs_g1, k1, n]
          by_cases h0 : t.type.check = 0
          · have hwr : t.wrong = Tm.wrongs t.kids := by rw [Tm.wrong_eq]; simp [Tm.head, Ty.bare, k1, l, b1, n, h0]
            refine cut_st (fun _ : Unit => []) (fun _ H' => ((H.up 2).put H.nx (.box 27 t.cs)) = H') (fun k hk2 => ?_) ?_
            · simp (disch := first | omega | simp) [iv, Tm.cs_len, Tm.cs_g0, Tm.cs_type, k1]
              refine ca_pure (by kernel_rfl) (c_RCheckType t.type _) ?_
              simp (disch := first | omega | simp) [iv, h0]
              exact hk2 () _ _ _ (.refl (Nat.le_refl _)) rfl
            · rintro _ H2 hn2 rfl
              unfold S_wordhoardref_termWrong_K2
              rw [hwr]
              exact termWrong_loop (put_get _ _) hw (by repeat (first | with_reducible assumption | with_reducible exact AH.le.refl _ | with_reducible apply AH.le.up | (with_reducible refine AH.le.put hw ?_ ?_; · first | omega | (simp only [up_nx, put_nx, kill_nx]; done) | (simp only [up_nx, put_nx, kill_nx]; omega)) | (with_reducible refine AH.le.kill hw ?_ ?_; · first | omega | (simp only [up_nx, put_nx, kill_nx]; done) | (simp only [up_nx, put_nx, kill_nx]; omega)))) (by first | omega | (simp only [up_nx, put_nx]; done) | (simp only [up_nx, put_nx]; omega)) (by omega) hk
          · have hwr : t.wrong = t.type.check := by rw [Tm.wrong_eq]; simp [Tm.head, Ty.bare, k1, l, b1, n, h0]
            refine cut_st (fun _ : Unit => []) (fun _ _ => False) (fun k hk2 => ?_) (fun _ _ _ h => h.elim)
            simp (disch := first | omega | simp) [iv, Tm.cs_len, Tm.cs_g0, Tm.cs_type, k1]
            refine ca_pure (by kernel_rfl) (c_RCheckType t.type _) ?_
            simp (disch := first | omega | simp) [iv, h0]
            exact rt_one hw (by repeat (first | with_reducible assumption | with_reducible exact AH.le.refl _ | with_reducible apply AH.le.up | (with_reducible refine AH.le.put hw ?_ ?_; · first | omega | (simp only [up_nx, put_nx, kill_nx]; done) | (simp only [up_nx, put_nx, kill_nx]; omega)) | (with_reducible refine AH.le.kill hw ?_ ?_; · first | omega | (simp only [up_nx, put_nx, kill_nx]; done) | (simp only [up_nx, put_nx, kill_nx]; omega)))) (by repeat (first | exact Cl.p _ | exact Cl.dsl _ _ | exact Cl.any | refine Cl.tup ?_ | refine Cl.agg ?_ | exact Clo.nil | refine Clo.cons ?_ ?_)) ⟨rfl, by rw [hwr]⟩
        · have n1 : ¬ t.num < 0 := by omega
          have n2 : ¬ t.num = 0 := by omega
          have hwr : t.wrong = 3 := by rw [Tm.wrong_eq]; simp [Tm.head, Ty.bare, k1, l, b1, n, n1]
          simp (disch := first | omega | simp) [iv, Tm.av, Tm.cs_g0, k1]
          refine cut_st (fun _ : Unit => [.p (.int .i64 1)]) (fun _ H' => ((H.up 2).put H.nx (.box 27 t.cs)) = H') (fun k hk2 => by simp (disch := first | omega | simp) [iv, Tm.cs_g0, k1]; exact hk2 () _ _ _ (.refl (Nat.le_refl _)) rfl) ?_
          rintro _ H2 hn2 rfl
          unfold S_wordhoardref_termWrong_K4
          simp (disch := first | omega | simp) [Tm.cs_g5, l]
          unfold S_wordhoardref_termWrong_C3
          simp (disch := first | omega | simp) [iv, Tm.cs_g0, Tm.cs_g1, k1, n1, n2]
          exact rt_one hw (by repeat (first | with_reducible assumption | with_reducible exact AH.le.refl _ | with_reducible apply AH.le.up | (with_reducible refine AH.le.put hw ?_ ?_; · first | omega | (simp only [up_nx, put_nx, kill_nx]; done) | (simp only [up_nx, put_nx, kill_nx]; omega)) | (with_reducible refine AH.le.kill hw ?_ ?_; · first | omega | (simp only [up_nx, put_nx, kill_nx]; done) | (simp only [up_nx, put_nx, kill_nx]; omega)))) (by repeat (first | exact Cl.p _ | exact Cl.dsl _ _ | exact Cl.any | refine Cl.tup ?_ | refine Cl.agg ?_ | exact Clo.nil | refine Clo.cons ?_ ?_)) ⟨rfl, by rw [hwr]⟩
        · have hwr : t.wrong = 3 := by rw [Tm.wrong_eq]; simp [Tm.head, Ty.bare, k1, l, b1, b2, n]
          simp (disch := first | omega | simp) [iv, Tm.av, Tm.cs_g0, k1]
          refine cut_st (fun _ : Unit => [.p (.int .i64 1)]) (fun _ H' => ((H.up 2).put H.nx (.box 27 t.cs)) = H') (fun k hk2 => by simp (disch := first | omega | simp) [iv, Tm.cs_g0, k1]; exact hk2 () _ _ _ (.refl (Nat.le_refl _)) rfl) ?_
          rintro _ H2 hn2 rfl
          unfold S_wordhoardref_termWrong_K4
          simp (disch := first | omega | simp) [Tm.cs_g5, l]
          unfold S_wordhoardref_termWrong_C3
          simp (disch := first | omega | simp) [iv, Tm.cs_g1, n]
          exact rt_one hw (by repeat (first | with_reducible assumption | with_reducible exact AH.le.refl _ | with_reducible apply AH.le.up | (with_reducible refine AH.le.put hw ?_ ?_; · first | omega | (simp only [up_nx, put_nx, kill_nx]; done) | (simp only [up_nx, put_nx, kill_nx]; omega)) | (with_reducible refine AH.le.kill hw ?_ ?_; · first | omega | (simp only [up_nx, put_nx, kill_nx]; done) | (simp only [up_nx, put_nx, kill_nx]; omega)))) (by repeat (first | exact Cl.p _ | exact Cl.dsl _ _ | exact Cl.any | refine Cl.tup ?_ | refine Cl.agg ?_ | exact Clo.nil | refine Clo.cons ?_ ?_)) ⟨rfl, by rw [hwr]⟩
        · simp (disch := first | omega | simp) [iv, Tm.av, Tm.cs_g0, k1]
          refine cut_st (fun _ : Unit => [.p (.int .i64 1)]) (fun _ H' => ((H.up 2).put H.nx (.box 27 t.cs)) = H') (fun k hk2 => by simp (disch := first | omega | simp) [iv, Tm.cs_g0, k1]; exact hk2 () _ _ _ (.refl (Nat.le_refl _)) rfl) ?_
          rintro _ H2 hn2 rfl
          unfold S_wordhoardref_termWrong_K4
          simp (disch := first | omega | simp) [Tm.cs_g5, l]
          unfold S_wordhoardref_termWrong_C3
          simp (disch := first | omega | simp) [iv, Tm.cs_g0, Tm.cs_g1, k1, n]
          by_cases h0 : t.type.check = 0
          · have hwr : t.wrong = Tm.wrongs t.kids := by rw [Tm.wrong_eq]; simp [Tm.head, Ty.bare, k1, l, b1, b2, n, h0]
            refine cut_st (fun _ : Unit => []) (fun _ H' => ((H.up 2).put H.nx (.box 27 t.cs)) = H') (fun k hk2 => ?_) ?_
            · simp (disch := first | omega | simp) [iv, Tm.cs_len, Tm.cs_g0, Tm.cs_type, k1]
              refine ca_pure (by kernel_rfl) (c_RCheckType t.type _) ?_
              simp (disch := first | omega | simp) [iv, h0]
              exact hk2 () _ _ _ (.refl (Nat.le_refl _)) rfl
            · rintro _ H2 hn2 rfl
              unfold S_wordhoardref_termWrong_K2
              rw [hwr]
              exact termWrong_loop (put_get _ _) hw (by repeat (first | with_reducible assumption | with_reducible exact AH.le.refl _ | with_reducible apply AH.le.up | (with_reducible refine AH.le.put hw ?_ ?_; · first | omega | (simp only [up_nx, put_nx, kill_nx]; done) | (simp only [up_nx, put_nx, kill_nx]; omega)) | (with_reducible refine AH.le.kill hw ?_ ?_; · first | omega | (simp only [up_nx, put_nx, kill_nx]; done) | (simp only [up_nx, put_nx, kill_nx]; omega)))) (by first | omega | (simp only [up_nx, put_nx]; done) | (simp only [up_nx, put_nx]; omega)) (by omega) hk
          · have hwr : t.wrong = t.type.check := by rw [Tm.wrong_eq]; simp [Tm.head, Ty.bare, k1, l, b1, b2, n, h0]
            refine cut_st (fun _ : Unit => []) (fun _ _ => False) (fun k hk2 => ?_) (fun _ _ _ h => h.elim)
            simp (disch := first | omega | simp) [iv, Tm.cs_len, Tm.cs_g0, Tm.cs_type, k1]
            refine ca_pure (by kernel_rfl) (c_RCheckType t.type _) ?_
            simp (disch := first | omega | simp) [iv, h0]
            exact rt_one hw (by repeat (first | with_reducible assumption | with_reducible exact AH.le.refl _ | with_reducible apply AH.le.up | (with_reducible refine AH.le.put hw ?_ ?_; · first | omega | (simp only [up_nx, put_nx, kill_nx]; done) | (simp only [up_nx, put_nx, kill_nx]; omega)) | (with_reducible refine AH.le.kill hw ?_ ?_; · first | omega | (simp only [up_nx, put_nx, kill_nx]; done) | (simp only [up_nx, put_nx, kill_nx]; omega)))) (by repeat (first | exact Cl.p _ | exact Cl.dsl _ _ | exact Cl.any | refine Cl.tup ?_ | refine Cl.agg ?_ | exact Clo.nil | refine Clo.cons ?_ ?_)) ⟨rfl, by rw [hwr]⟩
        · have n1 : ¬ t.num < 0 := by omega
          have n2 : ¬ t.num = 0 := by omega
          have hwr : t.wrong = 3 := by rw [Tm.wrong_eq]; simp [Tm.head, Ty.bare, k1, l, b1, b2, n, n1]
          simp (disch := first | omega | simp) [iv, Tm.av, Tm.cs_g0, k1]
          refine cut_st (fun _ : Unit => [.p (.int .i64 1)]) (fun _ H' => ((H.up 2).put H.nx (.box 27 t.cs)) = H') (fun k hk2 => by simp (disch := first | omega | simp) [iv, Tm.cs_g0, k1]; exact hk2 () _ _ _ (.refl (Nat.le_refl _)) rfl) ?_
          rintro _ H2 hn2 rfl
          unfold S_wordhoardref_termWrong_K4
          simp (disch := first | omega | simp) [Tm.cs_g5, l]
          unfold S_wordhoardref_termWrong_C3
          simp (disch := first | omega | simp) [iv, Tm.cs_g0, Tm.cs_g1, k1, n1, n2]
          exact rt_one hw (by repeat (first | with_reducible assumption | with_reducible exact AH.le.refl _ | with_reducible apply AH.le.up | (with_reducible refine AH.le.put hw ?_ ?_; · first | omega | (simp only [up_nx, put_nx, kill_nx]; done) | (simp only [up_nx, put_nx, kill_nx]; omega)) | (with_reducible refine AH.le.kill hw ?_ ?_; · first | omega | (simp only [up_nx, put_nx, kill_nx]; done) | (simp only [up_nx, put_nx, kill_nx]; omega)))) (by repeat (first | exact Cl.p _ | exact Cl.dsl _ _ | exact Cl.any | refine Cl.tup ?_ | refine Cl.agg ?_ | exact Clo.nil | refine Clo.cons ?_ ?_)) ⟨rfl, by rw [hwr]⟩
        · have b4 : ¬ ((t.type.kids.length : Int) = 0) := by omega
          have b5 : 0 < t.type.kids.length := by omega
          have hwr : t.wrong = 3 := by rw [Tm.wrong_eq]; simp [Tm.head, Ty.bare, k1, l, b1, b2, b3, n]
          simp (disch := first | omega | simp) [iv, Tm.av, Tm.cs_g0, k1]
          refine cut_st (fun _ : Unit => [.p (.int .i64 1)]) (fun _ H' => ((H.up 2).put H.nx (.box 27 t.cs)) = H') (fun k hk2 => by simp (disch := first | omega | simp) [iv, Tm.cs_g0, k1]; exact hk2 () _ _ _ (.refl (Nat.le_refl _)) rfl) ?_
          rintro _ H2 hn2 rfl
          unfold S_wordhoardref_termWrong_K4
          simp (disch := first | omega | simp) [Tm.cs_g5, l]
          unfold S_wordhoardref_termWrong_C3
          simp (disch := first | omega | simp) [iv, Tm.cs_g1, n]
          exact rt_one hw (by repeat (first | with_reducible assumption | with_reducible exact AH.le.refl _ | with_reducible apply AH.le.up | (with_reducible refine AH.le.put hw ?_ ?_; · first | omega | (simp only [up_nx, put_nx, kill_nx]; done) | (simp only [up_nx, put_nx, kill_nx]; omega)) | (with_reducible refine AH.le.kill hw ?_ ?_; · first | omega | (simp only [up_nx, put_nx, kill_nx]; done) | (simp only [up_nx, put_nx, kill_nx]; omega)))) (by repeat (first | exact Cl.p _ | exact Cl.dsl _ _ | exact Cl.any | refine Cl.tup ?_ | refine Cl.agg ?_ | exact Clo.nil | refine Clo.cons ?_ ?_)) ⟨rfl, by rw [hwr]⟩
        · have b4 : ¬ ((t.type.kids.length : Int) = 0) := by omega
          have b5 : 0 < t.type.kids.length := by omega
          simp (disch := first | omega | simp) [iv, Tm.av, Tm.cs_g0, k1]
          refine cut_st (fun _ : Unit => [.p (.int .i64 1)]) (fun _ H' => ((H.up 2).put H.nx (.box 27 t.cs)) = H') (fun k hk2 => by simp (disch := first | omega | simp) [iv, Tm.cs_g0, k1]; exact hk2 () _ _ _ (.refl (Nat.le_refl _)) rfl) ?_
          rintro _ H2 hn2 rfl
          unfold S_wordhoardref_termWrong_K4
          simp (disch := first | omega | simp) [Tm.cs_g5, l]
          unfold S_wordhoardref_termWrong_C3
          simp (disch := first | omega | simp) [iv, Tm.cs_g0, Tm.cs_g1, k1, n]
          by_cases h0 : t.type.check = 0
          · have hwr : t.wrong = Tm.wrongs t.kids := by rw [Tm.wrong_eq]; simp [Tm.head, Ty.bare, k1, l, b1, b2, b3, n, h0]
            refine cut_st (fun _ : Unit => []) (fun _ H' => ((H.up 2).put H.nx (.box 27 t.cs)) = H') (fun k hk2 => ?_) ?_
            · simp (disch := first | omega | simp) [iv, Tm.cs_len, Tm.cs_g0, Tm.cs_type, k1]
              refine ca_pure (by kernel_rfl) (c_RCheckType t.type _) ?_
              simp (disch := first | omega | simp) [iv, h0]
              exact hk2 () _ _ _ (.refl (Nat.le_refl _)) rfl
            · rintro _ H2 hn2 rfl
              unfold S_wordhoardref_termWrong_K2
              rw [hwr]
              exact termWrong_loop (put_get _ _) hw (by repeat (first | with_reducible assumption | with_reducible exact AH.le.refl _ | with_reducible apply AH.le.up | (with_reducible refine AH.le.put hw ?_ ?_; · first | omega | (simp only [up_nx, put_nx, kill_nx]; done) | (simp only [up_nx, put_nx, kill_nx]; omega)) | (with_reducible refine AH.le.kill hw ?_ ?_; · first | omega | (simp only [up_nx, put_nx, kill_nx]; done) | (simp only [up_nx, put_nx, kill_nx]; omega)))) (by first | omega | (simp only [up_nx, put_nx]; done) | (simp only [up_nx, put_nx]; omega)) (by omega) hk
          · have hwr : t.wrong = t.type.check := by rw [Tm.wrong_eq]; simp [Tm.head, Ty.bare, k1, l, b1, b2, b3, n, h0]
            refine cut_st (fun _ : Unit => []) (fun _ _ => False) (fun k hk2 => ?_) (fun _ _ _ h => h.elim)
            simp (disch := first | omega | simp) [iv, Tm.cs_len, Tm.cs_g0, Tm.cs_type, k1]
            refine ca_pure (by kernel_rfl) (c_RCheckType t.type _) ?_
            simp (disch := first | omega | simp) [iv, h0]
            exact rt_one hw (by repeat (first | with_reducible assumption | with_reducible exact AH.le.refl _ | with_reducible apply AH.le.up | (with_reducible refine AH.le.put hw ?_ ?_; · first | omega | (simp only [up_nx, put_nx, kill_nx]; done) | (simp only [up_nx, put_nx, kill_nx]; omega)) | (with_reducible refine AH.le.kill hw ?_ ?_; · first | omega | (simp only [up_nx, put_nx, kill_nx]; done) | (simp only [up_nx, put_nx, kill_nx]; omega)))) (by repeat (first | exact Cl.p _ | exact Cl.dsl _ _ | exact Cl.any | refine Cl.tup ?_ | refine Cl.agg ?_ | exact Clo.nil | refine Clo.cons ?_ ?_)) ⟨rfl, by rw [hwr]⟩
        · have b4 : ¬ ((t.type.kids.length : Int) = 0) := by omega
          have b5 : 0 < t.type.kids.length := by omega
          have n1 : ¬ t.num < 0 := by omega
          have n2 : ¬ t.num = 0 := by omega
          have hwr : t.wrong = 3 := by rw [Tm.wrong_eq]; simp [Tm.head, Ty.bare, k1, l, b1, b2, b3, n, n1]
          simp (disch := first | omega | simp) [iv, Tm.av, Tm.cs_g0, k1]
          refine cut_st (fun _ : Unit => [.p (.int .i64 1)]) (fun _ H' => ((H.up 2).put H.nx (.box 27 t.cs)) = H') (fun k hk2 => by simp (disch := first | omega | simp) [iv, Tm.cs_g0, k1]; exact hk2 () _ _ _ (.refl (Nat.le_refl _)) rfl) ?_
          rintro _ H2 hn2 rfl
          unfold S_wordhoardref_termWrong_K4
          simp (disch := first | omega | simp) [Tm.cs_g5, l]
          unfold S_wordhoardref_termWrong_C3
          simp (disch := first | omega | simp) [iv, Tm.cs_g0, Tm.cs_g1, k1, n1, n2]
          exact rt_one hw (by repeat (first | with_reducible assumption | with_reducible exact AH.le.refl _ | with_reducible apply AH.le.up | (with_reducible refine AH.le.put hw ?_ ?_; · first | omega | (simp only [up_nx, put_nx, kill_nx]; done) | (simp only [up_nx, put_nx, kill_nx]; omega)) | (with_reducible refine AH.le.kill hw ?_ ?_; · first | omega | (simp only [up_nx, put_nx, kill_nx]; done) | (simp only [up_nx, put_nx, kill_nx]; omega)))) (by repeat (first | exact Cl.p _ | exact Cl.dsl _ _ | exact Cl.any | refine Cl.tup ?_ | refine Cl.agg ?_ | exact Clo.nil | refine Clo.cons ?_ ?_)) ⟨rfl, by rw [hwr]⟩
        · have hwr : t.wrong = 3 := by rw [Tm.wrong_eq]; simp [Tm.head, Ty.bare, k1, l, b1, b2, b3, n]
          simp (disch := first | omega | simp) [iv, Tm.av, Tm.cs_g0, k1]
          refine cut_st (fun _ : Unit => [.p (.int .i64 1)]) (fun _ H' => ((H.up 2).put H.nx (.box 27 t.cs)) = H') (fun k hk2 => by simp (disch := first | omega | simp) [iv, Tm.cs_g0, k1]; exact hk2 () _ _ _ (.refl (Nat.le_refl _)) rfl) ?_
          rintro _ H2 hn2 rfl
          unfold S_wordhoardref_termWrong_K4
          simp (disch := first | omega | simp) [Tm.cs_g5, l]
          unfold S_wordhoardref_termWrong_C3
          simp (disch := first | omega | simp) [iv, Tm.cs_g1, n]
          exact rt_one hw (by repeat (first | with_reducible assumption | with_reducible exact AH.le.refl _ | with_reducible apply AH.le.up | (with_reducible refine AH.le.put hw ?_ ?_; · first | omega | (simp only [up_nx, put_nx, kill_nx]; done) | (simp only [up_nx, put_nx, kill_nx]; omega)) | (with_reducible refine AH.le.kill hw ?_ ?_; · first | omega | (simp only [up_nx, put_nx, kill_nx]; done) | (simp only [up_nx, put_nx, kill_nx]; omega)))) (by repeat (first | exact Cl.p _ | exact Cl.dsl _ _ | exact Cl.any | refine Cl.tup ?_ | refine Cl.agg ?_ | exact Clo.nil | refine Clo.cons ?_ ?_)) ⟨rfl, by rw [hwr]⟩
        · simp (disch := first | omega | simp) [iv, Tm.av, Tm.cs_g0, k1]
          refine cut_st (fun _ : Unit => [.p (.int .i64 1)]) (fun _ H' => ((H.up 2).put H.nx (.box 27 t.cs)) = H') (fun k hk2 => by simp (disch := first | omega | simp) [iv, Tm.cs_g0, k1]; exact hk2 () _ _ _ (.refl (Nat.le_refl _)) rfl) ?_
          rintro _ H2 hn2 rfl
          unfold S_wordhoardref_termWrong_K4
          simp (disch := first | omega | simp) [Tm.cs_g5, l]
          unfold S_wordhoardref_termWrong_C3
          simp (disch := first | omega | simp) [iv, Tm.cs_g0, Tm.cs_g1, k1, n]
          by_cases h0 : t.type.check = 0
          · have hwr : t.wrong = Tm.wrongs t.kids := by rw [Tm.wrong_eq]; simp [Tm.head, Ty.bare, k1, l, b1, b2, b3, n, h0]
            refine cut_st (fun _ : Unit => []) (fun _ H' => ((H.up 2).put H.nx (.box 27 t.cs)) = H') (fun k hk2 => ?_) ?_
            · simp (disch := first | omega | simp) [iv, Tm.cs_len, Tm.cs_g0, Tm.cs_type, k1]
              refine ca_pure (by kernel_rfl) (c_RCheckType t.type _) ?_
              simp (disch := first | omega | simp) [iv, h0]
              exact hk2 () _ _ _ (.refl (Nat.le_refl _)) rfl
            · rintro _ H2 hn2 rfl
              unfold S_wordhoardref_termWrong_K2
              rw [hwr]
              exact termWrong_loop (put_get _ _) hw (by repeat (first | with_reducible assumption | with_reducible exact AH.le.refl _ | with_reducible apply AH.le.up | (with_reducible refine AH.le.put hw ?_ ?_; · first | omega | (simp only [up_nx, put_nx, kill_nx]; done) | (simp only [up_nx, put_nx, kill_nx]; omega)) | (with_reducible refine AH.le.kill hw ?_ ?_; · first | omega | (simp only [up_nx, put_nx, kill_nx]; done) | (simp only [up_nx, put_nx, kill_nx]; omega)))) (by first | omega | (simp only [up_nx, put_nx]; done) | (simp only [up_nx, put_nx]; omega)) (by omega) hk
          · have hwr : t.wrong = t.type.check := by rw [Tm.wrong_eq]; simp [Tm.head, Ty.bare, k1, l, b1, b2, b3, n, h0]
            refine cut_st (fun _ : Unit => []) (fun _ _ => False) (fun k hk2 => ?_) (fun _ _ _ h => h.elim)
            simp (disch := first | omega | simp) [iv, Tm.cs_len, Tm.cs_g0, Tm.cs_type, k1]
            refine ca_pure (by kernel_rfl) (c_RCheckType t.type _) ?_
            simp (disch := first | omega | simp) [iv, h0]
            exact rt_one hw (by repeat (first | with_reducible assumption | with_reducible exact AH.le.refl _ | with_reducible apply AH.le.up | (with_reducible refine AH.le.put hw ?_ ?_; · first | omega | (simp only [up_nx, put_nx, kill_nx]; done) | (simp only [up_nx, put_nx, kill_nx]; omega)) | (with_reducible refine AH.le.kill hw ?_ ?_; · first | omega | (simp only [up_nx, put_nx, kill_nx]; done) | (simp only [up_nx, put_nx, kill_nx]; omega)))) (by repeat (first | exact Cl.p _ | exact Cl.dsl _ _ | exact Cl.any | refine Cl.tup ?_ | refine Cl.agg ?_ | exact Clo.nil | refine Clo.cons ?_ ?_)) ⟨rfl, by rw [hwr]⟩
        · have n1 : ¬ t.num < 0 := by omega
          have n2 : ¬ t.num = 0 := by omega
          have hwr : t.wrong = 3 := by rw [Tm.wrong_eq]; simp [Tm.head, Ty.bare, k1, l, b1, b2, b3, n, n1]
          simp (disch := first | omega | simp) [iv, Tm.av, Tm.cs_g0, k1]
          refine cut_st (fun _ : Unit => [.p (.int .i64 1)]) (fun _ H' => ((H.up 2).put H.nx (.box 27 t.cs)) = H') (fun k hk2 => by simp (disch := first | omega | simp) [iv, Tm.cs_g0, k1]; exact hk2 () _ _ _ (.refl (Nat.le_refl _)) rfl) ?_
          rintro _ H2 hn2 rfl
          unfold S_wordhoardref_termWrong_K4
          simp (disch := first | omega | simp) [Tm.cs_g5, l]
          unfold S_wordhoardref_termWrong_C3
          simp (disch := first | omega | simp) [iv, Tm.cs_g0, Tm.cs_g1, k1, n1, n2]
          exact rt_one hw (by repeat (first | with_reducible assumption | with_reducible exact AH.le.refl _ | with_reducible apply AH.le.up | (with_reducible refine AH.le.put hw ?_ ?_; · first | omega | (simp only [up_nx, put_nx, kill_nx]; done) | (simp only [up_nx, put_nx, kill_nx]; omega)) | (with_reducible refine AH.le.kill hw ?_ ?_; · first | omega | (simp only [up_nx, put_nx, kill_nx]; done) | (simp only [up_nx, put_nx, kill_nx]; omega)))) (by repeat (first | exact Cl.p _ | exact Cl.dsl _ _ | exact Cl.any | refine Cl.tup ?_ | refine Cl.agg ?_ | exact Clo.nil | refine Clo.cons ?_ ?_)) ⟨rfl, by rw [hwr]⟩
      · have l2 : ¬ ((t.kids.length : Int) = 1) := by omega
        have hwr : t.wrong = 1 := by rw [Tm.wrong_eq]; simp [Tm.head, k1, l2]
        simp (disch := first | omega | simp) [iv, Tm.av, Tm.cs_g0, k1]
        refine cut_st (fun _ : Unit => [.p (.int .i64 1)]) (fun _ H' => ((H.up 2).put H.nx (.box 27 t.cs)) = H') (fun k hk2 => by simp (disch := first | omega | simp) [iv, Tm.cs_g0, k1]; exact hk2 () _ _ _ (.refl (Nat.le_refl _)) rfl) ?_
        rintro _ H2 hn2 rfl
        unfold S_wordhoardref_termWrong_K4
        simp (disch := first | omega | simp) [Tm.cs_g5, l2]
        exact rt_one hw (by repeat (first | with_reducible assumption | with_reducible exact AH.le.refl _ | with_reducible apply AH.le.up | (with_reducible refine AH.le.put hw ?_ ?_; · first | omega | (simp only [up_nx, put_nx, kill_nx]; done) | (simp only [up_nx, put_nx, kill_nx]; omega)) | (with_reducible refine AH.le.kill hw ?_ ?_; · first | omega | (simp only [up_nx, put_nx, kill_nx]; done) | (simp only [up_nx, put_nx, kill_nx]; omega)))) (by repeat (first | exact Cl.p _ | exact Cl.dsl _ _ | exact Cl.any | refine Cl.tup ?_ | refine Cl.agg ?_ | exact Clo.nil | refine Clo.cons ?_ ?_)) ⟨rfl, by rw [hwr]⟩
    · by_cases l : t.kids.length = 2
      · have hn3 : t.num < 0 ∨ t.num = 0 ∨ 0 < t.num := by omega
        have hb4 : t.type.kind ≠ 0 ∨ (t.type.kind = 0 ∧ t.type.num ≠ 0) ∨ (t.type.kind = 0 ∧ t.type.num = 0 ∧ t.type.kids.length ≠ 0) ∨ (t.type.kind = 0 ∧ t.type.num = 0 ∧ t.type.kids.length = 0) := by omega
        rcases hb4 with b1 | ⟨b1, b2⟩ | ⟨b1, b2, b3⟩ | ⟨b1, b2, b3⟩ <;> rcases hn3 with n | n | n
        · have hwr : t.wrong = 3 := by rw [Tm.wrong_eq]; simp [Tm.head, Ty.bare, k1, l, b1, n]
          simp (disch := first | omega | simp) [iv, Tm.av, Tm.cs_g0, k1]
          refine cut_st (fun _ : Unit => [.p (.int .i64 2)]) (fun _ H' => ((H.up 2).put H.nx (.box 27 t.cs)) = H') (fun k hk2 => by simp (disch := first | omega | simp) [iv, Tm.cs_g0, k1]; exact hk2 () _ _ _ (.refl (Nat.le_refl _)) rfl) ?_
          rintro _ H2 hn2 rfl
          unfold S_wordhoardref_termWrong_K4
          simp (disch := first | omega | simp) [Tm.cs_g5, l]
          unfold S_wordhoardref_termWrong_C3
          simp (disch := first | omega | simp) [iv, Tm.cs_g1, n]
          exact rt_one hw (by repeat (first | with_reducible assumption | with_reducible exact AH.le.refl _ | with_reducible apply AH.le.up | (with_reducible refine AH.le.put hw ?_ ?_; · first | omega | (simp only [up_nx, put_nx, kill_nx]; done) | (simp only [up_nx, put_nx, kill_nx]; omega)) | (with_reducible refine AH.le.kill hw ?_ ?_; · first | omega | (simp only [up_nx, put_nx, kill_nx]; done) | (simp only [up_nx, put_nx, kill_nx]; omega)))) (by repeat (first | exact Cl.p _ | exact Cl.dsl _ _ | exact Cl.any | refine Cl.tup ?_ | refine Cl.agg ?_ | exact Clo.nil | refine Clo.cons ?_ ?_)) ⟨rfl, by rw [hwr]⟩
        · have hwr : t.wrong = 3 := by rw [Tm.wrong_eq]; simp [Tm.head, Ty.bare, k1, l, b1, n]
          simp (disch := first | omega | simp) [iv, Tm.av, Tm.cs_g0, k1]
          refine cut_st (fun _ : Unit => [.p (.int .i64 2)]) (fun _ H' => ((H.up 2).put H.nx (.box 27 t.cs)) = H') (fun k hk2 => by simp (disch := first | omega | simp) [iv, Tm.cs_g0, k1]; exact hk2 () _ _ _ (.refl (Nat.le_refl _)) rfl) ?_
          rintro _ H2 hn2 rfl
          unfold S_wordhoardref_termWrong_K4
          simp (disch := first | omega | simp) [Tm.cs_g5, l]
          unfold S_wordhoardref_termWrong_C3
          simp (disch := first | omega | simp) [iv, Tm.cs_g0, Tm.cs_g1, Tm.cs_g2, k1, b1, n]
          exact rt_one hw (by repeat (first | with_reducible assumption | with_reducible exact AH.le.refl _ | with_reducible apply AH.le.up | (with_reducible refine AH.le.put hw ?_ ?_; · first | omega | (simp only [up_nx, put_nx, kill_nx]; done) | (simp only [up_nx, put_nx, kill_nx]; omega)) | (with_reducible refine AH.le.kill hw ?_ ?_; · first | omega | (simp only [up_nx, put_nx, kill_nx]; done) | (simp only [up_nx, put_nx, kill_nx]; omega)))) (by repeat (first | exact Cl.p _ | exact Cl.dsl _ _ | exact Cl.any | refine Cl.tup ?_ | refine Cl.agg ?_ | exact Clo.nil | refine Clo.cons ?_ ?_)) ⟨rfl, by rw [hwr]⟩
        · have n1 : ¬ t.num < 0 := by omega
          have n2 : ¬ t.num = 0 := by omega
          have hwr : t.wrong = 3 := by rw [Tm.wrong_eq]; simp [Tm.head, Ty.bare, k1, l, b1, n, n1]
          simp (disch := first | omega | simp) [iv, Tm.av, Tm.cs_g0, k1]
          refine cut_st (fun _ : Unit => [.p (.int .i64 2)]) (fun _ H' => ((H.up 2).put H.nx (.box 27 t.cs)) = H') (fun k hk2 => by simp (disch := first | omega | simp) [iv, Tm.cs_g0, k1]; exact hk2 () _ _ _ (.refl (Nat.le_refl _)) rfl) ?_
          rintro _ H2 hn2 rfl
          unfold S_wordhoardref_termWrong_K4
          simp (disch := first | omega | simp) [Tm.cs_g5, l]
          unfold S_wordhoardref_termWrong_C3
          simp (disch := first | omega | simp) [iv, Tm.cs_g0, Tm.cs_g1, k1, n1, n2]
          exact rt_one hw (by repeat (first | with_reducible assumption | with_reducible exact AH.le.refl _ | with_reducible apply AH.le.up | (with_reducible refine AH.le.put hw ?_ ?_; · first | omega | (simp only [up_nx, put_nx, kill_nx]; done) | (simp only [up_nx, put_nx, kill_nx]; omega)) | (with_reducible refine AH.le.kill hw ?_ ?_; · first | omega | (simp only [up_nx, put_nx, kill_nx]; done) | (simp only [up_nx, put_nx, kill_nx]; omega)))) (by repeat (first | exact Cl.p _ | exact Cl.dsl _ _ | exact Cl.any | refine Cl.tup ?_ | refine Cl.agg ?_ | exact Clo.nil | refine Clo.cons ?_ ?_)) ⟨rfl, by rw [hwr]⟩
        · have hwr : t.wrong = 3 := by rw [Tm.wrong_eq]; simp [Tm.head, Ty.bare, k1, l, b1, b2, n]
          simp (disch := first | omega | simp) [iv, Tm.av, Tm.cs_g0, k1]
          refine cut_st (fun _ : Unit => [.p (.int .i64 2)]) (fun _ H' => ((H.up 2).put H.nx (.box 27 t.cs)) = H') (fun k hk2 => by simp (disch := first | omega | simp) [iv, Tm.cs_g0, k1]; exact hk2 () _ _ _ (.refl (Nat.le_refl _)) rfl) ?_
          rintro _ H2 hn2 rfl
          unfold S_wordhoardref_termWrong_K4
          simp (disch := first | omega | simp) [Tm.cs_g5, l]
          unfold S_wordhoardref_termWrong_C3
          simp (disch := first | omega | simp) [iv, Tm.cs_g1, n]
          exact rt_one hw (by repeat (first | with_reducible assumption | with_reducible exact AH.le.refl _ | with_reducible apply AH.le.up | (with_reducible refine AH.le.put hw ?_ ?_; · first | omega | (simp only [up_nx, put_nx, kill_nx]; done) | (simp only [up_nx, put_nx, kill_nx]; omega)) | (with_reducible refine AH.le.kill hw ?_ ?_; · first | omega | (simp only [up_nx, put_nx, kill_nx]; done) | (simp only [up_nx, put_nx, kill_nx]; omega)))) (by repeat (first | exact Cl.p _ | exact Cl.dsl _ _ | exact Cl.any | refine Cl.tup ?_ | refine Cl.agg ?_ | exact Clo.nil | refine Clo.cons ?_ ?_)) ⟨rfl, by rw [hwr]⟩
        · have hwr : t.wrong = 3 := by rw [Tm.wrong_eq]; simp [Tm.head, Ty.bare, k1, l, b1, b2, n]
          simp (disch := first | omega | simp) [iv, Tm.av, Tm.cs_g0, k1]
          refine cut_st (fun _ : Unit => [.p (.int .i64 2)]) (fun _ H' => ((H.up 2).put H.nx (.box 27 t.cs)) = H') (fun k hk2 => by simp (disch := first | omega | simp) [iv, Tm.cs_g0, k1]; exact hk2 () _ _ _ (.refl (Nat.le_refl _)) rfl) ?_
          rintro _ H2 hn2 rfl
          unfold S_wordhoardref_termWrong_K4
          simp (disch := first | omega | simp) [Tm.cs_g5, l]
          unfold S_wordhoardref_termWrong_C3
          simp (disch := first | omega | simp) [iv, Tm.cs_g0, Tm.cs_g1, Tm.cs_g2, Tm.cs_g3, k1, b1, b2, n]
          exact rt_one hw (by repeat (first | with_reducible assumption | with_reducible exact AH.le.refl _ | with_reducible apply AH.le.up | (with_reducible refine AH.le.put hw ?_ ?_; · first | omega | (simp only [up_nx, put_nx, kill_nx]; done) | (simp only [up_nx, put_nx, kill_nx]; omega)) | (with_reducible refine AH.le.kill hw ?_ ?_; · first | omega | (simp only [up_nx, put_nx, kill_nx]; done) | (simp only [up_nx, put_nx, kill_nx]; omega)))) (by repeat (first | exact Cl.p _ | exact Cl.dsl _ _ | exact Cl.any | refine Cl.tup ?_ | refine Cl.agg ?_ | exact Clo.nil | refine Clo.cons ?_ ?_)) ⟨rfl, by rw [hwr]⟩
        · have n1 : ¬ t.num < 0 := by omega
          have n2 : ¬ t.num = 0 := by omega
          have hwr : t.wrong = 3 := by rw [Tm.wrong_eq]; simp [Tm.head, Ty.bare, k1, l, b1, b2, n, n1]
          simp (disch := first | omega | simp) [iv, Tm.av, Tm.cs_g0, k1]
          refine cut_st (fun _ : Unit => [.p (.int .i64 2)]) (fun _ H' => ((H.up 2).put H.nx (.box 27 t.cs)) = H') (fun k hk2 => by simp (disch := first | omega | simp) [iv, Tm.cs_g0, k1]; exact hk2 () _ _ _ (.refl (Nat.le_refl _)) rfl) ?_
          rintro _ H2 hn2 rfl
          unfold S_wordhoardref_termWrong_K4
          simp (disch := first | omega | simp) [Tm.cs_g5, l]
          unfold S_wordhoardref_termWrong_C3
          simp (disch := first | omega | simp) [iv, Tm.cs_g0, Tm.cs_g1, k1, n1, n2]
          exact rt_one hw (by repeat (first | with_reducible assumption | with_reducible exact AH.le.refl _ | with_reducible apply AH.le.up | (with_reducible refine AH.le.put hw ?_ ?_; · first | omega | (simp only [up_nx, put_nx, kill_nx]; done) | (simp only [up_nx, put_nx, kill_nx]; omega)) | (with_reducible refine AH.le.kill hw ?_ ?_; · first | omega | (simp only [up_nx, put_nx, kill_nx]; done) | (simp only [up_nx, put_nx, kill_nx]; omega)))) (by repeat (first | exact Cl.p _ | exact Cl.dsl _ _ | exact Cl.any | refine Cl.tup ?_ | refine Cl.agg ?_ | exact Clo.nil | refine Clo.cons ?_ ?_)) ⟨rfl, by rw [hwr]⟩
        · have b4 : ¬ ((t.type.kids.length : Int) = 0) := by omega
          have b5 : 0 < t.type.kids.length := by omega
          have hwr : t.wrong = 3 := by rw [Tm.wrong_eq]; simp [Tm.head, Ty.bare, k1, l, b1, b2, b3, n]
          simp (disch := first | omega | simp) [iv, Tm.av, Tm.cs_g0, k1]
          refine cut_st (fun _ : Unit => [.p (.int .i64 2)]) (fun _ H' => ((H.up 2).put H.nx (.box 27 t.cs)) = H') (fun k hk2 => by simp (disch := first | omega | simp) [iv, Tm.cs_g0, k1]; exact hk2 () _ _ _ (.refl (Nat.le_refl _)) rfl) ?_
          rintro _ H2 hn2 rfl
          unfold S_wordhoardref_termWrong_K4
          simp (disch := first | omega | simp) [Tm.cs_g5, l]
          unfold S_wordhoardref_termWrong_C3
          simp (disch := first | omega | simp) [iv, Tm.cs_g1, n]
          exact rt_one hw (by repeat (first | with_reducible assumption | with_reducible exact AH.le.refl _ | with_reducible apply AH.le.up | (with_reducible refine AH.le.put hw ?_ ?_; · first | omega | (simp only [up_nx, put_nx, kill_nx]; done) | (simp only [up_nx, put_nx, kill_nx]; omega)) | (with_reducible refine AH.le.kill hw ?_ ?_; · first | omega | (simp only [up_nx, put_nx, kill_nx]; done) | (simp only [up_nx, put_nx, kill_nx]; omega)))) (by repeat (first | exact Cl.p _ | exact Cl.dsl _ _ | exact Cl.any | refine Cl.tup ?_ | refine Cl.agg ?_ | exact Clo.nil | refine Clo.cons ?_ ?_)) ⟨rfl, by rw [hwr]⟩
        · have b4 : ¬ ((t.type.kids.length : Int) = 0) := by omega
          have b5 : 0 < t.type.kids.length := by omega
          have hwr : t.wrong = 3 := by rw [Tm.wrong_eq]; simp [Tm.head, Ty.bare, k1, l, b1, b2, b3, n]
          simp (disch := first | omega | simp) [iv, Tm.av, Tm.cs_g0, k1]
          refine cut_st (fun _ : Unit => [.p (.int .i64 2)]) (fun _ H' => ((H.up 2).put H.nx (.box 27 t.cs)) = H') (fun k hk2 => by simp (disch := first | omega | simp) [iv, Tm.cs_g0, k1]; exact hk2 () _ _ _ (.refl (Nat.le_refl _)) rfl) ?_
          rintro _ H2 hn2 rfl
          unfold S_wordhoardref_termWrong_K4
          simp (disch := first | omega | simp) [Tm.cs_g5, l]
          unfold S_wordhoardref_termWrong_C3
          simp (disch := first | omega | simp) [iv, Tm.cs_g0, Tm.cs_g1, Tm.cs_g2, Tm.cs_g3, Tm.cs_g4, k1, b1, b2, b5, n]
          exact rt_one hw (by repeat (first | with_reducible assumption | with_reducible exact AH.le.refl _ | with_reducible apply AH.le.up | (with_reducible refine AH.le.put hw ?_ ?_; · first | omega | (simp only [up_nx, put_nx, kill_nx]; done) | (simp only [up_nx, put_nx, kill_nx]; omega)) | (with_reducible refine AH.le.kill hw ?_ ?_; · first | omega | (simp only [up_nx, put_nx, kill_nx]; done) | (simp only [up_nx, put_nx, kill_nx]; omega)))) (by repeat (first | exact Cl.p _ | exact Cl.dsl _ _ | exact Cl.any | refine Cl.tup ?_ | refine Cl.agg ?_ | exact Clo.nil | refine Clo.cons ?_ ?_)) ⟨rfl, by rw [hwr]⟩
        · have b4 : ¬ ((t.type.kids.length : Int) = 0) := by omega
          have b5 : 0 < t.type.kids.length := by omega
          have n1 : ¬ t.num < 0 := by omega
          have n2 : ¬ t.num = 0 := by omega
          have hwr : t.wrong = 3 := by rw [Tm.wrong_eq]; simp [Tm.head, Ty.bare, k1, l, b1, b2, b3, n, n1]
          simp (disch := first | omega | simp) [iv, Tm.av, Tm.cs_g0, k1]
          refine cut_st (fun _ : Unit => [.p (.int .i64 2)]) (fun _ H' => ((H.up 2).put H.nx (.box 27 t.cs)) = H') (fun k hk2 => by simp (disch := first | omega | simp) [iv, Tm.cs_g0, k1]; exact hk2 () _ _ _ (.refl (Nat.le_refl _)) rfl) ?_
          rintro _ H2 hn2 rfl
          unfold S_wordhoardref_termWrong_K4
          simp (disch := first | omega | simp) [Tm.cs_g5, l]
          unfold S_wordhoardref_termWrong_C3
          simp (disch := first | omega | simp) [iv, Tm.cs_g0, Tm.cs_g1, k1, n1, n2]
          exact rt_one hw (by repeat (first | with_reducible assumption | with_reducible exact AH.le.refl _ | with_reducible apply AH.le.up | (with_reducible refine AH.le.put hw ?_ ?_; · first | omega | (simp only [up_nx, put_nx, kill_nx]; done) | (simp only [up_nx, put_nx, kill_nx]; omega)) | (with_reducible refine AH.le.kill hw ?_ ?_; · first | omega | (simp only [up_nx, put_nx, kill_nx]; done) | (simp only [up_nx, put_nx, kill_nx]; omega)))) (by repeat (first | exact Cl.p _ | exact Cl.dsl _ _ | exact Cl.any | refine Cl.tup ?_ | refine Cl.agg ?_ | exact Clo.nil | refine Clo.cons ?_ ?_)) ⟨rfl, by rw [hwr]⟩
        · have hwr : t.wrong = 3 := by rw [Tm.wrong_eq]; simp [Tm.head, Ty.bare, k1, l, b1, b2, b3, n]
          simp (disch := first | omega | simp) [iv, Tm.av, Tm.cs_g0, k1]
          refine cut_st (fun _ : Unit => [.p (.int .i64 2)]) (fun _ H' => ((H.up 2).put H.nx (.box 27 t.cs)) = H') (fun k hk2 => by simp (disch := first | omega | simp) [iv, Tm.cs_g0, k1]; exact hk2 () _ _ _ (.refl (Nat.le_refl _)) rfl) ?_
          rintro _ H2 hn2 rfl
          unfold S_wordhoardref_termWrong_K4
          simp (disch := first | omega | simp) [Tm.cs_g5, l]
          unfold S_wordhoardref_termWrong_C3
          simp (disch := first | omega | simp) [iv, Tm.cs_g1, n]
          exact rt_one hw (by repeat (first | with_reducible assumption | with_reducible exact AH.le.refl _ | with_reducible apply AH.le.up | (with_reducible refine AH.le.put hw ?_ ?_; · first | omega | (simp only [up_nx, put_nx, kill_nx]; done) | (simp only [up_nx, put_nx, kill_nx]; omega)) | (with_reducible refine AH.le.kill hw ?_ ?_; · first | omega | (simp only [up_nx, put_nx, kill_nx]; done) | (simp only [up_nx, put_nx, kill_nx]; omega)))) (by repeat (first | exact Cl.p _ | exact Cl.dsl _ _ | exact Cl.any | refine Cl.tup ?_ | refine Cl.agg ?_ | exact Clo.nil | refine Clo.cons ?_ ?_)) ⟨rfl, by rw [hwr]⟩
        · have hwr : t.wrong = Tm.wrongs t.kids := by rw [Tm.wrong_eq]; simp [Tm.head, Ty.bare, k1, l, b1, b2, b3, n]
          simp (disch := first | omega | simp) [iv, Tm.av, Tm.cs_g0, k1]
          refine cut_st (fun _ : Unit => [.p (.int .i64 2)]) (fun _ H' => ((H.up 2).put H.nx (.box 27 t.cs)) = H') (fun k hk2 => by simp (disch := first | omega | simp) [iv, Tm.cs_g0, k1]; exact hk2 () _ _ _ (.refl (Nat.le_refl _)) rfl) ?_
          rintro _ H2 hn2 rfl
          unfold S_wordhoardref_termWrong_K4
          simp (disch := first | omega | simp) [Tm.cs_g5, l]
          unfold S_wordhoardref_termWrong_C3
          simp (disch := first | omega | simp) [iv, Tm.cs_g0, Tm.cs_g1, Tm.cs_g2, Tm.cs_g3, Tm.cs_g4, k1, b1, b2, b3, n]
          refine cut_st (fun _ : Unit => []) (fun _ H' => ((H.up 2).put H.nx (.box 27 t.cs)) = H') (fun k hk2 => ?_) ?_
          · simp (disch := first | omega | simp) [iv, Tm.cs_g0, k1]
            exact hk2 () _ _ _ (.refl (Nat.le_refl _)) rfl
          · rintro _ H2 hn2 rfl
            unfold S_wordhoardref_termWrong_K2
            rw [hwr]
            exact termWrong_loop (put_get _ _) hw (by repeat (first | with_reducible assumption | with_reducible exact AH.le.refl _ | with_reducible apply AH.le.up | (with_reducible refine AH.le.put hw ?_ ?_; · first | omega | (simp only [up_nx, put_nx, kill_nx]; done) | (simp only [up_nx, put_nx, kill_nx]; omega)) | (with_reducible refine AH.le.kill hw ?_ ?_; · first | omega | (simp only [up_nx, put_nx, kill_nx]; done) | (simp only [up_nx, put_nx, kill_nx]; omega)))) (by first | omega | (simp only [up_nx, put_nx]; done) | (simp only [up_nx, put_nx]; omega)) (by omega) hk
        · have n1 : ¬ t.num < 0 := by omega
          have n2 : ¬ t.num = 0 := by omega
          have hwr : t.wrong = 3 := by rw [Tm.wrong_eq]; simp [Tm.head, Ty.bare, k1, l, b1, b2, b3, n, n1]
          simp (disch := first | omega | simp) [iv, Tm.av, Tm.cs_g0, k1]
          refine cut_st (fun _ : Unit => [.p (.int .i64 2)]) (fun _ H' => ((H.up 2).put H.nx (.box 27 t.cs)) = H') (fun k hk2 => by simp (disch := first | omega | simp) [iv, Tm.cs_g0, k1]; exact hk2 () _ _ _ (.refl (Nat.le_refl _)) rfl) ?_
          rintro _ H2 hn2 rfl
          unfold S_wordhoardref_termWrong_K4
          simp (disch := first | omega | simp) [Tm.cs_g5, l]
          unfold S_wordhoardref_termWrong_C3
          simp (disch := first | omega | simp) [iv, Tm.cs_g0, Tm.cs_g1, k1, n1, n2]
          exact rt_one hw (by repeat (first | with_reducible assumption | with_reducible exact AH.le.refl _ | with_reducible apply AH.le.up | (with_reducible refine AH.le.put hw ?_ ?_; · first | omega | (simp only [up_nx, put_nx, kill_nx]; done) | (simp only [up_nx, put_nx, kill_nx]; omega)) | (with_reducible refine AH.le.kill hw ?_ ?_; · first | omega | (simp only [up_nx, put_nx, kill_nx]; done) | (simp only [up_nx, put_nx, kill_nx]; omega)))) (by repeat (first | exact Cl.p _ | exact Cl.dsl _ _ | exact Cl.any | refine Cl.tup ?_ | refine Cl.agg ?_ | exact Clo.nil | refine Clo.cons ?_ ?_)) ⟨rfl, by rw [hwr]⟩
      · have l2 : ¬ ((t.kids.length : Int) = 2) := by omega
        have hwr : t.wrong = 1 := by rw [Tm.wrong_eq]; simp [Tm.head, k1, l2]
        simp (disch := first | omega | simp) [iv, Tm.av, Tm.cs_g0, k1]
        refine cut_st (fun _ : Unit => [.p (.int .i64 2)]) (fun _ H' => ((H.up 2).put H.nx (.box 27 t.cs)) = H') (fun k hk2 => by simp (disch := first | omega | simp) [iv, Tm.cs_g0, k1]; exact hk2 () _ _ _ (.refl (Nat.le_refl _)) rfl) ?_
        rintro _ H2 hn2 rfl
        unfold S_wordhoardref_termWrong_K4
        simp (disch := first | omega | simp) [Tm.cs_g5, l2]
        exact rt_one hw (by repeat (first | with_reducible assumption | with_reducible exact AH.le.refl _ | with_reducible apply AH.le.up | (with_reducible refine AH.le.put hw ?_ ?_; · first | omega | (simp only [up_nx, put_nx, kill_nx]; done) | (simp only [up_nx, put_nx, kill_nx]; omega)) | (with_reducible refine AH.le.kill hw ?_ ?_; · first | omega | (simp only [up_nx, put_nx, kill_nx]; done) | (simp only [up_nx, put_nx, kill_nx]; omega)))) (by repeat (first | exact Cl.p _ | exact Cl.dsl _ _ | exact Cl.any | refine Cl.tup ?_ | refine Cl.agg ?_ | exact Clo.nil | refine Clo.cons ?_ ?_)) ⟨rfl, by rw [hwr]⟩
theorem c_Check (t : Tm) : PF Try.prog 19 [t.av] (iv t.check) := fun H => tri_wf fun hw => tri_term_Check (by
  unfold S_term_Check
  simp (disch := first | omega | simp) [Tm.av, Tm.cs_len, Tm.cs_take]
  refine ca_pure (by kernel_rfl) (c_size t 400 (by decide) (by decide) _) ?_
  by_cases h : (t.size : Int) ≤ 400
  · have hc : t.check = t.wrong := by unfold Tm.check; rw [if_neg (by omega)]
    have h2 : ¬ (400 : Int) < (t.size : Int) := by omega
    rw [capN_low h]
    simp (disch := first | omega | simp) [iv, Tm.cs_len, Tm.cs_take, h2]
    refine ca_pure (by kernel_rfl) (c_checkTm t.size t (Nat.le_refl _) _) ?_
    exact rt_one hw (by repeat (first | with_reducible assumption | with_reducible exact AH.le.refl _ | with_reducible apply AH.le.up | (with_reducible refine AH.le.put hw ?_ ?_; · first | omega | (simp only [up_nx, put_nx, kill_nx]; done) | (simp only [up_nx, put_nx, kill_nx]; omega)) | (with_reducible refine AH.le.kill hw ?_ ?_; · first | omega | (simp only [up_nx, put_nx, kill_nx]; done) | (simp only [up_nx, put_nx, kill_nx]; omega)))) (by repeat (first | exact Cl.p _ | exact Cl.dsl _ _ | exact Cl.any | refine Cl.tup ?_ | refine Cl.agg ?_ | exact Clo.nil | refine Clo.cons ?_ ?_)) ⟨rfl, by rw [hc]; rfl⟩
  · have hc : t.check = 7 := by unfold Tm.check; rw [if_pos (by omega)]
    rw [capN_high h]
    simp (disch := first | omega | simp) [iv]
    exact rt_one hw (by repeat (first | with_reducible assumption | with_reducible exact AH.le.refl _ | with_reducible apply AH.le.up | (with_reducible refine AH.le.put hw ?_ ?_; · first | omega | (simp only [up_nx, put_nx, kill_nx]; done) | (simp only [up_nx, put_nx, kill_nx]; omega)) | (with_reducible refine AH.le.kill hw ?_ ?_; · first | omega | (simp only [up_nx, put_nx, kill_nx]; done) | (simp only [up_nx, put_nx, kill_nx]; omega)))) (by repeat (first | exact Cl.p _ | exact Cl.dsl _ _ | exact Cl.any | refine Cl.tup ?_ | refine Cl.agg ?_ | exact Clo.nil | refine Clo.cons ?_ ?_)) ⟨rfl, by rw [hc]⟩)
theorem c_RCheckTerm (t : Tm) : PF Try.prog 8 [t.av] (iv t.check) := fun H => tri_wf fun hw => tri_wordhoardref_CheckTerm (by
  unfold S_wordhoardref_CheckTerm
  simp (disch := first | omega | simp) [Tm.av, Tm.cs_len, Tm.cs_take]
  refine ca_pure (by kernel_rfl) (c_RTermSize t.size t (Nat.le_refl _) 400 _ (by decide) (by decide)) ?_
  by_cases h : (t.size : Int) ≤ 400
  · have hc : t.check = t.wrong := by unfold Tm.check; rw [if_neg (by omega)]
    have h2 : ¬ (400 : Int) < (t.size : Int) := by omega
    rw [capN_low h]
    simp (disch := first | omega | simp) [iv, Tm.cs_len, Tm.cs_take, h2]
    refine ca_pure (by kernel_rfl) (c_termWrong t.size t (Nat.le_refl _) _) ?_
    exact rt_one hw (by repeat (first | with_reducible assumption | with_reducible exact AH.le.refl _ | with_reducible apply AH.le.up | (with_reducible refine AH.le.put hw ?_ ?_; · first | omega | (simp only [up_nx, put_nx, kill_nx]; done) | (simp only [up_nx, put_nx, kill_nx]; omega)) | (with_reducible refine AH.le.kill hw ?_ ?_; · first | omega | (simp only [up_nx, put_nx, kill_nx]; done) | (simp only [up_nx, put_nx, kill_nx]; omega)))) (by repeat (first | exact Cl.p _ | exact Cl.dsl _ _ | exact Cl.any | refine Cl.tup ?_ | refine Cl.agg ?_ | exact Clo.nil | refine Clo.cons ?_ ?_)) ⟨rfl, by rw [hc]; rfl⟩
  · have hc : t.check = 7 := by unfold Tm.check; rw [if_pos (by omega)]
    rw [capN_high h]
    simp (disch := first | omega | simp) [iv]
    exact rt_one hw (by repeat (first | with_reducible assumption | with_reducible exact AH.le.refl _ | with_reducible apply AH.le.up | (with_reducible refine AH.le.put hw ?_ ?_; · first | omega | (simp only [up_nx, put_nx, kill_nx]; done) | (simp only [up_nx, put_nx, kill_nx]; omega)) | (with_reducible refine AH.le.kill hw ?_ ?_; · first | omega | (simp only [up_nx, put_nx, kill_nx]; done) | (simp only [up_nx, put_nx, kill_nx]; omega)))) (by repeat (first | exact Cl.p _ | exact Cl.dsl _ _ | exact Cl.any | refine Cl.tup ?_ | refine Cl.agg ?_ | exact Clo.nil | refine Clo.cons ?_ ?_)) ⟨rfl, by rw [hc]⟩)
end Go.Proofs.Ytkocpdekknfmaaa
