/- Texts that the proof rests on, part 15: what each holds stands at its head. -/
import Derived.Test.YtkocpdekknfmaaaKs14

/- Equality of trees, spots, uses: both programs. -/
namespace Go.Proofs.Ytkocpdekknfmaaa
open Go.RowKit Go.Maps
theorem Ty.sames_at {ks ls : List Ty} {i : Nat} {x y : Ty} (h : ks[i]? = some x) (h' : ls[i]? = some y) : Ty.sames (ks.drop i) (ls.drop i) = (x.same y && Ty.sames (ks.drop (i + 1)) (ls.drop (i + 1))) := by
  obtain ⟨h1, h2⟩ := List.getElem?_eq_some_iff.1 h
  obtain ⟨h3, h4⟩ := List.getElem?_eq_some_iff.1 h'
  rw [Ty.sames_step h1 h3, h2, h4]
theorem Tm.sames_at {ks ls : List Tm} {i : Nat} {x y : Tm} (h : ks[i]? = some x) (h' : ls[i]? = some y) : Tm.sames (ks.drop i) (ls.drop i) = (x.same y && Tm.sames (ks.drop (i + 1)) (ls.drop (i + 1))) := by
  obtain ⟨h1, h2⟩ := List.getElem?_eq_some_iff.1 h
  obtain ⟨h3, h4⟩ := List.getElem?_eq_some_iff.1 h'
  rw [Tm.sames_step h1 h3, h2, h4]
set_option maxHeartbeats 1000000 in
theorem c_RSameType (N : Nat) : ∀ t s : Ty, t.size ≤ N → ∀ H : AH, Tri Try.prog 20 [t.av, s.av] H (fun r H' => H' = H ∧ r = bv (t.same s)) := by
  induction N with
  | zero => intro t s ht; have := t.size_pos; omega
  | succ N ih =>
    intro t s ht H
    refine tri_wf fun hw => tri_lenA 0 2 rfl t.cs_g2 fun hl => tri_wordhoardref_SameType ?_
    have hml : maxLen = 9223372036854775807 := by decide
    rw [List.length_map] at hl
    have hsz := t.size_eq
    have hse := Ty.same_eq t s
    unfold S_wordhoardref_SameType
    by_cases k1 : t.kind = s.kind
    · by_cases k2 : t.num = s.num
      · by_cases k3 : t.kids.length = s.kids.length
        · have hs : t.same s = Ty.sames t.kids s.kids := by rw [hse]; simp [k1, k2, k3]
          simp (disch := first | omega | simp) [iv, Ty.av, Ty.cs_g0, Ty.cs_g1, Ty.cs_g2, put_get_ne, k1, k2, k3]
          refine loop_st (fun i : Nat => [iv i]) (fun i H' => ((H.up 3).put H.nx (.box 24 t.cs)).put (H.nx + 1) (.box 24 s.cs) = H' ∧ i ≤ t.kids.length ∧ Ty.sames t.kids s.kids = Ty.sames (t.kids.drop i) (s.kids.drop i)) (fun i => t.kids.length - i) 0 (.refl (Nat.le_refl _)) ⟨rfl, Nat.zero_le _, by simp⟩ ?_
          rintro i H2 hn2 ⟨rfl, hi, hsm⟩ k hk
          unfold S_wordhoardref_SameType_L1
          by_cases hil : i < t.kids.length
          · obtain ⟨x, hx⟩ : ∃ x, t.kids[i]? = some x := ⟨_, List.getElem?_eq_getElem hil⟩
            obtain ⟨y, hy⟩ : ∃ y, s.kids[i]? = some y := ⟨_, List.getElem?_eq_getElem (by omega)⟩
            have hxg : ∀ h, t.kids[i]'h = x := fun h => (List.getElem?_eq_some_iff.1 hx).2
            have hyg : ∀ h, s.kids[i]'h = y := fun h => (List.getElem?_eq_some_iff.1 hy).2
            have his : i < s.kids.length := by omega
            have hiv := ivn (i := i) (by omega)
            rw [Ty.sames_at hx hy] at hsm
            simp (disch := first | omega | simp) [iv, Ty.cs_len, Ty.cs_g2, Ty.cs_take, put_get_ne, hil, his, hxg, hyg]
            refine cav_pure (by kernel_rfl) (fun H3 _ => ih x y (by have := Ty.sizes_mem (List.mem_of_getElem? hx); omega) H3) ?_
            cases hq : x.same y with
            | true =>
              rw [hq, Bool.true_and] at hsm
              simp (disch := first | omega | simp) [bv, hiv]
              exact hk (i + 1) _ _ _ (.refl (by first | omega | (simp only [up_nx, put_nx, kill_nx]; done) | (simp only [up_nx, put_nx, kill_nx]; omega))) ⟨rfl, hil, hsm⟩ (by omega)
            | false =>
              rw [hq, Bool.false_and] at hsm
              simp (disch := first | omega | simp) [bv]
              exact rt_one hw (by repeat (first | with_reducible assumption | with_reducible exact AH.le.refl _ | with_reducible apply AH.le.up | (with_reducible refine AH.le.put hw ?_ ?_; · first | omega | (simp only [up_nx, put_nx, kill_nx]; done) | (simp only [up_nx, put_nx, kill_nx]; omega)) | (with_reducible refine AH.le.kill hw ?_ ?_; · first | omega | (simp only [up_nx, put_nx, kill_nx]; done) | (simp only [up_nx, put_nx, kill_nx]; omega)))) (by repeat (first | exact Cl.p _ | exact Cl.dsl _ _ | exact Cl.any | refine Cl.tup ?_ | refine Cl.agg ?_ | exact Clo.nil | refine Clo.cons ?_ ?_)) ⟨rfl, by rw [hs, hsm]⟩
          · rw [Ty.sames_end (by omega)] at hsm
            simp (disch := first | omega | simp) [iv, Ty.cs_g2, put_get_ne, hil]
            exact rt_one hw (by repeat (first | with_reducible assumption | with_reducible exact AH.le.refl _ | with_reducible apply AH.le.up | (with_reducible refine AH.le.put hw ?_ ?_; · first | omega | (simp only [up_nx, put_nx, kill_nx]; done) | (simp only [up_nx, put_nx, kill_nx]; omega)) | (with_reducible refine AH.le.kill hw ?_ ?_; · first | omega | (simp only [up_nx, put_nx, kill_nx]; done) | (simp only [up_nx, put_nx, kill_nx]; omega)))) (by repeat (first | exact Cl.p _ | exact Cl.dsl _ _ | exact Cl.any | refine Cl.tup ?_ | refine Cl.agg ?_ | exact Clo.nil | refine Clo.cons ?_ ?_)) ⟨rfl, by simp [hs, hsm, bv]⟩
        · have hs : t.same s = false := by rw [hse]; simp [k3]
          have k3' : ¬ ((t.kids.length : Int) = (s.kids.length : Int)) := by omega
          simp (disch := first | omega | simp) [iv, Ty.av, Ty.cs_g0, Ty.cs_g1, Ty.cs_g2, put_get_ne, k1, k2, k3']
          exact rt_one hw (by repeat (first | with_reducible assumption | with_reducible exact AH.le.refl _ | with_reducible apply AH.le.up | (with_reducible refine AH.le.put hw ?_ ?_; · first | omega | (simp only [up_nx, put_nx, kill_nx]; done) | (simp only [up_nx, put_nx, kill_nx]; omega)) | (with_reducible refine AH.le.kill hw ?_ ?_; · first | omega | (simp only [up_nx, put_nx, kill_nx]; done) | (simp only [up_nx, put_nx, kill_nx]; omega)))) (by repeat (first | exact Cl.p _ | exact Cl.dsl _ _ | exact Cl.any | refine Cl.tup ?_ | refine Cl.agg ?_ | exact Clo.nil | refine Clo.cons ?_ ?_)) ⟨rfl, by simp [hs, bv]⟩
      · have hs : t.same s = false := by rw [hse]; simp [k2]
        simp (disch := first | omega | simp) [iv, Ty.av, Ty.cs_g0, Ty.cs_g1, put_get_ne, k1, k2]
        exact rt_one hw (by repeat (first | with_reducible assumption | with_reducible exact AH.le.refl _ | with_reducible apply AH.le.up | (with_reducible refine AH.le.put hw ?_ ?_; · first | omega | (simp only [up_nx, put_nx, kill_nx]; done) | (simp only [up_nx, put_nx, kill_nx]; omega)) | (with_reducible refine AH.le.kill hw ?_ ?_; · first | omega | (simp only [up_nx, put_nx, kill_nx]; done) | (simp only [up_nx, put_nx, kill_nx]; omega)))) (by repeat (first | exact Cl.p _ | exact Cl.dsl _ _ | exact Cl.any | refine Cl.tup ?_ | refine Cl.agg ?_ | exact Clo.nil | refine Clo.cons ?_ ?_)) ⟨rfl, by simp [hs, bv]⟩
    · have hs : t.same s = false := by rw [hse]; simp [k1]
      simp (disch := first | omega | simp) [iv, Ty.av, Ty.cs_g0, put_get_ne, k1]
      exact rt_one hw (by repeat (first | with_reducible assumption | with_reducible exact AH.le.refl _ | with_reducible apply AH.le.up | (with_reducible refine AH.le.put hw ?_ ?_; · first | omega | (simp only [up_nx, put_nx, kill_nx]; done) | (simp only [up_nx, put_nx, kill_nx]; omega)) | (with_reducible refine AH.le.kill hw ?_ ?_; · first | omega | (simp only [up_nx, put_nx, kill_nx]; done) | (simp only [up_nx, put_nx, kill_nx]; omega)))) (by repeat (first | exact Cl.p _ | exact Cl.dsl _ _ | exact Cl.any | refine Cl.tup ?_ | refine Cl.agg ?_ | exact Clo.nil | refine Clo.cons ?_ ?_)) ⟨rfl, by simp [hs, bv]⟩
set_option maxHeartbeats 1000000 in
theorem c_RSameTerm (N : Nat) : ∀ t s : Tm, t.size ≤ N → ∀ H : AH, Tri Try.prog 10 [t.av, s.av] H (fun r H' => H' = H ∧ r = bv (t.same s)) := by
  induction N with
  | zero => intro t s ht; have := t.size_pos; omega
  | succ N ih =>
    intro t s ht H
    refine tri_wf fun hw => tri_lenA 0 5 rfl t.cs_g5 fun hl => tri_wordhoardref_SameTerm ?_
    have hml : maxLen = 9223372036854775807 := by decide
    rw [List.length_map] at hl
    have hsz := t.size_eq
    have hse := Tm.same_eq t s
    unfold S_wordhoardref_SameTerm
    by_cases k1 : t.kind = s.kind
    · by_cases k2 : t.num = s.num
      · by_cases k4 : t.type.same s.type = true
        · by_cases k3 : t.kids.length = s.kids.length
          · have hs : t.same s = Tm.sames t.kids s.kids := by rw [hse]; simp [k1, k2, k3, k4]
            simp (disch := first | omega | simp) [iv, Tm.av, Tm.cs_len, Tm.cs_g0, Tm.cs_g1, Tm.cs_type, put_get_ne, k1, k2]
            refine ca_pure (by kernel_rfl) (c_RSameType _ t.type s.type (Nat.le_refl _) _) ?_
            rw [k4]
            simp (disch := first | omega | simp) [bv, Tm.cs_g5, put_get_ne, k3]
            refine loop_st (fun i : Nat => [iv i]) (fun i H' => ((H.up 3).put H.nx (.box 27 t.cs)).put (H.nx + 1) (.box 27 s.cs) = H' ∧ i ≤ t.kids.length ∧ Tm.sames t.kids s.kids = Tm.sames (t.kids.drop i) (s.kids.drop i)) (fun i => t.kids.length - i) 0 (.refl (Nat.le_refl _)) ⟨rfl, Nat.zero_le _, by simp⟩ ?_
            rintro i H2 hn2 ⟨rfl, hi, hsm⟩ k hk
            unfold S_wordhoardref_SameTerm_L1
            by_cases hil : i < t.kids.length
            · obtain ⟨x, hx⟩ : ∃ x, t.kids[i]? = some x := ⟨_, List.getElem?_eq_getElem hil⟩
              obtain ⟨y, hy⟩ : ∃ y, s.kids[i]? = some y := ⟨_, List.getElem?_eq_getElem (by omega)⟩
              have hxg : ∀ h, t.kids[i]'h = x := fun h => (List.getElem?_eq_some_iff.1 hx).2
              have hyg : ∀ h, s.kids[i]'h = y := fun h => (List.getElem?_eq_some_iff.1 hy).2
              have his : i < s.kids.length := by omega
              have hiv := ivn (i := i) (by omega)
              rw [Tm.sames_at hx hy] at hsm
              simp (disch := first | omega | simp) [iv, Tm.cs_len, Tm.cs_g5, Tm.cs_take, put_get_ne, hil, his, hxg, hyg]
              refine cav_pure (by kernel_rfl) (fun H3 _ => ih x y (by have := Tm.sizes_mem (List.mem_of_getElem? hx); omega) H3) ?_
              cases hq : x.same y with
              | true =>
                rw [hq, Bool.true_and] at hsm
                simp (disch := first | omega | simp) [bv, hiv]
                exact hk (i + 1) _ _ _ (.refl (by first | omega | (simp only [up_nx, put_nx, kill_nx]; done) | (simp only [up_nx, put_nx, kill_nx]; omega))) ⟨rfl, hil, hsm⟩ (by omega)
              | false =>
                rw [hq, Bool.false_and] at hsm
                simp (disch := first | omega | simp) [bv]
                exact rt_one hw (by repeat (first | with_reducible assumption | with_reducible exact AH.le.refl _ | with_reducible apply AH.le.up | (with_reducible refine AH.le.put hw ?_ ?_; · first | omega | (simp only [up_nx, put_nx, kill_nx]; done) | (simp only [up_nx, put_nx, kill_nx]; omega)) | (with_reducible refine AH.le.kill hw ?_ ?_; · first | omega | (simp only [up_nx, put_nx, kill_nx]; done) | (simp only [up_nx, put_nx, kill_nx]; omega)))) (by repeat (first | exact Cl.p _ | exact Cl.dsl _ _ | exact Cl.any | refine Cl.tup ?_ | refine Cl.agg ?_ | exact Clo.nil | refine Clo.cons ?_ ?_)) ⟨rfl, by rw [hs, hsm]⟩
            · rw [Tm.sames_end (by omega)] at hsm
              simp (disch := first | omega | simp) [iv, Tm.cs_g5, put_get_ne, hil]
              exact rt_one hw (by repeat (first | with_reducible assumption | with_reducible exact AH.le.refl _ | with_reducible apply AH.le.up | (with_reducible refine AH.le.put hw ?_ ?_; · first | omega | (simp only [up_nx, put_nx, kill_nx]; done) | (simp only [up_nx, put_nx, kill_nx]; omega)) | (with_reducible refine AH.le.kill hw ?_ ?_; · first | omega | (simp only [up_nx, put_nx, kill_nx]; done) | (simp only [up_nx, put_nx, kill_nx]; omega)))) (by repeat (first | exact Cl.p _ | exact Cl.dsl _ _ | exact Cl.any | refine Cl.tup ?_ | refine Cl.agg ?_ | exact Clo.nil | refine Clo.cons ?_ ?_)) ⟨rfl, by simp [hs, hsm]⟩
          · have hs : t.same s = false := by rw [hse]; simp [k3]
            have k3' : ¬ ((t.kids.length : Int) = (s.kids.length : Int)) := by omega
            simp (disch := first | omega | simp) [iv, Tm.av, Tm.cs_len, Tm.cs_g0, Tm.cs_g1, Tm.cs_type, put_get_ne, k1, k2]
            refine ca_pure (by kernel_rfl) (c_RSameType _ t.type s.type (Nat.le_refl _) _) ?_
            rw [k4]
            simp (disch := first | omega | simp) [bv, Tm.cs_g5, put_get_ne, k3']
            exact rt_one hw (by repeat (first | with_reducible assumption | with_reducible exact AH.le.refl _ | with_reducible apply AH.le.up | (with_reducible refine AH.le.put hw ?_ ?_; · first | omega | (simp only [up_nx, put_nx, kill_nx]; done) | (simp only [up_nx, put_nx, kill_nx]; omega)) | (with_reducible refine AH.le.kill hw ?_ ?_; · first | omega | (simp only [up_nx, put_nx, kill_nx]; done) | (simp only [up_nx, put_nx, kill_nx]; omega)))) (by repeat (first | exact Cl.p _ | exact Cl.dsl _ _ | exact Cl.any | refine Cl.tup ?_ | refine Cl.agg ?_ | exact Clo.nil | refine Clo.cons ?_ ?_)) ⟨rfl, by simp [hs]⟩
        · have hs : t.same s = false := by rw [hse]; simp [k4]
          have k4 : t.type.same s.type = false := by simpa using k4
          simp (disch := first | omega | simp) [iv, Tm.av, Tm.cs_len, Tm.cs_g0, Tm.cs_g1, Tm.cs_type, put_get_ne, k1, k2]
          refine ca_pure (by kernel_rfl) (c_RSameType _ t.type s.type (Nat.le_refl _) _) ?_
          rw [k4]
          simp (disch := first | omega | simp) [bv]
          exact rt_one hw (by repeat (first | with_reducible assumption | with_reducible exact AH.le.refl _ | with_reducible apply AH.le.up | (with_reducible refine AH.le.put hw ?_ ?_; · first | omega | (simp only [up_nx, put_nx, kill_nx]; done) | (simp only [up_nx, put_nx, kill_nx]; omega)) | (with_reducible refine AH.le.kill hw ?_ ?_; · first | omega | (simp only [up_nx, put_nx, kill_nx]; done) | (simp only [up_nx, put_nx, kill_nx]; omega)))) (by repeat (first | exact Cl.p _ | exact Cl.dsl _ _ | exact Cl.any | refine Cl.tup ?_ | refine Cl.agg ?_ | exact Clo.nil | refine Clo.cons ?_ ?_)) ⟨rfl, by simp [hs]⟩
      · have hs : t.same s = false := by rw [hse]; simp [k2]
        simp (disch := first | omega | simp) [iv, Tm.av, Tm.cs_g0, Tm.cs_g1, put_get_ne, k1, k2]
        exact rt_one hw (by repeat (first | with_reducible assumption | with_reducible exact AH.le.refl _ | with_reducible apply AH.le.up | (with_reducible refine AH.le.put hw ?_ ?_; · first | omega | (simp only [up_nx, put_nx, kill_nx]; done) | (simp only [up_nx, put_nx, kill_nx]; omega)) | (with_reducible refine AH.le.kill hw ?_ ?_; · first | omega | (simp only [up_nx, put_nx, kill_nx]; done) | (simp only [up_nx, put_nx, kill_nx]; omega)))) (by repeat (first | exact Cl.p _ | exact Cl.dsl _ _ | exact Cl.any | refine Cl.tup ?_ | refine Cl.agg ?_ | exact Clo.nil | refine Clo.cons ?_ ?_)) ⟨rfl, by simp [hs, bv]⟩
    · have hs : t.same s = false := by rw [hse]; simp [k1]
      simp (disch := first | omega | simp) [iv, Tm.av, Tm.cs_g0, put_get_ne, k1]
      exact rt_one hw (by repeat (first | with_reducible assumption | with_reducible exact AH.le.refl _ | with_reducible apply AH.le.up | (with_reducible refine AH.le.put hw ?_ ?_; · first | omega | (simp only [up_nx, put_nx, kill_nx]; done) | (simp only [up_nx, put_nx, kill_nx]; omega)) | (with_reducible refine AH.le.kill hw ?_ ?_; · first | omega | (simp only [up_nx, put_nx, kill_nx]; done) | (simp only [up_nx, put_nx, kill_nx]; omega)))) (by repeat (first | exact Cl.p _ | exact Cl.dsl _ _ | exact Cl.any | refine Cl.tup ?_ | refine Cl.agg ?_ | exact Clo.nil | refine Clo.cons ?_ ?_)) ⟨rfl, by simp [hs, bv]⟩
set_option maxHeartbeats 1000000 in
theorem c_EqualFunc (ts ss : List Ty) (g : FuncId) (hg : callable Try.prog g = true) (H : AH) (hl : ts.length ≤ 9223372036854775807) (hp : ∀ x ∈ ts, ∀ y ∈ ss, ∀ H, Tri Try.prog g [x.av, y.av] H (fun r H' => H' = H ∧ r = bv (x.same y))) :
    Tri Try.prog 59 [.dsl 3 (ts.map Ty.cs), .dsl 3 (ss.map Ty.cs), .fn (.func g) [] []] H (fun r H' => H' = H ∧ r = bv (decide (ts.length = ss.length) && Ty.sames ts ss)) := tri_wf fun hw => tri_slices_EqualFunc_s_api_Type_s_api_Type_api_Type_api_Type (by
  unfold S_slices_EqualFunc_s_api_Type_s_api_Type_api_Type_api_Type
  by_cases k3 : ts.length = ss.length
  · simp (disch := first | omega | simp) [k3]
    refine loop_st (fun i : Nat => [iv i]) (fun i H' => H.le H' ∧ H.nx ≤ H'.nx ∧ i ≤ ts.length ∧ Ty.sames ts ss = Ty.sames (ts.drop i) (ss.drop i)) (fun i => ts.length - i) 0 (.refl (Nat.le_refl _)) ⟨.refl _, Nat.le_refl _, Nat.zero_le _, by simp⟩ ?_
    rintro i H2 hn2 ⟨hle, hn, hi, hsm⟩ k hk
    unfold S_slices_EqualFunc_s_api_Type_s_api_Type_api_Type_api_Type_L1
    by_cases hil : i < ts.length
    · obtain ⟨x, hx⟩ : ∃ x, ts[i]? = some x := ⟨_, List.getElem?_eq_getElem hil⟩
      obtain ⟨y, hy⟩ : ∃ y, ss[i]? = some y := ⟨_, List.getElem?_eq_getElem (by omega)⟩
      have hxg : ∀ h, ts[i]'h = x := fun h => (List.getElem?_eq_some_iff.1 hx).2
      have hyg : ∀ h, ss[i]'h = y := fun h => (List.getElem?_eq_some_iff.1 hy).2
      have his : i < ss.length := by omega
      have hiv := ivn (i := i) (by omega)
      rw [Ty.sames_at hx hy] at hsm
      simp (disch := first | omega | simp) [iv, Ty.cs_len, Ty.cs_take, put_get_ne, hil, his, hxg, hyg]
      refine ca_pure hg (hp x (List.mem_of_getElem? hx) y (List.mem_of_getElem? hy) _) ?_
      cases hq : x.same y with
      | true =>
        rw [hq, Bool.true_and] at hsm
        simp (disch := first | omega | simp) [bv, hiv]
        exact hk (i + 1) _ _ _ (.refl (by first | omega | (simp only [up_nx, put_nx]; done) | (simp only [up_nx, put_nx]; omega))) ⟨(by repeat (first | with_reducible assumption | with_reducible exact AH.le.refl _ | with_reducible apply AH.le.up | (with_reducible refine AH.le.put hw ?_ ?_; · first | omega | (simp only [up_nx, put_nx, kill_nx]; done) | (simp only [up_nx, put_nx, kill_nx]; omega)) | (with_reducible refine AH.le.kill hw ?_ ?_; · first | omega | (simp only [up_nx, put_nx, kill_nx]; done) | (simp only [up_nx, put_nx, kill_nx]; omega)))), (by first | omega | (simp only [up_nx, put_nx]; done) | (simp only [up_nx, put_nx]; omega)), hil, hsm⟩ (by omega)
      | false =>
        rw [hq, Bool.false_and] at hsm
        simp (disch := first | omega | simp) [bv]
        exact rt_one hw (by repeat (first | with_reducible assumption | with_reducible exact AH.le.refl _ | with_reducible apply AH.le.up | (with_reducible refine AH.le.put hw ?_ ?_; · first | omega | (simp only [up_nx, put_nx, kill_nx]; done) | (simp only [up_nx, put_nx, kill_nx]; omega)) | (with_reducible refine AH.le.kill hw ?_ ?_; · first | omega | (simp only [up_nx, put_nx, kill_nx]; done) | (simp only [up_nx, put_nx, kill_nx]; omega)))) (by repeat (first | exact Cl.p _ | exact Cl.dsl _ _ | exact Cl.any | refine Cl.tup ?_ | refine Cl.agg ?_ | exact Clo.nil | refine Clo.cons ?_ ?_)) ⟨rfl, by simp [hsm]⟩
    · rw [Ty.sames_end (by omega)] at hsm
      have his : ¬ i < ss.length := by omega
      simp (disch := first | omega | simp) [iv, his]
      exact rt_one hw (by repeat (first | with_reducible assumption | with_reducible exact AH.le.refl _ | with_reducible apply AH.le.up | (with_reducible refine AH.le.put hw ?_ ?_; · first | omega | (simp only [up_nx, put_nx, kill_nx]; done) | (simp only [up_nx, put_nx, kill_nx]; omega)) | (with_reducible refine AH.le.kill hw ?_ ?_; · first | omega | (simp only [up_nx, put_nx, kill_nx]; done) | (simp only [up_nx, put_nx, kill_nx]; omega)))) (by repeat (first | exact Cl.p _ | exact Cl.dsl _ _ | exact Cl.any | refine Cl.tup ?_ | refine Cl.agg ?_ | exact Clo.nil | refine Clo.cons ?_ ?_)) ⟨rfl, by simp [hsm, bv]⟩
  · have k3' : ¬ ((ts.length : Int) = (ss.length : Int)) := by omega
    simp (disch := first | omega | simp) [k3, k3']
    exact rt_one hw (by repeat (first | with_reducible assumption | with_reducible exact AH.le.refl _ | with_reducible apply AH.le.up | (with_reducible refine AH.le.put hw ?_ ?_; · first | omega | (simp only [up_nx, put_nx, kill_nx]; done) | (simp only [up_nx, put_nx, kill_nx]; omega)) | (with_reducible refine AH.le.kill hw ?_ ?_; · first | omega | (simp only [up_nx, put_nx, kill_nx]; done) | (simp only [up_nx, put_nx, kill_nx]; omega)))) (by repeat (first | exact Cl.p _ | exact Cl.dsl _ _ | exact Cl.any | refine Cl.tup ?_ | refine Cl.agg ?_ | exact Clo.nil | refine Clo.cons ?_ ?_)) ⟨rfl, by simp [bv]⟩)
theorem c_sameType (N : Nat) : ∀ t s : Ty, t.size ≤ N → ∀ H : AH, Tri Try.prog 49 [t.av, s.av] H (fun r H' => H' = H ∧ r = bv (t.same s)) := by
  induction N with
  | zero => intro t s ht; have := t.size_pos; omega
  | succ N ih =>
    intro t s ht H
    refine tri_wf fun hw => tri_lenA 0 2 rfl t.cs_g2 fun hl => tri_term_sameType ?_
    have hml : maxLen = 9223372036854775807 := by decide
    rw [List.length_map] at hl
    have hsz := t.size_eq
    have hse := Ty.same_eq t s
    unfold S_term_sameType
    by_cases k1 : t.kind = s.kind
    · by_cases k2 : t.num = s.num
      · simp (disch := first | omega | simp) [iv, Ty.av, Ty.cs_g0, Ty.cs_g1, Ty.cs_g2, put_get_ne, k1, k2]
        refine ca_pure (by kernel_rfl) (c_EqualFunc t.kids s.kids _ (by kernel_rfl) _ (by omega) (fun x hx y hy H => ih x y (by have := Ty.sizes_mem hx; omega) H)) ?_
        simp (disch := first | omega | simp) [bv]
        exact rt_one hw (by repeat (first | with_reducible assumption | with_reducible exact AH.le.refl _ | with_reducible apply AH.le.up | (with_reducible refine AH.le.put hw ?_ ?_; · first | omega | (simp only [up_nx, put_nx, kill_nx]; done) | (simp only [up_nx, put_nx, kill_nx]; omega)) | (with_reducible refine AH.le.kill hw ?_ ?_; · first | omega | (simp only [up_nx, put_nx, kill_nx]; done) | (simp only [up_nx, put_nx, kill_nx]; omega)))) (by repeat (first | exact Cl.p _ | exact Cl.dsl _ _ | exact Cl.any | refine Cl.tup ?_ | refine Cl.agg ?_ | exact Clo.nil | refine Clo.cons ?_ ?_)) ⟨rfl, by rw [hse]; simp [k1, k2]; rfl⟩
      · have hs : t.same s = false := by rw [hse]; simp [k2]
        simp (disch := first | omega | simp) [iv, Ty.av, Ty.cs_g0, Ty.cs_g1, put_get_ne, k1, k2]
        exact rt_one hw (by repeat (first | with_reducible assumption | with_reducible exact AH.le.refl _ | with_reducible apply AH.le.up | (with_reducible refine AH.le.put hw ?_ ?_; · first | omega | (simp only [up_nx, put_nx, kill_nx]; done) | (simp only [up_nx, put_nx, kill_nx]; omega)) | (with_reducible refine AH.le.kill hw ?_ ?_; · first | omega | (simp only [up_nx, put_nx, kill_nx]; done) | (simp only [up_nx, put_nx, kill_nx]; omega)))) (by repeat (first | exact Cl.p _ | exact Cl.dsl _ _ | exact Cl.any | refine Cl.tup ?_ | refine Cl.agg ?_ | exact Clo.nil | refine Clo.cons ?_ ?_)) ⟨rfl, by simp [hs, bv]⟩
    · have hs : t.same s = false := by rw [hse]; simp [k1]
      simp (disch := first | omega | simp) [iv, Ty.av, Ty.cs_g0, put_get_ne, k1]
      exact rt_one hw (by repeat (first | with_reducible assumption | with_reducible exact AH.le.refl _ | with_reducible apply AH.le.up | (with_reducible refine AH.le.put hw ?_ ?_; · first | omega | (simp only [up_nx, put_nx, kill_nx]; done) | (simp only [up_nx, put_nx, kill_nx]; omega)) | (with_reducible refine AH.le.kill hw ?_ ?_; · first | omega | (simp only [up_nx, put_nx, kill_nx]; done) | (simp only [up_nx, put_nx, kill_nx]; omega)))) (by repeat (first | exact Cl.p _ | exact Cl.dsl _ _ | exact Cl.any | refine Cl.tup ?_ | refine Cl.agg ?_ | exact Clo.nil | refine Clo.cons ?_ ?_)) ⟨rfl, by simp [hs, bv]⟩
end Go.Proofs.Ytkocpdekknfmaaa
