/- Texts that the proof rests on, part 13: what each holds stands at its head. -/
import Derived.Test.YtkocpdekknfmaaaKs12

/- What is wrong with a type or a term: both programs; sizes by the document. -/
namespace Go.Proofs.Ytkocpdekknfmaaa
open Go.RowKit Go.Maps
theorem Ty.wrong_eq (t : Ty) : t.wrong = if Ty.head t.kind t.num t.kids.length = 0 then Ty.wrongs t.kids else Ty.head t.kind t.num t.kids.length := by cases t; exact Ty.wrong_mk _ _ _
theorem Tm.wrong_eq (t : Tm) : t.wrong = if Tm.head t.kind t.num t.type.bare t.kids.length = 0 then (if t.kind = 3 ∧ t.type.check ≠ 0 then t.type.check else Tm.wrongs t.kids) else Tm.head t.kind t.num t.type.bare t.kids.length := by cases t; exact Tm.wrong_mk _ _ _ _
theorem Ty.wrongs_at {ks : List Ty} {i : Nat} {x : Ty} (h : ks[i]? = some x) : Ty.wrongs (ks.drop i) = if x.wrong = 0 then Ty.wrongs (ks.drop (i + 1)) else x.wrong := by
  obtain ⟨h1, h2⟩ := List.getElem?_eq_some_iff.1 h
  rw [Ty.wrongs_step h1, h2]
theorem Tm.wrongs_at {ks : List Tm} {i : Nat} {x : Tm} (h : ks[i]? = some x) : Tm.wrongs (ks.drop i) = if x.wrong = 0 then Tm.wrongs (ks.drop (i + 1)) else x.wrong := by
  obtain ⟨h1, h2⟩ := List.getElem?_eq_some_iff.1 h
  rw [Tm.wrongs_step h1, h2]
set_option maxHeartbeats 1000000 in
theorem c_RTypeSize (N : Nat) : ∀ t : Ty, t.size ≤ N → ∀ (most : Int) (H : AH), 0 ≤ most → most ≤ 1000000 → Tri Try.prog 42 [t.av, iv most] H (fun r H' => H' = H ∧ r = iv (capN t.size most)) := by
  induction N with
  | zero => intro t ht; have := t.size_pos; omega
  | succ N ih =>
    intro t ht most H h0 h1
    refine tri_wf fun hw => tri_lenA 0 2 rfl t.cs_g2 fun hl => tri_wordhoardref_TypeSize ?_
    have hml : maxLen = 9223372036854775807 := by decide
    rw [List.length_map] at hl
    have hsz := t.size_eq
    unfold S_wordhoardref_TypeSize
    simp (disch := first | omega | simp) [Ty.av]
    refine loop_st (fun s : Int × Nat => [iv s.1, iv s.2]) (fun s H' => H' = (H.up 2).put H.nx (.box 24 t.cs) ∧ s.2 ≤ t.kids.length ∧ s.1 = capN (1 + Ty.sizes (t.kids.take s.2)) most) (fun s => t.kids.length - s.2) (1, 0) (.refl (Nat.le_refl _)) ⟨rfl, Nat.zero_le _, ?_⟩ ?_
    · simp only [List.take_zero, Ty.sizes]; unfold capN; split <;> omega
    · rintro ⟨n, i⟩ H1 hn1 ⟨rfl, hi, hn⟩ k hk
      dsimp only at hi hn hk
      unfold S_wordhoardref_TypeSize_L1
      have hsl := Ty.sizes_le t.kids i
      have hcp := capN_in (s := 1 + Ty.sizes (t.kids.take i)) h0
      by_cases hil : i < t.kids.length
      · have hss := Ty.sizes_succ t.kids i hil
        have hsl2 := Ty.sizes_le t.kids (i + 1)
        obtain ⟨x, hx⟩ : ∃ x, t.kids[i]? = some x := ⟨_, List.getElem?_eq_getElem hil⟩
        have hxg : ∀ h, t.kids[i]'h = x := fun h => (List.getElem?_eq_some_iff.1 hx).2
        rw [hxg] at hss
        have hxs : x.size ≤ N := by have := Ty.sizes_mem (List.mem_of_getElem? hx); omega
        have hiv := ivn (i := i) (by omega)
        by_cases hc : ((1 + Ty.sizes (t.kids.take i) : Nat) : Int) ≤ most
        · rw [capN_low hc] at hn
          have hnm : n ≤ most := by omega
          have hw1 : IntKind.i64.wrap (most - n) = most - n := wrapI (by omega) (by omega)
          have hcap := capN_in (s := x.size) (most := most - n) (by omega)
          have hw2 : IntKind.i64.wrap (n + capN x.size (most - n)) = n + capN x.size (most - n) := wrapI (by omega) (by omega)
          simp (disch := first | omega | simp) [iv, hil, hxg, hnm, Ty.cs_len, Ty.cs_g2, Ty.cs_take, hw1]
          refine ca_pure (by kernel_rfl) (ih x hxs (most - n) _ (by omega) (by omega)) ?_
          simp (disch := first | omega | simp) [iv, hw2, hiv]
          refine hk (n + capN x.size (most - n), i + 1) _ _ _ (.refl (by first | omega | (simp only [up_nx, put_nx, kill_nx]; done) | (simp only [up_nx, put_nx, kill_nx]; omega))) ⟨rfl, hil, ?_⟩ (by dsimp only; omega)
          dsimp only
          rw [hn, capN_add hc, hss]
          congr 1; omega
        · rw [capN_high hc] at hn
          have hnm : ¬ n ≤ most := by omega
          have hnm2 : most < n := by omega
          have hw3 : IntKind.i64.wrap (most + 1) = most + 1 := wrapI (by omega) (by omega)
          simp (disch := first | omega | simp) [iv, hil, hnm, hnm2, Ty.cs_g2, hw3]
          refine rt_one hw (by repeat (first | with_reducible assumption | with_reducible exact AH.le.refl _ | with_reducible apply AH.le.up | (with_reducible refine AH.le.put hw ?_ ?_; · first | omega | (simp only [up_nx, put_nx, kill_nx]; done) | (simp only [up_nx, put_nx, kill_nx]; omega)) | (with_reducible refine AH.le.kill hw ?_ ?_; · first | omega | (simp only [up_nx, put_nx, kill_nx]; done) | (simp only [up_nx, put_nx, kill_nx]; omega)))) (by repeat (first | exact Cl.p _ | exact Cl.dsl _ _ | exact Cl.any | refine Cl.tup ?_ | refine Cl.agg ?_ | exact Clo.nil | refine Clo.cons ?_ ?_)) ⟨rfl, ?_⟩
          rw [capN_high (by omega)]
      · have hie : t.kids.take i = t.kids := List.take_of_length_le (by omega)
        rw [hie, ← hsz] at hn
        by_cases hc : (t.size : Int) ≤ most
        · have hnm : ¬ most < n := by rw [hn, capN_low hc]; omega
          simp (disch := first | omega | simp) [iv, hil, hnm, Ty.cs_g2]
          refine rt_one hw (by repeat (first | with_reducible assumption | with_reducible exact AH.le.refl _ | with_reducible apply AH.le.up | (with_reducible refine AH.le.put hw ?_ ?_; · first | omega | (simp only [up_nx, put_nx, kill_nx]; done) | (simp only [up_nx, put_nx, kill_nx]; omega)) | (with_reducible refine AH.le.kill hw ?_ ?_; · first | omega | (simp only [up_nx, put_nx, kill_nx]; done) | (simp only [up_nx, put_nx, kill_nx]; omega)))) (by repeat (first | exact Cl.p _ | exact Cl.dsl _ _ | exact Cl.any | refine Cl.tup ?_ | refine Cl.agg ?_ | exact Clo.nil | refine Clo.cons ?_ ?_)) ⟨rfl, ?_⟩
          rw [hn]
        · have hnm : most < n := by rw [hn, capN_high hc]; omega
          have hw3 : IntKind.i64.wrap (most + 1) = most + 1 := wrapI (by omega) (by omega)
          simp (disch := first | omega | simp) [iv, hil, hnm, Ty.cs_g2, hw3]
          refine rt_one hw (by repeat (first | with_reducible assumption | with_reducible exact AH.le.refl _ | with_reducible apply AH.le.up | (with_reducible refine AH.le.put hw ?_ ?_; · first | omega | (simp only [up_nx, put_nx, kill_nx]; done) | (simp only [up_nx, put_nx, kill_nx]; omega)) | (with_reducible refine AH.le.kill hw ?_ ?_; · first | omega | (simp only [up_nx, put_nx, kill_nx]; done) | (simp only [up_nx, put_nx, kill_nx]; omega)))) (by repeat (first | exact Cl.p _ | exact Cl.dsl _ _ | exact Cl.any | refine Cl.tup ?_ | refine Cl.agg ?_ | exact Clo.nil | refine Clo.cons ?_ ?_)) ⟨rfl, ?_⟩
          rw [capN_high hc]
set_option maxHeartbeats 1000000 in
theorem c_RTermSize (N : Nat) : ∀ t : Tm, t.size ≤ N → ∀ (most : Int) (H : AH), 0 ≤ most → most ≤ 1000000 → Tri Try.prog 27 [t.av, iv most] H (fun r H' => H' = H ∧ r = iv (capN t.size most)) := by
  induction N with
  | zero => intro t ht; have := t.size_pos; omega
  | succ N ih =>
    intro t ht most H h0 h1
    refine tri_wf fun hw => tri_lenA 0 5 rfl t.cs_g5 fun hl => tri_wordhoardref_TermSize ?_
    have hml : maxLen = 9223372036854775807 := by decide
    rw [List.length_map] at hl
    have hsz := t.size_eq
    unfold S_wordhoardref_TermSize
    simp (disch := first | omega | simp) [Tm.av]
    refine loop_st (fun s : Int × Nat => [iv s.1, iv s.2]) (fun s H' => H' = (H.up 2).put H.nx (.box 27 t.cs) ∧ s.2 ≤ t.kids.length ∧ s.1 = capN (1 + Tm.sizes (t.kids.take s.2)) most) (fun s => t.kids.length - s.2) (1, 0) (.refl (Nat.le_refl _)) ⟨rfl, Nat.zero_le _, ?_⟩ ?_
    · simp only [List.take_zero, Tm.sizes]; unfold capN; split <;> omega
    · rintro ⟨n, i⟩ H1 hn1 ⟨rfl, hi, hn⟩ k hk
      dsimp only at hi hn hk
      unfold S_wordhoardref_TermSize_L1
      have hsl := Tm.sizes_le t.kids i
      have hcp := capN_in (s := 1 + Tm.sizes (t.kids.take i)) h0
      by_cases hil : i < t.kids.length
      · have hss := Tm.sizes_succ t.kids i hil
        have hsl2 := Tm.sizes_le t.kids (i + 1)
        obtain ⟨x, hx⟩ : ∃ x, t.kids[i]? = some x := ⟨_, List.getElem?_eq_getElem hil⟩
        have hxg : ∀ h, t.kids[i]'h = x := fun h => (List.getElem?_eq_some_iff.1 hx).2
        rw [hxg] at hss
        have hxs : x.size ≤ N := by have := Tm.sizes_mem (List.mem_of_getElem? hx); omega
        have hiv := ivn (i := i) (by omega)
        by_cases hc : ((1 + Tm.sizes (t.kids.take i) : Nat) : Int) ≤ most
        · rw [capN_low hc] at hn
          have hnm : n ≤ most := by omega
          have hw1 : IntKind.i64.wrap (most - n) = most - n := wrapI (by omega) (by omega)
          have hcap := capN_in (s := x.size) (most := most - n) (by omega)
          have hw2 : IntKind.i64.wrap (n + capN x.size (most - n)) = n + capN x.size (most - n) := wrapI (by omega) (by omega)
          simp (disch := first | omega | simp) [iv, hil, hxg, hnm, Tm.cs_len, Tm.cs_g5, Tm.cs_take, hw1]
          refine ca_pure (by kernel_rfl) (ih x hxs (most - n) _ (by omega) (by omega)) ?_
          simp (disch := first | omega | simp) [iv, hw2, hiv]
          refine hk (n + capN x.size (most - n), i + 1) _ _ _ (.refl (by first | omega | (simp only [up_nx, put_nx, kill_nx]; done) | (simp only [up_nx, put_nx, kill_nx]; omega))) ⟨rfl, hil, ?_⟩ (by dsimp only; omega)
          dsimp only
          rw [hn, capN_add hc, hss]
          congr 1; omega
        · rw [capN_high hc] at hn
          have hnm : ¬ n ≤ most := by omega
          have hnm2 : most < n := by omega
          have hw3 : IntKind.i64.wrap (most + 1) = most + 1 := wrapI (by omega) (by omega)
          simp (disch := first | omega | simp) [iv, hil, hnm, hnm2, Tm.cs_g5, hw3]
          refine rt_one hw (by repeat (first | with_reducible assumption | with_reducible exact AH.le.refl _ | with_reducible apply AH.le.up | (with_reducible refine AH.le.put hw ?_ ?_; · first | omega | (simp only [up_nx, put_nx, kill_nx]; done) | (simp only [up_nx, put_nx, kill_nx]; omega)) | (with_reducible refine AH.le.kill hw ?_ ?_; · first | omega | (simp only [up_nx, put_nx, kill_nx]; done) | (simp only [up_nx, put_nx, kill_nx]; omega)))) (by repeat (first | exact Cl.p _ | exact Cl.dsl _ _ | exact Cl.any | refine Cl.tup ?_ | refine Cl.agg ?_ | exact Clo.nil | refine Clo.cons ?_ ?_)) ⟨rfl, ?_⟩
          rw [capN_high (by omega)]
      · have hie : t.kids.take i = t.kids := List.take_of_length_le (by omega)
        rw [hie, ← hsz] at hn
        by_cases hc : (t.size : Int) ≤ most
        · have hnm : ¬ most < n := by rw [hn, capN_low hc]; omega
          simp (disch := first | omega | simp) [iv, hil, hnm, Tm.cs_g5]
          refine rt_one hw (by repeat (first | with_reducible assumption | with_reducible exact AH.le.refl _ | with_reducible apply AH.le.up | (with_reducible refine AH.le.put hw ?_ ?_; · first | omega | (simp only [up_nx, put_nx, kill_nx]; done) | (simp only [up_nx, put_nx, kill_nx]; omega)) | (with_reducible refine AH.le.kill hw ?_ ?_; · first | omega | (simp only [up_nx, put_nx, kill_nx]; done) | (simp only [up_nx, put_nx, kill_nx]; omega)))) (by repeat (first | exact Cl.p _ | exact Cl.dsl _ _ | exact Cl.any | refine Cl.tup ?_ | refine Cl.agg ?_ | exact Clo.nil | refine Clo.cons ?_ ?_)) ⟨rfl, ?_⟩
          rw [hn]
        · have hnm : most < n := by rw [hn, capN_high hc]; omega
          have hw3 : IntKind.i64.wrap (most + 1) = most + 1 := wrapI (by omega) (by omega)
          simp (disch := first | omega | simp) [iv, hil, hnm, Tm.cs_g5, hw3]
          refine rt_one hw (by repeat (first | with_reducible assumption | with_reducible exact AH.le.refl _ | with_reducible apply AH.le.up | (with_reducible refine AH.le.put hw ?_ ?_; · first | omega | (simp only [up_nx, put_nx, kill_nx]; done) | (simp only [up_nx, put_nx, kill_nx]; omega)) | (with_reducible refine AH.le.kill hw ?_ ?_; · first | omega | (simp only [up_nx, put_nx, kill_nx]; done) | (simp only [up_nx, put_nx, kill_nx]; omega)))) (by repeat (first | exact Cl.p _ | exact Cl.dsl _ _ | exact Cl.any | refine Cl.tup ?_ | refine Cl.agg ?_ | exact Clo.nil | refine Clo.cons ?_ ?_)) ⟨rfl, ?_⟩
          rw [capN_high hc]
theorem checkTy_loop {H H1 : AH} {t : Ty} {m : Int} (hm : m = (t.kids.length : Int)) (hw : WF H) (hle : H.le H1) (hn : H.nx ≤ H1.nx) (hl : t.kids.length ≤ 9223372036854775806) (ih : ∀ x ∈ t.kids, ∀ H, Tri Try.prog 41 [x.av] H (fun r H' => H' = H ∧ r = iv x.wrong)) :
    LoopA Try.prog 1 (S_term_checkType_L1 (fun r H' => H' = H ∧ r = iv (Ty.wrongs t.kids)) H (.dsl 3 (t.kids.map Ty.cs)) (iv m)) [iv 0] H1 := by
  subst hm
  refine loop_st (fun i : Nat => [iv i]) (fun i H' => H.le H' ∧ H.nx ≤ H'.nx ∧ i ≤ t.kids.length ∧ Ty.wrongs t.kids = Ty.wrongs (t.kids.drop i)) (fun i => t.kids.length - i) 0 (.refl (Nat.le_refl _)) ⟨hle, hn, Nat.zero_le _, by simp⟩ ?_
  rintro i H2 hn2 ⟨hle2, hn3, hi, hwr⟩ k hk
  unfold S_term_checkType_L1
  by_cases hil : i < t.kids.length
  · obtain ⟨x, hx⟩ : ∃ x, t.kids[i]? = some x := ⟨_, List.getElem?_eq_getElem hil⟩
    have hxg : ∀ h, t.kids[i]'h = x := fun h => (List.getElem?_eq_some_iff.1 hx).2
    have hiv := ivn (i := i) (by omega)
    rw [Ty.wrongs_at hx] at hwr
    simp (disch := first | omega | simp) [iv, hil, hxg, Ty.cs_len, Ty.cs_take]
    refine ca_pure (by kernel_rfl) (ih x (List.mem_of_getElem? hx) _) ?_
    by_cases h0 : x.wrong = 0
    · rw [if_pos h0] at hwr
      simp (disch := first | omega | simp) [iv, h0, hiv]
      exact hk (i + 1) _ _ _ (.refl (by first | omega | (simp only [up_nx, put_nx]; done) | (simp only [up_nx, put_nx]; omega))) ⟨(by repeat (first | with_reducible assumption | with_reducible exact AH.le.refl _ | with_reducible apply AH.le.up | (with_reducible refine AH.le.put hw ?_ ?_; · first | omega | (simp only [up_nx, put_nx, kill_nx]; done) | (simp only [up_nx, put_nx, kill_nx]; omega)) | (with_reducible refine AH.le.kill hw ?_ ?_; · first | omega | (simp only [up_nx, put_nx, kill_nx]; done) | (simp only [up_nx, put_nx, kill_nx]; omega)))), (by first | omega | (simp only [up_nx, put_nx]; done) | (simp only [up_nx, put_nx]; omega)), hil, hwr⟩ (by omega)
    · rw [if_neg h0] at hwr
      simp (disch := first | omega | simp) [iv, h0]
      exact rt_one hw (by repeat (first | with_reducible assumption | with_reducible exact AH.le.refl _ | with_reducible apply AH.le.up | (with_reducible refine AH.le.put hw ?_ ?_; · first | omega | (simp only [up_nx, put_nx, kill_nx]; done) | (simp only [up_nx, put_nx, kill_nx]; omega)) | (with_reducible refine AH.le.kill hw ?_ ?_; · first | omega | (simp only [up_nx, put_nx, kill_nx]; done) | (simp only [up_nx, put_nx, kill_nx]; omega)))) (by repeat (first | exact Cl.p _ | exact Cl.dsl _ _ | exact Cl.any | refine Cl.tup ?_ | refine Cl.agg ?_ | exact Clo.nil | refine Clo.cons ?_ ?_)) ⟨rfl, by rw [hwr]⟩
  · rw [Ty.wrongs_end (by omega)] at hwr
    simp (disch := first | omega | simp) [iv, hil]
    exact rt_one hw (by repeat (first | with_reducible assumption | with_reducible exact AH.le.refl _ | with_reducible apply AH.le.up | (with_reducible refine AH.le.put hw ?_ ?_; · first | omega | (simp only [up_nx, put_nx, kill_nx]; done) | (simp only [up_nx, put_nx, kill_nx]; omega)) | (with_reducible refine AH.le.kill hw ?_ ?_; · first | omega | (simp only [up_nx, put_nx, kill_nx]; done) | (simp only [up_nx, put_nx, kill_nx]; omega)))) (by repeat (first | exact Cl.p _ | exact Cl.dsl _ _ | exact Cl.any | refine Cl.tup ?_ | refine Cl.agg ?_ | exact Clo.nil | refine Clo.cons ?_ ?_)) ⟨rfl, by rw [hwr]⟩
theorem typeWrong_loop {H H1 : AH} {t : Ty} {b : Nat} {tt : TypeId} (hb : H1.get b = some (.box tt t.cs)) (hw : WF H) (hle : H.le H1) (_hn : H.nx ≤ H1.nx) (hl : t.kids.length ≤ 9223372036854775806) (ih : ∀ x ∈ t.kids, ∀ H, Tri Try.prog 43 [x.av] H (fun r H' => H' = H ∧ r = iv x.wrong)) :
    LoopA Try.prog 1 (S_wordhoardref_typeWrong_L1 (fun r H' => H' = H ∧ r = iv (Ty.wrongs t.kids)) H (.ptr b 0)) [iv 0] H1 := by
  refine loop_st (fun i : Nat => [iv i]) (fun i H' => H1 = H' ∧ i ≤ t.kids.length ∧ Ty.wrongs t.kids = Ty.wrongs (t.kids.drop i)) (fun i => t.kids.length - i) 0 (.refl (Nat.le_refl _)) ⟨rfl, Nat.zero_le _, by simp⟩ ?_
  rintro i H2 hn2 ⟨rfl, hi, hwr⟩ k hk
  unfold S_wordhoardref_typeWrong_L1
  by_cases hil : i < t.kids.length
  · obtain ⟨x, hx⟩ : ∃ x, t.kids[i]? = some x := ⟨_, List.getElem?_eq_getElem hil⟩
    have hxg : ∀ h, t.kids[i]'h = x := fun h => (List.getElem?_eq_some_iff.1 hx).2
    have hiv := ivn (i := i) (by omega)
    rw [Ty.wrongs_at hx] at hwr
    simp (disch := first | omega | simp) [iv, hil, hxg, Ty.cs_len, Ty.cs_g2, Ty.cs_take, hb]
    refine ca_pure (by kernel_rfl) (ih x (List.mem_of_getElem? hx) _) ?_
    by_cases h0 : x.wrong = 0
    · rw [if_pos h0] at hwr
      simp (disch := first | omega | simp) [iv, h0, hiv]
      exact hk (i + 1) _ _ _ (.refl (by first | omega | (simp only [up_nx, put_nx, kill_nx]; done) | (simp only [up_nx, put_nx, kill_nx]; omega))) ⟨rfl, hil, hwr⟩ (by omega)
    · rw [if_neg h0] at hwr
      simp (disch := first | omega | simp) [iv, h0]
      exact rt_one hw (by repeat (first | with_reducible assumption | with_reducible exact AH.le.refl _ | with_reducible apply AH.le.up | (with_reducible refine AH.le.put hw ?_ ?_; · first | omega | (simp only [up_nx, put_nx, kill_nx]; done) | (simp only [up_nx, put_nx, kill_nx]; omega)) | (with_reducible refine AH.le.kill hw ?_ ?_; · first | omega | (simp only [up_nx, put_nx, kill_nx]; done) | (simp only [up_nx, put_nx, kill_nx]; omega)))) (by repeat (first | exact Cl.p _ | exact Cl.dsl _ _ | exact Cl.any | refine Cl.tup ?_ | refine Cl.agg ?_ | exact Clo.nil | refine Clo.cons ?_ ?_)) ⟨rfl, by rw [hwr]⟩
  · rw [Ty.wrongs_end (by omega)] at hwr
    simp (disch := first | omega | simp) [iv, hil, Ty.cs_g2, hb]
    exact rt_one hw (by repeat (first | with_reducible assumption | with_reducible exact AH.le.refl _ | with_reducible apply AH.le.up | (with_reducible refine AH.le.put hw ?_ ?_; · first | omega | (simp only [up_nx, put_nx, kill_nx]; done) | (simp only [up_nx, put_nx, kill_nx]; omega)) | (with_reducible refine AH.le.kill hw ?_ ?_; · first | omega | (simp only [up_nx, put_nx, kill_nx]; done) | (simp only [up_nx, put_nx, kill_nx]; omega)))) (by repeat (first | exact Cl.p _ | exact Cl.dsl _ _ | exact Cl.any | refine Cl.tup ?_ | refine Cl.agg ?_ | exact Clo.nil | refine Clo.cons ?_ ?_)) ⟨rfl, by rw [hwr]⟩
theorem checkTm_loop {H H1 : AH} {t : Tm} {m : Int} (hm : m = (t.kids.length : Int)) (hw : WF H) (hle : H.le H1) (hn : H.nx ≤ H1.nx) (hl : t.kids.length ≤ 9223372036854775806) (ih : ∀ x ∈ t.kids, ∀ H, Tri Try.prog 39 [x.av] H (fun r H' => H' = H ∧ r = iv x.wrong)) :
    LoopA Try.prog 1 (S_term_check_L1 (fun r H' => H' = H ∧ r = iv (Tm.wrongs t.kids)) H (.dsl 6 (t.kids.map Tm.cs)) (iv m)) [iv 0] H1 := by
  subst hm
  refine loop_st (fun i : Nat => [iv i]) (fun i H' => H.le H' ∧ H.nx ≤ H'.nx ∧ i ≤ t.kids.length ∧ Tm.wrongs t.kids = Tm.wrongs (t.kids.drop i)) (fun i => t.kids.length - i) 0 (.refl (Nat.le_refl _)) ⟨hle, hn, Nat.zero_le _, by simp⟩ ?_
  rintro i H2 hn2 ⟨hle2, hn3, hi, hwr⟩ k hk
  unfold S_term_check_L1
  by_cases hil : i < t.kids.length
  · obtain ⟨x, hx⟩ : ∃ x, t.kids[i]? = some x := ⟨_, List.getElem?_eq_getElem hil⟩
    have hxg : ∀ h, t.kids[i]'h = x := fun h => (List.getElem?_eq_some_iff.1 hx).2
    have hiv := ivn (i := i) (by omega)
    rw [Tm.wrongs_at hx] at hwr
    simp (disch := first | omega | simp) [iv, hil, hxg, Tm.cs_len, Tm.cs_take]
    refine ca_pure (by kernel_rfl) (ih x (List.mem_of_getElem? hx) _) ?_
    by_cases h0 : x.wrong = 0
    · rw [if_pos h0] at hwr
      simp (disch := first | omega | simp) [iv, h0, hiv]
      exact hk (i + 1) _ _ _ (.refl (by first | omega | (simp only [up_nx, put_nx]; done) | (simp only [up_nx, put_nx]; omega))) ⟨(by repeat (first | with_reducible assumption | with_reducible exact AH.le.refl _ | with_reducible apply AH.le.up | (with_reducible refine AH.le.put hw ?_ ?_; · first | omega | (simp only [up_nx, put_nx, kill_nx]; done) | (simp only [up_nx, put_nx, kill_nx]; omega)) | (with_reducible refine AH.le.kill hw ?_ ?_; · first | omega | (simp only [up_nx, put_nx, kill_nx]; done) | (simp only [up_nx, put_nx, kill_nx]; omega)))), (by first | omega | (simp only [up_nx, put_nx]; done) | (simp only [up_nx, put_nx]; omega)), hil, hwr⟩ (by omega)
    · rw [if_neg h0] at hwr
      simp (disch := first | omega | simp) [iv, h0]
      exact rt_one hw (by repeat (first | with_reducible assumption | with_reducible exact AH.le.refl _ | with_reducible apply AH.le.up | (with_reducible refine AH.le.put hw ?_ ?_; · first | omega | (simp only [up_nx, put_nx, kill_nx]; done) | (simp only [up_nx, put_nx, kill_nx]; omega)) | (with_reducible refine AH.le.kill hw ?_ ?_; · first | omega | (simp only [up_nx, put_nx, kill_nx]; done) | (simp only [up_nx, put_nx, kill_nx]; omega)))) (by repeat (first | exact Cl.p _ | exact Cl.dsl _ _ | exact Cl.any | refine Cl.tup ?_ | refine Cl.agg ?_ | exact Clo.nil | refine Clo.cons ?_ ?_)) ⟨rfl, by rw [hwr]⟩
  · rw [Tm.wrongs_end (by omega)] at hwr
    simp (disch := first | omega | simp) [iv, hil]
    exact rt_one hw (by repeat (first | with_reducible assumption | with_reducible exact AH.le.refl _ | with_reducible apply AH.le.up | (with_reducible refine AH.le.put hw ?_ ?_; · first | omega | (simp only [up_nx, put_nx, kill_nx]; done) | (simp only [up_nx, put_nx, kill_nx]; omega)) | (with_reducible refine AH.le.kill hw ?_ ?_; · first | omega | (simp only [up_nx, put_nx, kill_nx]; done) | (simp only [up_nx, put_nx, kill_nx]; omega)))) (by repeat (first | exact Cl.p _ | exact Cl.dsl _ _ | exact Cl.any | refine Cl.tup ?_ | refine Cl.agg ?_ | exact Clo.nil | refine Clo.cons ?_ ?_)) ⟨rfl, by rw [hwr]⟩
theorem termWrong_loop {H H1 : AH} {t : Tm} {b : Nat} {tt : TypeId} (hb : H1.get b = some (.box tt t.cs)) (hw : WF H) (hle : H.le H1) (_hn : H.nx ≤ H1.nx) (hl : t.kids.length ≤ 9223372036854775806) (ih : ∀ x ∈ t.kids, ∀ H, Tri Try.prog 28 [x.av] H (fun r H' => H' = H ∧ r = iv x.wrong)) :
    LoopA Try.prog 1 (S_wordhoardref_termWrong_L1 (fun r H' => H' = H ∧ r = iv (Tm.wrongs t.kids)) H (.ptr b 0)) [iv 0] H1 := by
  refine loop_st (fun i : Nat => [iv i]) (fun i H' => H1 = H' ∧ i ≤ t.kids.length ∧ Tm.wrongs t.kids = Tm.wrongs (t.kids.drop i)) (fun i => t.kids.length - i) 0 (.refl (Nat.le_refl _)) ⟨rfl, Nat.zero_le _, by simp⟩ ?_
  rintro i H2 hn2 ⟨rfl, hi, hwr⟩ k hk
  unfold S_wordhoardref_termWrong_L1
  by_cases hil : i < t.kids.length
  · obtain ⟨x, hx⟩ : ∃ x, t.kids[i]? = some x := ⟨_, List.getElem?_eq_getElem hil⟩
    have hxg : ∀ h, t.kids[i]'h = x := fun h => (List.getElem?_eq_some_iff.1 hx).2
    have hiv := ivn (i := i) (by omega)
    rw [Tm.wrongs_at hx] at hwr
    simp (disch := first | omega | simp) [iv, hil, hxg, Tm.cs_len, Tm.cs_g5, Tm.cs_take, hb]
    refine ca_pure (by kernel_rfl) (ih x (List.mem_of_getElem? hx) _) ?_
    by_cases h0 : x.wrong = 0
    · rw [if_pos h0] at hwr
      simp (disch := first | omega | simp) [iv, h0, hiv]
      exact hk (i + 1) _ _ _ (.refl (by first | omega | (simp only [up_nx, put_nx, kill_nx]; done) | (simp only [up_nx, put_nx, kill_nx]; omega))) ⟨rfl, hil, hwr⟩ (by omega)
    · rw [if_neg h0] at hwr
      simp (disch := first | omega | simp) [iv, h0]
      exact rt_one hw (by repeat (first | with_reducible assumption | with_reducible exact AH.le.refl _ | with_reducible apply AH.le.up | (with_reducible refine AH.le.put hw ?_ ?_; · first | omega | (simp only [up_nx, put_nx, kill_nx]; done) | (simp only [up_nx, put_nx, kill_nx]; omega)) | (with_reducible refine AH.le.kill hw ?_ ?_; · first | omega | (simp only [up_nx, put_nx, kill_nx]; done) | (simp only [up_nx, put_nx, kill_nx]; omega)))) (by repeat (first | exact Cl.p _ | exact Cl.dsl _ _ | exact Cl.any | refine Cl.tup ?_ | refine Cl.agg ?_ | exact Clo.nil | refine Clo.cons ?_ ?_)) ⟨rfl, by rw [hwr]⟩
  · rw [Tm.wrongs_end (by omega)] at hwr
    simp (disch := first | omega | simp) [iv, hil, Tm.cs_g5, hb]
    exact rt_one hw (by repeat (first | with_reducible assumption | with_reducible exact AH.le.refl _ | with_reducible apply AH.le.up | (with_reducible refine AH.le.put hw ?_ ?_; · first | omega | (simp only [up_nx, put_nx, kill_nx]; done) | (simp only [up_nx, put_nx, kill_nx]; omega)) | (with_reducible refine AH.le.kill hw ?_ ?_; · first | omega | (simp only [up_nx, put_nx, kill_nx]; done) | (simp only [up_nx, put_nx, kill_nx]; omega)))) (by repeat (first | exact Cl.p _ | exact Cl.dsl _ _ | exact Cl.any | refine Cl.tup ?_ | refine Cl.agg ?_ | exact Clo.nil | refine Clo.cons ?_ ?_)) ⟨rfl, by rw [hwr]⟩

theorem Ty.head_cases (t : Ty) (P : Prop) (h1 : t.kind ≠ 1 → t.kind ≠ 2 → P) (h2 : t.kind = 1 → t.kids.length ≠ 0 → P) (h3 : t.kind = 2 → t.kids.length ≠ 2 → P)
    (h4 : t.kind = 1 → t.kids.length = 0 → t.num < 0 → P) (h5 : t.kind = 1 → t.kids.length = 0 → 9 < t.num → P) (h6 : t.kind = 2 → t.kids.length = 2 → t.num < 0 → P) (h7 : t.kind = 2 → t.kids.length = 2 → 9 < t.num → P) (h8 : t.kind = 2 → t.kids.length = 2 → 0 < t.num → t.num ≤ 9 → P)
    (h9 : t.kind = 1 → t.kids.length = 0 → 0 < t.num → t.num ≤ 9 → P) (hA : (t.kind = 1 ∧ t.kids.length = 0) ∨ (t.kind = 2 ∧ t.kids.length = 2) → t.num = 0 → P) : P := by
  by_cases k1 : t.kind = 1
  · by_cases l : t.kids.length = 0
    · by_cases n1 : t.num < 0
      · exact h4 k1 l n1
      · by_cases n2 : 9 < t.num
        · exact h5 k1 l n2
        · by_cases n3 : t.num = 0
          · exact hA (.inl ⟨k1, l⟩) n3
          · exact h9 k1 l (by omega) (by omega)
    · exact h2 k1 l
  · by_cases k2 : t.kind = 2
    · by_cases l : t.kids.length = 2
      · by_cases n1 : t.num < 0
        · exact h6 k2 l n1
        · by_cases n2 : 9 < t.num
          · exact h7 k2 l n2
          · by_cases n3 : t.num = 0
            · exact hA (.inr ⟨k2, l⟩) n3
            · exact h8 k2 l (by omega) (by omega)
      · exact h3 k2 l
    · exact h1 k1 k2
set_option maxHeartbeats 2000000 in
theorem c_checkTy (N : Nat) : ∀ t : Ty, t.size ≤ N → ∀ H : AH, Tri Try.prog 41 [t.av] H (fun r H' => H' = H ∧ r = iv t.wrong) := by
  induction N with
  | zero => intro t ht; have := t.size_pos; omega
  | succ N ih =>
    intro t ht H
    refine tri_wf fun hw => tri_lenA 0 2 rfl t.cs_g2 fun hl => tri_term_checkType ?_
    have hml : maxLen = 9223372036854775807 := by decide
    rw [List.length_map] at hl
    have hsz := t.size_eq
    have hk : ∀ x ∈ t.kids, ∀ H, Tri Try.prog 41 [x.av] H (fun r H' => H' = H ∧ r = iv x.wrong) := fun x hx H => ih x (by have := Ty.sizes_mem hx; omega) H
    unfold S_term_checkType
    refine Ty.head_cases t _ (fun k1 k2 => ?_) (fun k1 l => ?_) (fun k1 l => ?_) (fun k1 l n => ?_) (fun k1 l n => ?_) (fun k1 l n => ?_) (fun k1 l n => ?_) (fun k1 l n n2 => ?_) (fun k1 l n n2 => ?_) (fun k1 n => ?_)
    · have hwr : t.wrong = 4 := by rw [Ty.wrong_eq]; simp [Ty.head, k1, k2]
      simp (disch := first | omega | simp) [iv, Ty.av, Ty.cs_g0, k1, k2]
      exact rt_one hw (by repeat (first | with_reducible assumption | with_reducible exact AH.le.refl _ | with_reducible apply AH.le.up | (with_reducible refine AH.le.put hw ?_ ?_; · first | omega | (simp only [up_nx, put_nx, kill_nx]; done) | (simp only [up_nx, put_nx, kill_nx]; omega)) | (with_reducible refine AH.le.kill hw ?_ ?_; · first | omega | (simp only [up_nx, put_nx, kill_nx]; done) | (simp only [up_nx, put_nx, kill_nx]; omega)))) (by repeat (first | exact Cl.p _ | exact Cl.dsl _ _ | exact Cl.any | refine Cl.tup ?_ | refine Cl.agg ?_ | exact Clo.nil | refine Clo.cons ?_ ?_)) ⟨rfl, by rw [hwr]⟩
    · have hwr : t.wrong = 1 := by rw [Ty.wrong_eq]; simp [Ty.head, k1, l]
      have l2 : ¬ ((t.kids.length : Int) = 0) := by omega
      have l3 : 0 < t.kids.length := by omega
      simp (disch := first | omega | simp) [iv, Ty.av, Ty.cs_g0, Ty.cs_g2, k1, l]
      exact rt_one hw (by repeat (first | with_reducible assumption | with_reducible exact AH.le.refl _ | with_reducible apply AH.le.up | (with_reducible refine AH.le.put hw ?_ ?_; · first | omega | (simp only [up_nx, put_nx, kill_nx]; done) | (simp only [up_nx, put_nx, kill_nx]; omega)) | (with_reducible refine AH.le.kill hw ?_ ?_; · first | omega | (simp only [up_nx, put_nx, kill_nx]; done) | (simp only [up_nx, put_nx, kill_nx]; omega)))) (by repeat (first | exact Cl.p _ | exact Cl.dsl _ _ | exact Cl.any | refine Cl.tup ?_ | refine Cl.agg ?_ | exact Clo.nil | refine Clo.cons ?_ ?_)) ⟨rfl, by rw [hwr]⟩
    · have l2 : ¬ ((t.kids.length : Int) = 2) := by omega
      have hwr : t.wrong = 1 := by rw [Ty.wrong_eq]; simp [Ty.head, k1, l2]
      simp (disch := first | omega | simp) [iv, Ty.av, Ty.cs_g0, Ty.cs_g2, k1, l2]
      exact rt_one hw (by repeat (first | with_reducible assumption | with_reducible exact AH.le.refl _ | with_reducible apply AH.le.up | (with_reducible refine AH.le.put hw ?_ ?_; · first | omega | (simp only [up_nx, put_nx, kill_nx]; done) | (simp only [up_nx, put_nx, kill_nx]; omega)) | (with_reducible refine AH.le.kill hw ?_ ?_; · first | omega | (simp only [up_nx, put_nx, kill_nx]; done) | (simp only [up_nx, put_nx, kill_nx]; omega)))) (by repeat (first | exact Cl.p _ | exact Cl.dsl _ _ | exact Cl.any | refine Cl.tup ?_ | refine Cl.agg ?_ | exact Clo.nil | refine Clo.cons ?_ ?_)) ⟨rfl, by rw [hwr]⟩
    · have hwr : t.wrong = 3 := by rw [Ty.wrong_eq]; simp [Ty.head, k1, l, n]
      simp (disch := first | omega | simp) [iv, Ty.av, Ty.cs_g0, Ty.cs_g2, k1, l]
      unfold S_term_checkType_C2
      simp (disch := first | omega | simp) [iv, Ty.cs_g1, n]
      exact rt_one hw (by repeat (first | with_reducible assumption | with_reducible exact AH.le.refl _ | with_reducible apply AH.le.up | (with_reducible refine AH.le.put hw ?_ ?_; · first | omega | (simp only [up_nx, put_nx, kill_nx]; done) | (simp only [up_nx, put_nx, kill_nx]; omega)) | (with_reducible refine AH.le.kill hw ?_ ?_; · first | omega | (simp only [up_nx, put_nx, kill_nx]; done) | (simp only [up_nx, put_nx, kill_nx]; omega)))) (by repeat (first | exact Cl.p _ | exact Cl.dsl _ _ | exact Cl.any | refine Cl.tup ?_ | refine Cl.agg ?_ | exact Clo.nil | refine Clo.cons ?_ ?_)) ⟨rfl, by rw [hwr]⟩
    · have hwr : t.wrong = 3 := by rw [Ty.wrong_eq]; simp [Ty.head, k1, l, n]
      have n1 : ¬ t.num < 0 := by omega
      simp (disch := first | omega | simp) [iv, Ty.av, Ty.cs_g0, Ty.cs_g2, k1, l]
      unfold S_term_checkType_C2
      simp (disch := first | omega | simp) [iv, Ty.cs_g1, n, n1]
      exact rt_one hw (by repeat (first | with_reducible assumption | with_reducible exact AH.le.refl _ | with_reducible apply AH.le.up | (with_reducible refine AH.le.put hw ?_ ?_; · first | omega | (simp only [up_nx, put_nx, kill_nx]; done) | (simp only [up_nx, put_nx, kill_nx]; omega)) | (with_reducible refine AH.le.kill hw ?_ ?_; · first | omega | (simp only [up_nx, put_nx, kill_nx]; done) | (simp only [up_nx, put_nx, kill_nx]; omega)))) (by repeat (first | exact Cl.p _ | exact Cl.dsl _ _ | exact Cl.any | refine Cl.tup ?_ | refine Cl.agg ?_ | exact Clo.nil | refine Clo.cons ?_ ?_)) ⟨rfl, by rw [hwr]⟩
    · have hwr : t.wrong = 3 := by rw [Ty.wrong_eq]; simp [Ty.head, k1, l, n]
      simp (disch := first | omega | simp) [iv, Ty.av, Ty.cs_g0, Ty.cs_g2, k1, l]
      unfold S_term_checkType_C2
      simp (disch := first | omega | simp) [iv, Ty.cs_g1, n]
      exact rt_one hw (by repeat (first | with_reducible assumption | with_reducible exact AH.le.refl _ | with_reducible apply AH.le.up | (with_reducible refine AH.le.put hw ?_ ?_; · first | omega | (simp only [up_nx, put_nx, kill_nx]; done) | (simp only [up_nx, put_nx, kill_nx]; omega)) | (with_reducible refine AH.le.kill hw ?_ ?_; · first | omega | (simp only [up_nx, put_nx, kill_nx]; done) | (simp only [up_nx, put_nx, kill_nx]; omega)))) (by repeat (first | exact Cl.p _ | exact Cl.dsl _ _ | exact Cl.any | refine Cl.tup ?_ | refine Cl.agg ?_ | exact Clo.nil | refine Clo.cons ?_ ?_)) ⟨rfl, by rw [hwr]⟩
    · have hwr : t.wrong = 3 := by rw [Ty.wrong_eq]; simp [Ty.head, k1, l, n]
      have n1 : ¬ t.num < 0 := by omega
      simp (disch := first | omega | simp) [iv, Ty.av, Ty.cs_g0, Ty.cs_g2, k1, l]
      unfold S_term_checkType_C2
      simp (disch := first | omega | simp) [iv, Ty.cs_g1, n, n1]
      exact rt_one hw (by repeat (first | with_reducible assumption | with_reducible exact AH.le.refl _ | with_reducible apply AH.le.up | (with_reducible refine AH.le.put hw ?_ ?_; · first | omega | (simp only [up_nx, put_nx, kill_nx]; done) | (simp only [up_nx, put_nx, kill_nx]; omega)) | (with_reducible refine AH.le.kill hw ?_ ?_; · first | omega | (simp only [up_nx, put_nx, kill_nx]; done) | (simp only [up_nx, put_nx, kill_nx]; omega)))) (by repeat (first | exact Cl.p _ | exact Cl.dsl _ _ | exact Cl.any | refine Cl.tup ?_ | refine Cl.agg ?_ | exact Clo.nil | refine Clo.cons ?_ ?_)) ⟨rfl, by rw [hwr]⟩
    · have hwr : t.wrong = 3 := by rw [Ty.wrong_eq]; simp [Ty.head, k1, l, n]
      have n1 : ¬ t.num < 0 := by omega
      have n3 : ¬ 9 < t.num := by omega
      simp (disch := first | omega | simp) [iv, Ty.av, Ty.cs_g0, Ty.cs_g2, k1, l]
      unfold S_term_checkType_C2
      simp (disch := first | omega | simp) [iv, Ty.cs_g0, Ty.cs_g1, k1, n, n1, n3]
      exact rt_one hw (by repeat (first | with_reducible assumption | with_reducible exact AH.le.refl _ | with_reducible apply AH.le.up | (with_reducible refine AH.le.put hw ?_ ?_; · first | omega | (simp only [up_nx, put_nx, kill_nx]; done) | (simp only [up_nx, put_nx, kill_nx]; omega)) | (with_reducible refine AH.le.kill hw ?_ ?_; · first | omega | (simp only [up_nx, put_nx, kill_nx]; done) | (simp only [up_nx, put_nx, kill_nx]; omega)))) (by repeat (first | exact Cl.p _ | exact Cl.dsl _ _ | exact Cl.any | refine Cl.tup ?_ | refine Cl.agg ?_ | exact Clo.nil | refine Clo.cons ?_ ?_)) ⟨rfl, by rw [hwr]⟩
    · have n1 : ¬ t.num < 0 := by omega
      have n3 : ¬ 9 < t.num := by omega
      have hwr : t.wrong = Ty.wrongs t.kids := by rw [Ty.wrong_eq]; simp [Ty.head, k1, l, n1, n3]
      simp (disch := first | omega | simp) [iv, Ty.av, Ty.cs_g0, Ty.cs_g2, k1, l]
      unfold S_term_checkType_C2
      simp (disch := first | omega | simp) [iv, Ty.cs_g0, Ty.cs_g1, Ty.cs_g2, k1, l, n, n1, n3]
      rw [hwr]
      exact checkTy_loop (by simp [l]) hw (by repeat (first | with_reducible assumption | with_reducible exact AH.le.refl _ | with_reducible apply AH.le.up | (with_reducible refine AH.le.put hw ?_ ?_; · first | omega | (simp only [up_nx, put_nx, kill_nx]; done) | (simp only [up_nx, put_nx, kill_nx]; omega)) | (with_reducible refine AH.le.kill hw ?_ ?_; · first | omega | (simp only [up_nx, put_nx, kill_nx]; done) | (simp only [up_nx, put_nx, kill_nx]; omega)))) (by first | omega | (simp only [up_nx, put_nx]; done) | (simp only [up_nx, put_nx]; omega)) (by omega) hk
    · rcases k1 with ⟨k1, l⟩ | ⟨k1, l⟩
      all_goals
      have hwr : t.wrong = Ty.wrongs t.kids := by rw [Ty.wrong_eq]; simp [Ty.head, k1, l, n]
      simp (disch := first | omega | simp) [iv, Ty.av, Ty.cs_g0, Ty.cs_g2, k1, l]
      unfold S_term_checkType_C2
      simp (disch := first | omega | simp) [iv, Ty.cs_g1, Ty.cs_g2, l, n]
      rw [hwr]
      exact checkTy_loop (by simp [l]) hw (by repeat (first | with_reducible assumption | with_reducible exact AH.le.refl _ | with_reducible apply AH.le.up | (with_reducible refine AH.le.put hw ?_ ?_; · first | omega | (simp only [up_nx, put_nx, kill_nx]; done) | (simp only [up_nx, put_nx, kill_nx]; omega)) | (with_reducible refine AH.le.kill hw ?_ ?_; · first | omega | (simp only [up_nx, put_nx, kill_nx]; done) | (simp only [up_nx, put_nx, kill_nx]; omega)))) (by first | omega | (simp only [up_nx, put_nx]; done) | (simp only [up_nx, put_nx]; omega)) (by omega) hk
set_option maxHeartbeats 2000000 in
theorem c_typeWrong (N : Nat) : ∀ t : Ty, t.size ≤ N → ∀ H : AH, Tri Try.prog 43 [t.av] H (fun r H' => H' = H ∧ r = iv t.wrong) := by
  induction N with
  | zero => intro t ht; have := t.size_pos; omega
  | succ N ih =>
    intro t ht H
    refine tri_wf fun hw => tri_lenA 0 2 rfl t.cs_g2 fun hl => tri_wordhoardref_typeWrong ?_
    have hml : maxLen = 9223372036854775807 := by decide
    rw [List.length_map] at hl
    have hsz := t.size_eq
    have hk : ∀ x ∈ t.kids, ∀ H, Tri Try.prog 43 [x.av] H (fun r H' => H' = H ∧ r = iv x.wrong) := fun x hx H => ih x (by have := Ty.sizes_mem hx; omega) H
    unfold S_wordhoardref_typeWrong
    refine Ty.head_cases t _ (fun k1 k2 => ?_) (fun k1 l => ?_) (fun k1 l => ?_) (fun k1 l n => ?_) (fun k1 l n => ?_) (fun k1 l n => ?_) (fun k1 l n => ?_) (fun k1 l n n2 => ?_) (fun k1 l n n2 => ?_) (fun k1 n => ?_)
    · have hwr : t.wrong = 4 := by rw [Ty.wrong_eq]; simp [Ty.head, k1, k2]
      simp (disch := first | omega | simp) [iv, Ty.av, Ty.cs_g0, k1, k2]
      exact rt_one hw (by repeat (first | with_reducible assumption | with_reducible exact AH.le.refl _ | with_reducible apply AH.le.up | (with_reducible refine AH.le.put hw ?_ ?_; · first | omega | (simp only [up_nx, put_nx, kill_nx]; done) | (simp only [up_nx, put_nx, kill_nx]; omega)) | (with_reducible refine AH.le.kill hw ?_ ?_; · first | omega | (simp only [up_nx, put_nx, kill_nx]; done) | (simp only [up_nx, put_nx, kill_nx]; omega)))) (by repeat (first | exact Cl.p _ | exact Cl.dsl _ _ | exact Cl.any | refine Cl.tup ?_ | refine Cl.agg ?_ | exact Clo.nil | refine Clo.cons ?_ ?_)) ⟨rfl, by rw [hwr]⟩
    · have hwr : t.wrong = 1 := by rw [Ty.wrong_eq]; simp [Ty.head, k1, l]
      have l2 : ¬ ((t.kids.length : Int) = 0) := by omega
      have l3 : 0 < t.kids.length := by omega
      simp (disch := first | omega | simp) [iv, Ty.av, Ty.cs_g0, k1]
      unfold S_wordhoardref_typeWrong_C3
      simp (disch := first | omega | simp) [iv, Ty.cs_g0, Ty.cs_g2, k1, l3]
      exact rt_one hw (by repeat (first | with_reducible assumption | with_reducible exact AH.le.refl _ | with_reducible apply AH.le.up | (with_reducible refine AH.le.put hw ?_ ?_; · first | omega | (simp only [up_nx, put_nx, kill_nx]; done) | (simp only [up_nx, put_nx, kill_nx]; omega)) | (with_reducible refine AH.le.kill hw ?_ ?_; · first | omega | (simp only [up_nx, put_nx, kill_nx]; done) | (simp only [up_nx, put_nx, kill_nx]; omega)))) (by repeat (first | exact Cl.p _ | exact Cl.dsl _ _ | exact Cl.any | refine Cl.tup ?_ | refine Cl.agg ?_ | exact Clo.nil | refine Clo.cons ?_ ?_)) ⟨rfl, by rw [hwr]⟩
    · have l2 : ¬ ((t.kids.length : Int) = 2) := by omega
      have hwr : t.wrong = 1 := by rw [Ty.wrong_eq]; simp [Ty.head, k1, l2]
      simp (disch := first | omega | simp) [iv, Ty.av, Ty.cs_g0, k1]
      unfold S_wordhoardref_typeWrong_C3
      simp (disch := first | omega | simp) [iv, Ty.cs_g0, Ty.cs_g2, k1, l2]
      exact rt_one hw (by repeat (first | with_reducible assumption | with_reducible exact AH.le.refl _ | with_reducible apply AH.le.up | (with_reducible refine AH.le.put hw ?_ ?_; · first | omega | (simp only [up_nx, put_nx, kill_nx]; done) | (simp only [up_nx, put_nx, kill_nx]; omega)) | (with_reducible refine AH.le.kill hw ?_ ?_; · first | omega | (simp only [up_nx, put_nx, kill_nx]; done) | (simp only [up_nx, put_nx, kill_nx]; omega)))) (by repeat (first | exact Cl.p _ | exact Cl.dsl _ _ | exact Cl.any | refine Cl.tup ?_ | refine Cl.agg ?_ | exact Clo.nil | refine Clo.cons ?_ ?_)) ⟨rfl, by rw [hwr]⟩
    · have hwr : t.wrong = 3 := by rw [Ty.wrong_eq]; simp [Ty.head, k1, l, n]
      simp (disch := first | omega | simp) [iv, Ty.av, Ty.cs_g0, k1]
      unfold S_wordhoardref_typeWrong_C3
      simp (disch := first | omega | simp) [iv, Ty.cs_g0, Ty.cs_g2, k1, l]
      unfold S_wordhoardref_typeWrong_C2
      simp (disch := first | omega | simp) [iv, Ty.cs_g1, n]
      exact rt_one hw (by repeat (first | with_reducible assumption | with_reducible exact AH.le.refl _ | with_reducible apply AH.le.up | (with_reducible refine AH.le.put hw ?_ ?_; · first | omega | (simp only [up_nx, put_nx, kill_nx]; done) | (simp only [up_nx, put_nx, kill_nx]; omega)) | (with_reducible refine AH.le.kill hw ?_ ?_; · first | omega | (simp only [up_nx, put_nx, kill_nx]; done) | (simp only [up_nx, put_nx, kill_nx]; omega)))) (by repeat (first | exact Cl.p _ | exact Cl.dsl _ _ | exact Cl.any | refine Cl.tup ?_ | refine Cl.agg ?_ | exact Clo.nil | refine Clo.cons ?_ ?_)) ⟨rfl, by rw [hwr]⟩
    · have hwr : t.wrong = 3 := by rw [Ty.wrong_eq]; simp [Ty.head, k1, l, n]
      have n1 : ¬ t.num < 0 := by omega
      simp (disch := first | omega | simp) [iv, Ty.av, Ty.cs_g0, k1]
      unfold S_wordhoardref_typeWrong_C3
      simp (disch := first | omega | simp) [iv, Ty.cs_g0, Ty.cs_g2, k1, l]
      unfold S_wordhoardref_typeWrong_C2
      simp (disch := first | omega | simp) [iv, Ty.cs_g1, n, n1]
      exact rt_one hw (by repeat (first | with_reducible assumption | with_reducible exact AH.le.refl _ | with_reducible apply AH.le.up | (with_reducible refine AH.le.put hw ?_ ?_; · first | omega | (simp only [up_nx, put_nx, kill_nx]; done) | (simp only [up_nx, put_nx, kill_nx]; omega)) | (with_reducible refine AH.le.kill hw ?_ ?_; · first | omega | (simp only [up_nx, put_nx, kill_nx]; done) | (simp only [up_nx, put_nx, kill_nx]; omega)))) (by repeat (first | exact Cl.p _ | exact Cl.dsl _ _ | exact Cl.any | refine Cl.tup ?_ | refine Cl.agg ?_ | exact Clo.nil | refine Clo.cons ?_ ?_)) ⟨rfl, by rw [hwr]⟩
    · have hwr : t.wrong = 3 := by rw [Ty.wrong_eq]; simp [Ty.head, k1, l, n]
      simp (disch := first | omega | simp) [iv, Ty.av, Ty.cs_g0, k1]
      unfold S_wordhoardref_typeWrong_C3
      simp (disch := first | omega | simp) [iv, Ty.cs_g0, Ty.cs_g2, k1, l]
      unfold S_wordhoardref_typeWrong_C2
      simp (disch := first | omega | simp) [iv, Ty.cs_g1, n]
      exact rt_one hw (by repeat (first | with_reducible assumption | with_reducible exact AH.le.refl _ | with_reducible apply AH.le.up | (with_reducible refine AH.le.put hw ?_ ?_; · first | omega | (simp only [up_nx, put_nx, kill_nx]; done) | (simp only [up_nx, put_nx, kill_nx]; omega)) | (with_reducible refine AH.le.kill hw ?_ ?_; · first | omega | (simp only [up_nx, put_nx, kill_nx]; done) | (simp only [up_nx, put_nx, kill_nx]; omega)))) (by repeat (first | exact Cl.p _ | exact Cl.dsl _ _ | exact Cl.any | refine Cl.tup ?_ | refine Cl.agg ?_ | exact Clo.nil | refine Clo.cons ?_ ?_)) ⟨rfl, by rw [hwr]⟩
    · have hwr : t.wrong = 3 := by rw [Ty.wrong_eq]; simp [Ty.head, k1, l, n]
      have n1 : ¬ t.num < 0 := by omega
      simp (disch := first | omega | simp) [iv, Ty.av, Ty.cs_g0, k1]
      unfold S_wordhoardref_typeWrong_C3
      simp (disch := first | omega | simp) [iv, Ty.cs_g0, Ty.cs_g2, k1, l]
      unfold S_wordhoardref_typeWrong_C2
      simp (disch := first | omega | simp) [iv, Ty.cs_g1, n, n1]
      exact rt_one hw (by repeat (first | with_reducible assumption | with_reducible exact AH.le.refl _ | with_reducible apply AH.le.up | (with_reducible refine AH.le.put hw ?_ ?_; · first | omega | (simp only [up_nx, put_nx, kill_nx]; done) | (simp only [up_nx, put_nx, kill_nx]; omega)) | (with_reducible refine AH.le.kill hw ?_ ?_; · first | omega | (simp only [up_nx, put_nx, kill_nx]; done) | (simp only [up_nx, put_nx, kill_nx]; omega)))) (by repeat (first | exact Cl.p _ | exact Cl.dsl _ _ | exact Cl.any | refine Cl.tup ?_ | refine Cl.agg ?_ | exact Clo.nil | refine Clo.cons ?_ ?_)) ⟨rfl, by rw [hwr]⟩
    · have hwr : t.wrong = 3 := by rw [Ty.wrong_eq]; simp [Ty.head, k1, l, n]
      have n1 : ¬ t.num < 0 := by omega
      have n3 : ¬ 9 < t.num := by omega
      simp (disch := first | omega | simp) [iv, Ty.av, Ty.cs_g0, k1]
      unfold S_wordhoardref_typeWrong_C3
      simp (disch := first | omega | simp) [iv, Ty.cs_g0, Ty.cs_g2, k1, l]
      unfold S_wordhoardref_typeWrong_C2
      simp (disch := first | omega | simp) [iv, Ty.cs_g0, Ty.cs_g1, k1, n, n1, n3]
      exact rt_one hw (by repeat (first | with_reducible assumption | with_reducible exact AH.le.refl _ | with_reducible apply AH.le.up | (with_reducible refine AH.le.put hw ?_ ?_; · first | omega | (simp only [up_nx, put_nx, kill_nx]; done) | (simp only [up_nx, put_nx, kill_nx]; omega)) | (with_reducible refine AH.le.kill hw ?_ ?_; · first | omega | (simp only [up_nx, put_nx, kill_nx]; done) | (simp only [up_nx, put_nx, kill_nx]; omega)))) (by repeat (first | exact Cl.p _ | exact Cl.dsl _ _ | exact Cl.any | refine Cl.tup ?_ | refine Cl.agg ?_ | exact Clo.nil | refine Clo.cons ?_ ?_)) ⟨rfl, by rw [hwr]⟩
    · have n1 : ¬ t.num < 0 := by omega
      have n3 : ¬ 9 < t.num := by omega
      have hwr : t.wrong = Ty.wrongs t.kids := by rw [Ty.wrong_eq]; simp [Ty.head, k1, l, n1, n3]
      simp (disch := first | omega | simp) [iv, Ty.av, Ty.cs_g0, k1]
      unfold S_wordhoardref_typeWrong_C3
      simp (disch := first | omega | simp) [iv, Ty.cs_g0, Ty.cs_g2, k1, l]
      unfold S_wordhoardref_typeWrong_C2
      simp (disch := first | omega | simp) [iv, Ty.cs_g0, Ty.cs_g1, k1, n1, n3]
      rw [hwr]
      exact typeWrong_loop (put_get _ _) hw (by repeat (first | with_reducible assumption | with_reducible exact AH.le.refl _ | with_reducible apply AH.le.up | (with_reducible refine AH.le.put hw ?_ ?_; · first | omega | (simp only [up_nx, put_nx, kill_nx]; done) | (simp only [up_nx, put_nx, kill_nx]; omega)) | (with_reducible refine AH.le.kill hw ?_ ?_; · first | omega | (simp only [up_nx, put_nx, kill_nx]; done) | (simp only [up_nx, put_nx, kill_nx]; omega)))) (by first | omega | (simp only [up_nx, put_nx]; done) | (simp only [up_nx, put_nx]; omega)) (by omega) hk
    · rcases k1 with ⟨k1, l⟩ | ⟨k1, l⟩
      all_goals
      have hwr : t.wrong = Ty.wrongs t.kids := by rw [Ty.wrong_eq]; simp [Ty.head, k1, l, n]
      simp (disch := first | omega | simp) [iv, Ty.av, Ty.cs_g0, k1]
      unfold S_wordhoardref_typeWrong_C3
      simp (disch := first | omega | simp) [iv, Ty.cs_g0, Ty.cs_g2, k1, l]
      unfold S_wordhoardref_typeWrong_C2
      simp (disch := first | omega | simp) [iv, Ty.cs_g0, Ty.cs_g1, k1, n]
      rw [hwr]
      exact typeWrong_loop (put_get _ _) hw (by repeat (first | with_reducible assumption | with_reducible exact AH.le.refl _ | with_reducible apply AH.le.up | (with_reducible refine AH.le.put hw ?_ ?_; · first | omega | (simp only [up_nx, put_nx, kill_nx]; done) | (simp only [up_nx, put_nx, kill_nx]; omega)) | (with_reducible refine AH.le.kill hw ?_ ?_; · first | omega | (simp only [up_nx, put_nx, kill_nx]; done) | (simp only [up_nx, put_nx, kill_nx]; omega)))) (by first | omega | (simp only [up_nx, put_nx]; done) | (simp only [up_nx, put_nx]; omega)) (by omega) hk
end Go.Proofs.Ytkocpdekknfmaaa
