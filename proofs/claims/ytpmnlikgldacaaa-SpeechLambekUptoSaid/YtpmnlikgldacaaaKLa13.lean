/- Texts that the proof rests on, part 13: what each holds stands at its head. -/
import Derived.Test.YtpmnlikgldacaaaKLa12

/- Parts of speech: counting, what is wrong, which are the same: both programs. -/
namespace Go.Proofs.Ytpmnlikgldacaaa
open Go.RowKit Go.Maps
theorem c_kids (t : Ty) : PF Try.prog 70 [t.av] (.dsl 3 (t.kids.map Ty.cs)) := fun H => tri_wf fun hw => tri_speech_kids (by
  unfold S_speech_kids
  simp (disch := first | omega | simp) [Ty.av, Ty.cs_g2]
  exact rt_one hw (by repeat (first | with_reducible assumption | with_reducible exact AH.le.refl _ | with_reducible apply AH.le.up | (with_reducible refine AH.le.put hw ?_ ?_; · first | omega | (simp only [up_nx, put_nx, kill_nx]; done) | (simp only [up_nx, put_nx, kill_nx]; omega)) | (with_reducible refine AH.le.kill hw ?_ ?_; · first | omega | (simp only [up_nx, put_nx, kill_nx]; done) | (simp only [up_nx, put_nx, kill_nx]; omega)))) (by repeat (first | exact Cl.p _ | exact Cl.dsl _ _ | exact Cl.any | refine Cl.tup ?_ | refine Cl.agg ?_ | exact Clo.nil | refine Clo.cons ?_ ?_)) ⟨rfl, rfl⟩)
theorem capN_add {a s : Nat} {most : Int} (_ha : (a : Int) ≤ most) : (a : Int) + capN s (most - a) = capN (a + s) most := by
  unfold capN
  by_cases h : (s : Int) ≤ most - a
  · rw [if_pos h, if_pos (by omega)]; omega
  · rw [if_neg h, if_neg (by omega)]; omega
theorem capN_in {s : Nat} {most : Int} (h : 0 ≤ most) : 0 ≤ capN s most ∧ capN s most ≤ most + 1 := by
  unfold capN; split <;> omega
theorem capN_low {s : Nat} {most : Int} (h : (s : Int) ≤ most) : capN s most = s := by unfold capN; rw [if_pos h]
theorem capN_high {s : Nat} {most : Int} (h : ¬ (s : Int) ≤ most) : capN s most = most + 1 := by unfold capN; rw [if_neg h]
theorem tri_lenA {P : Program} {f : FuncId} {ps : List AV} {H : AH} {Q : AV → AH → Prop} (i j : Nat) {cs : List AV} {sz : Nat} {xs : List (List AV)} (hi : ps[i]? = some (.agg cs)) (hj : cs[j]? = some (.dsl sz xs)) (h : xs.length ≤ maxLen → Tri P f ps H Q) : Tri P f ps H Q := fun w S σ us hs hr => by
  obtain ⟨v, hv, hrv⟩ := hr.at_ hi
  obtain ⟨vs, rfl, h1, h2⟩ := hrv.agg_inv
  obtain ⟨u, hu, hru⟩ := h1.at_ hj
  obtain ⟨A, c, z, rfl, q1, q2, _⟩ := hru.dsl_inv.dsl_inv
  exact h (by omega) w S σ us hs hr
set_option maxHeartbeats 1000000 in
theorem c_CountTy (N : Nat) : ∀ t : Ty, t.size ≤ N → ∀ (most : Int) (H : AH), 0 ≤ most → most ≤ 1000000 → Tri Try.prog 69 [t.av, .fn (.func 70) [] [], iv most] H (fun r H' => H' = H ∧ r = iv (capN t.size most)) := by
  induction N with
  | zero => intro t ht; have := t.size_pos; omega
  | succ N ih =>
    intro t ht most H h0 h1
    refine tri_wf fun hw => tri_lenA 0 2 rfl t.cs_g2 fun hl => tri_deep_Count_api_Part ?_
    have hml : maxLen = 9223372036854775807 := by decide
    rw [List.length_map] at hl
    have hsz := t.size_eq
    unfold S_deep_Count_api_Part
    simp (disch := first | omega | simp) [Ty.av, Ty.cs_len, Ty.cs_take]
    refine ca_pure (by kernel_rfl) (c_kids t _) ?_
    simp (disch := first | omega | simp) []
    refine loop_st (fun s : Int × Nat => [iv s.1, iv s.2]) (fun s H' => s.2 ≤ t.kids.length ∧ s.1 = capN (1 + Ty.sizes (t.kids.take s.2)) most ∧ H.le H' ∧ H.nx ≤ H'.nx) (fun s => t.kids.length - s.2) (1, 0) (.refl (Nat.le_refl _)) ⟨Nat.zero_le _, ?_, (by repeat (first | with_reducible assumption | with_reducible exact AH.le.refl _ | with_reducible apply AH.le.up | (with_reducible refine AH.le.put hw ?_ ?_; · first | omega | (simp only [up_nx, put_nx, kill_nx]; done) | (simp only [up_nx, put_nx, kill_nx]; omega)) | (with_reducible refine AH.le.kill hw ?_ ?_; · first | omega | (simp only [up_nx, put_nx, kill_nx]; done) | (simp only [up_nx, put_nx, kill_nx]; omega)))), (by first | omega | (simp only [up_nx, put_nx]; done) | (simp only [up_nx, put_nx]; omega))⟩ ?_
    · simp only [List.take_zero, Ty.sizes]; unfold capN; split <;> omega
    · rintro ⟨n, i⟩ H1 hn1 ⟨hi, hn, hle, hnx⟩ k hk
      dsimp only at hi hn hk
      unfold S_deep_Count_api_Part_L1
      have hsl := Ty.sizes_le t.kids i
      by_cases hil : i < t.kids.length
      · have hss := Ty.sizes_succ t.kids i hil
        have hsl2 := Ty.sizes_le t.kids (i + 1)
        obtain ⟨x, hx⟩ : ∃ x, t.kids[i]? = some x := ⟨_, List.getElem?_eq_getElem hil⟩
        have hxg : ∀ h, t.kids[i]'h = x := fun h => (List.getElem?_eq_some_iff.1 hx).2
        rw [hxg] at hss
        have hxs : x.size ≤ N := by have := Ty.sizes_mem (List.mem_of_getElem? hx); omega
        have hiv := ivn (i := i) (by omega)
        by_cases hc : ((1 + Ty.sizes (t.kids.take i) : Nat) : Int) ≤ most
        · rw [capN_low hc] at hn
          have hnm : ¬ most < n := by omega
          have hw1 : IntKind.i64.wrap (most - n) = most - n := wrapI (by omega) (by omega)
          have hcap := capN_in (s := x.size) (most := most - n) (by omega)
          have hw2 : IntKind.i64.wrap (n + capN x.size (most - n)) = n + capN x.size (most - n) := wrapI (by omega) (by omega)
          simp (disch := first | omega | simp) [iv, hil, hxg, hnm, Ty.cs_len, Ty.cs_take, hw1]
          refine ca_pure (by kernel_rfl) (ih x hxs (most - n) _ (by omega) (by omega)) ?_
          simp (disch := first | omega | simp) [iv, hw2, hiv]
          refine hk (n + capN x.size (most - n), i + 1) _ _ _ (.refl (by first | omega | (simp only [up_nx, put_nx]; done) | (simp only [up_nx, put_nx]; omega))) ⟨hil, ?_, (by repeat (first | with_reducible assumption | with_reducible exact AH.le.refl _ | with_reducible apply AH.le.up | (with_reducible refine AH.le.put hw ?_ ?_; · first | omega | (simp only [up_nx, put_nx, kill_nx]; done) | (simp only [up_nx, put_nx, kill_nx]; omega)) | (with_reducible refine AH.le.kill hw ?_ ?_; · first | omega | (simp only [up_nx, put_nx, kill_nx]; done) | (simp only [up_nx, put_nx, kill_nx]; omega)))), (by first | omega | (simp only [up_nx, put_nx]; done) | (simp only [up_nx, put_nx]; omega))⟩ (by dsimp only; omega)
          dsimp only
          rw [hn, capN_add hc, hss]
          congr 1; omega
        · rw [capN_high hc] at hn
          have hnm : most < n := by omega
          simp (disch := first | omega | simp) [iv, hil, hxg, hnm, Ty.cs_len, Ty.cs_take]
          refine rt_one hw (by repeat (first | with_reducible assumption | with_reducible exact AH.le.refl _ | with_reducible apply AH.le.up | (with_reducible refine AH.le.put hw ?_ ?_; · first | omega | (simp only [up_nx, put_nx, kill_nx]; done) | (simp only [up_nx, put_nx, kill_nx]; omega)) | (with_reducible refine AH.le.kill hw ?_ ?_; · first | omega | (simp only [up_nx, put_nx, kill_nx]; done) | (simp only [up_nx, put_nx, kill_nx]; omega)))) (by repeat (first | exact Cl.p _ | exact Cl.dsl _ _ | exact Cl.any | refine Cl.tup ?_ | refine Cl.agg ?_ | exact Clo.nil | refine Clo.cons ?_ ?_)) ⟨rfl, ?_⟩
          rw [hn, capN_high (by omega)]
      · simp (disch := first | omega | simp) [iv, hil]
        have hie : t.kids.take i = t.kids := List.take_of_length_le (by omega)
        rw [hie] at hn
        refine rt_one hw (by repeat (first | with_reducible assumption | with_reducible exact AH.le.refl _ | with_reducible apply AH.le.up | (with_reducible refine AH.le.put hw ?_ ?_; · first | omega | (simp only [up_nx, put_nx, kill_nx]; done) | (simp only [up_nx, put_nx, kill_nx]; omega)) | (with_reducible refine AH.le.kill hw ?_ ?_; · first | omega | (simp only [up_nx, put_nx, kill_nx]; done) | (simp only [up_nx, put_nx, kill_nx]; omega)))) (by repeat (first | exact Cl.p _ | exact Cl.dsl _ _ | exact Cl.any | refine Cl.tup ?_ | refine Cl.agg ?_ | exact Clo.nil | refine Clo.cons ?_ ?_)) ⟨rfl, ?_⟩
        rw [hn, hsz]
theorem c_count (t : Ty) (most : Int) (h0 : 0 ≤ most) (h1 : most ≤ 1000000) : PF Try.prog 53 [t.av, iv most] (iv (capN t.size most)) := fun H => tri_wf fun hw => tri_speech_count (by
  unfold S_speech_count
  simp (disch := first | omega | simp) [Ty.av, Ty.cs_len, Ty.cs_take]
  refine ca_pure (by kernel_rfl) (c_CountTy t.size t (Nat.le_refl _) most _ h0 h1) ?_
  exact rt_one hw (by repeat (first | with_reducible assumption | with_reducible exact AH.le.refl _ | with_reducible apply AH.le.up | (with_reducible refine AH.le.put hw ?_ ?_; · first | omega | (simp only [up_nx, put_nx, kill_nx]; done) | (simp only [up_nx, put_nx, kill_nx]; omega)) | (with_reducible refine AH.le.kill hw ?_ ?_; · first | omega | (simp only [up_nx, put_nx, kill_nx]; done) | (simp only [up_nx, put_nx, kill_nx]; omega)))) (by repeat (first | exact Cl.p _ | exact Cl.dsl _ _ | exact Cl.any | refine Cl.tup ?_ | refine Cl.agg ?_ | exact Clo.nil | refine Clo.cons ?_ ?_)) ⟨rfl, rfl⟩)
theorem Ty.wrong_eq (t : Ty) : t.wrong = if Ty.head t.kind t.num t.kids.length = 0 then Ty.wrongs t.kids else Ty.head t.kind t.num t.kids.length := by cases t; exact Ty.wrong_mk _ _ _
theorem Ty.wrongs_at {ks : List Ty} {i : Nat} {x : Ty} (h : ks[i]? = some x) : Ty.wrongs (ks.drop i) = if x.wrong = 0 then Ty.wrongs (ks.drop (i + 1)) else x.wrong := by
  obtain ⟨h1, h2⟩ := List.getElem?_eq_some_iff.1 h
  rw [Ty.wrongs_step h1, h2]
set_option maxHeartbeats 1000000 in
theorem c_RPartSize (N : Nat) : ∀ t : Ty, t.size ≤ N → ∀ (most : Int) (H : AH), 0 ≤ most → most ≤ 1000000 → Tri Try.prog 50 [t.av, iv most] H (fun r H' => H' = H ∧ r = iv (capN t.size most)) := by
  induction N with
  | zero => intro t ht; have := t.size_pos; omega
  | succ N ih =>
    intro t ht most H h0 h1
    refine tri_wf fun hw => tri_lenA 0 2 rfl t.cs_g2 fun hl => tri_wordhoardref_PartSize ?_
    have hml : maxLen = 9223372036854775807 := by decide
    rw [List.length_map] at hl
    have hsz := t.size_eq
    unfold S_wordhoardref_PartSize
    simp (disch := first | omega | simp) [Ty.av]
    refine loop_st (fun s : Int × Nat => [iv s.1, iv s.2]) (fun s H' => H' = (H.up 2).put H.nx (.box 24 t.cs) ∧ s.2 ≤ t.kids.length ∧ s.1 = capN (1 + Ty.sizes (t.kids.take s.2)) most) (fun s => t.kids.length - s.2) (1, 0) (.refl (Nat.le_refl _)) ⟨rfl, Nat.zero_le _, ?_⟩ ?_
    · simp only [List.take_zero, Ty.sizes]; unfold capN; split <;> omega
    · rintro ⟨n, i⟩ H1 hn1 ⟨rfl, hi, hn⟩ k hk
      dsimp only at hi hn hk
      unfold S_wordhoardref_PartSize_L1
      have hsl := Ty.sizes_le t.kids i
      have hcp := capN_in (s := 1 + Ty.sizes (t.kids.take i)) h0
      by_cases hil : i < t.kids.length
      · have hss := Ty.sizes_succ t.kids i hil
        have hsl2 := Ty.sizes_le t.kids (i + 1)
        obtain ⟨x, hx⟩ : ∃ x, t.kids[i]? = some x := ⟨_, List.getElem?_eq_getElem hil⟩
        have hxg : ∀ h, t.kids[i]'h = x := fun h => (List.getElem?_eq_some_iff.1 hx).2
        rw [hxg] at hss
        have hxs : x.size ≤ N := by have := Ty.sizes_mem (List.mem_of_getElem? hx); omega
        have hiv := ivn (i := i) (by omega)
        by_cases hc : ((1 + Ty.sizes (t.kids.take i) : Nat) : Int) ≤ most
        · rw [capN_low hc] at hn
          have hnm : n ≤ most := by omega
          have hw1 : IntKind.i64.wrap (most - n) = most - n := wrapI (by omega) (by omega)
          have hcap := capN_in (s := x.size) (most := most - n) (by omega)
          have hw2 : IntKind.i64.wrap (n + capN x.size (most - n)) = n + capN x.size (most - n) := wrapI (by omega) (by omega)
          simp (disch := first | omega | simp) [iv, hil, hxg, hnm, Ty.cs_len, Ty.cs_g2, Ty.cs_take, hw1]
          refine ca_pure (by kernel_rfl) (ih x hxs (most - n) _ (by omega) (by omega)) ?_
          simp (disch := first | omega | simp) [iv, hw2, hiv]
          refine hk (n + capN x.size (most - n), i + 1) _ _ _ (.refl (by first | omega | (simp only [up_nx, put_nx, kill_nx]; done) | (simp only [up_nx, put_nx, kill_nx]; omega))) ⟨rfl, hil, ?_⟩ (by dsimp only; omega)
          dsimp only
          rw [hn, capN_add hc, hss]
          congr 1; omega
        · rw [capN_high hc] at hn
          have hnm : ¬ n ≤ most := by omega
          have hnm2 : most < n := by omega
          have hw3 : IntKind.i64.wrap (most + 1) = most + 1 := wrapI (by omega) (by omega)
          simp (disch := first | omega | simp) [iv, hil, hnm, hnm2, Ty.cs_g2, hw3]
          refine rt_one hw (by repeat (first | with_reducible assumption | with_reducible exact AH.le.refl _ | with_reducible apply AH.le.up | (with_reducible refine AH.le.put hw ?_ ?_; · first | omega | (simp only [up_nx, put_nx, kill_nx]; done) | (simp only [up_nx, put_nx, kill_nx]; omega)) | (with_reducible refine AH.le.kill hw ?_ ?_; · first | omega | (simp only [up_nx, put_nx, kill_nx]; done) | (simp only [up_nx, put_nx, kill_nx]; omega)))) (by repeat (first | exact Cl.p _ | exact Cl.dsl _ _ | exact Cl.any | refine Cl.tup ?_ | refine Cl.agg ?_ | exact Clo.nil | refine Clo.cons ?_ ?_)) ⟨rfl, ?_⟩
          rw [capN_high (by omega)]
      · have hie : t.kids.take i = t.kids := List.take_of_length_le (by omega)
        rw [hie, ← hsz] at hn
        by_cases hc : (t.size : Int) ≤ most
        · have hnm : ¬ most < n := by rw [hn, capN_low hc]; omega
          simp (disch := first | omega | simp) [iv, hil, hnm, Ty.cs_g2]
          refine rt_one hw (by repeat (first | with_reducible assumption | with_reducible exact AH.le.refl _ | with_reducible apply AH.le.up | (with_reducible refine AH.le.put hw ?_ ?_; · first | omega | (simp only [up_nx, put_nx, kill_nx]; done) | (simp only [up_nx, put_nx, kill_nx]; omega)) | (with_reducible refine AH.le.kill hw ?_ ?_; · first | omega | (simp only [up_nx, put_nx, kill_nx]; done) | (simp only [up_nx, put_nx, kill_nx]; omega)))) (by repeat (first | exact Cl.p _ | exact Cl.dsl _ _ | exact Cl.any | refine Cl.tup ?_ | refine Cl.agg ?_ | exact Clo.nil | refine Clo.cons ?_ ?_)) ⟨rfl, ?_⟩
          rw [hn]
        · have hnm : most < n := by rw [hn, capN_high hc]; omega
          have hw3 : IntKind.i64.wrap (most + 1) = most + 1 := wrapI (by omega) (by omega)
          simp (disch := first | omega | simp) [iv, hil, hnm, Ty.cs_g2, hw3]
          refine rt_one hw (by repeat (first | with_reducible assumption | with_reducible exact AH.le.refl _ | with_reducible apply AH.le.up | (with_reducible refine AH.le.put hw ?_ ?_; · first | omega | (simp only [up_nx, put_nx, kill_nx]; done) | (simp only [up_nx, put_nx, kill_nx]; omega)) | (with_reducible refine AH.le.kill hw ?_ ?_; · first | omega | (simp only [up_nx, put_nx, kill_nx]; done) | (simp only [up_nx, put_nx, kill_nx]; omega)))) (by repeat (first | exact Cl.p _ | exact Cl.dsl _ _ | exact Cl.any | refine Cl.tup ?_ | refine Cl.agg ?_ | exact Clo.nil | refine Clo.cons ?_ ?_)) ⟨rfl, ?_⟩
          rw [capN_high hc]
theorem checkTy_loop {H H1 : AH} {t : Ty} {m : Int} (hm : m = (t.kids.length : Int)) (hw : WF H) (hle : H.le H1) (hn : H.nx ≤ H1.nx) (hl : t.kids.length ≤ 9223372036854775806) (ih : ∀ x ∈ t.kids, ∀ H, Tri Try.prog 54 [x.av] H (fun r H' => H' = H ∧ r = iv x.wrong)) :
    LoopA Try.prog 1 (S_speech_check_L1 (fun r H' => H' = H ∧ r = iv (Ty.wrongs t.kids)) H (.dsl 3 (t.kids.map Ty.cs)) (iv m)) [iv 0] H1 := by
  subst hm
  refine loop_st (fun i : Nat => [iv i]) (fun i H' => H.le H' ∧ H.nx ≤ H'.nx ∧ i ≤ t.kids.length ∧ Ty.wrongs t.kids = Ty.wrongs (t.kids.drop i)) (fun i => t.kids.length - i) 0 (.refl (Nat.le_refl _)) ⟨hle, hn, Nat.zero_le _, by simp⟩ ?_
  rintro i H2 hn2 ⟨hle2, hn3, hi, hwr⟩ k hk
  unfold S_speech_check_L1
  by_cases hil : i < t.kids.length
  · obtain ⟨x, hx⟩ : ∃ x, t.kids[i]? = some x := ⟨_, List.getElem?_eq_getElem hil⟩
    have hxg : ∀ h, t.kids[i]'h = x := fun h => (List.getElem?_eq_some_iff.1 hx).2
    have hiv := ivn (i := i) (by omega)
    rw [Ty.wrongs_at hx] at hwr
    simp (disch := first | omega | simp) [iv, hil, hxg, Ty.cs_len, Ty.cs_take]
    refine ca_pure (by kernel_rfl) (ih x (List.mem_of_getElem? hx) _) ?_
    by_cases h0 : x.wrong = 0
    · rw [if_pos h0] at hwr
      simp (disch := first | omega | simp) [iv, h0, hiv]
      exact hk (i + 1) _ _ _ (.refl (by first | omega | (simp only [up_nx, put_nx]; done) | (simp only [up_nx, put_nx]; omega))) ⟨(by repeat (first | with_reducible assumption | with_reducible exact AH.le.refl _ | with_reducible apply AH.le.up | (with_reducible refine AH.le.put hw ?_ ?_; · first | omega | (simp only [up_nx, put_nx, kill_nx]; done) | (simp only [up_nx, put_nx, kill_nx]; omega)) | (with_reducible refine AH.le.kill hw ?_ ?_; · first | omega | (simp only [up_nx, put_nx, kill_nx]; done) | (simp only [up_nx, put_nx, kill_nx]; omega)))), (by first | omega | (simp only [up_nx, put_nx]; done) | (simp only [up_nx, put_nx]; omega)), hil, hwr⟩ (by omega)
    · rw [if_neg h0] at hwr
      simp (disch := first | omega | simp) [iv, h0]
      exact rt_one hw (by repeat (first | with_reducible assumption | with_reducible exact AH.le.refl _ | with_reducible apply AH.le.up | (with_reducible refine AH.le.put hw ?_ ?_; · first | omega | (simp only [up_nx, put_nx, kill_nx]; done) | (simp only [up_nx, put_nx, kill_nx]; omega)) | (with_reducible refine AH.le.kill hw ?_ ?_; · first | omega | (simp only [up_nx, put_nx, kill_nx]; done) | (simp only [up_nx, put_nx, kill_nx]; omega)))) (by repeat (first | exact Cl.p _ | exact Cl.dsl _ _ | exact Cl.any | refine Cl.tup ?_ | refine Cl.agg ?_ | exact Clo.nil | refine Clo.cons ?_ ?_)) ⟨rfl, by rw [hwr]⟩
  · rw [Ty.wrongs_end (by omega)] at hwr
    simp (disch := first | omega | simp) [iv, hil]
    exact rt_one hw (by repeat (first | with_reducible assumption | with_reducible exact AH.le.refl _ | with_reducible apply AH.le.up | (with_reducible refine AH.le.put hw ?_ ?_; · first | omega | (simp only [up_nx, put_nx, kill_nx]; done) | (simp only [up_nx, put_nx, kill_nx]; omega)) | (with_reducible refine AH.le.kill hw ?_ ?_; · first | omega | (simp only [up_nx, put_nx, kill_nx]; done) | (simp only [up_nx, put_nx, kill_nx]; omega)))) (by repeat (first | exact Cl.p _ | exact Cl.dsl _ _ | exact Cl.any | refine Cl.tup ?_ | refine Cl.agg ?_ | exact Clo.nil | refine Clo.cons ?_ ?_)) ⟨rfl, by rw [hwr]⟩
theorem typeWrong_loop {H H1 : AH} {t : Ty} {b : Nat} {tt : TypeId} (hb : H1.get b = some (.box tt t.cs)) (hw : WF H) (hle : H.le H1) (_hn : H.nx ≤ H1.nx) (hl : t.kids.length ≤ 9223372036854775806) (ih : ∀ x ∈ t.kids, ∀ H, Tri Try.prog 51 [x.av] H (fun r H' => H' = H ∧ r = iv x.wrong)) :
    LoopA Try.prog 1 (S_wordhoardref_partWrong_L1 (fun r H' => H' = H ∧ r = iv (Ty.wrongs t.kids)) H (.ptr b 0)) [iv 0] H1 := by
  refine loop_st (fun i : Nat => [iv i]) (fun i H' => H1 = H' ∧ i ≤ t.kids.length ∧ Ty.wrongs t.kids = Ty.wrongs (t.kids.drop i)) (fun i => t.kids.length - i) 0 (.refl (Nat.le_refl _)) ⟨rfl, Nat.zero_le _, by simp⟩ ?_
  rintro i H2 hn2 ⟨rfl, hi, hwr⟩ k hk
  unfold S_wordhoardref_partWrong_L1
  by_cases hil : i < t.kids.length
  · obtain ⟨x, hx⟩ : ∃ x, t.kids[i]? = some x := ⟨_, List.getElem?_eq_getElem hil⟩
    have hxg : ∀ h, t.kids[i]'h = x := fun h => (List.getElem?_eq_some_iff.1 hx).2
    have hiv := ivn (i := i) (by omega)
    rw [Ty.wrongs_at hx] at hwr
    simp (disch := first | omega | simp) [iv, hil, hxg, Ty.cs_len, Ty.cs_g2, Ty.cs_take, hb]
    refine ca_pure (by kernel_rfl) (ih x (List.mem_of_getElem? hx) _) ?_
    by_cases h0 : x.wrong = 0
    · rw [if_pos h0] at hwr
      simp (disch := first | omega | simp) [iv, h0, hiv]
      exact hk (i + 1) _ _ _ (.refl (by first | omega | (simp only [up_nx, put_nx, kill_nx]; done) | (simp only [up_nx, put_nx, kill_nx]; omega))) ⟨rfl, hil, hwr⟩ (by omega)
    · rw [if_neg h0] at hwr
      simp (disch := first | omega | simp) [iv, h0]
      exact rt_one hw (by repeat (first | with_reducible assumption | with_reducible exact AH.le.refl _ | with_reducible apply AH.le.up | (with_reducible refine AH.le.put hw ?_ ?_; · first | omega | (simp only [up_nx, put_nx, kill_nx]; done) | (simp only [up_nx, put_nx, kill_nx]; omega)) | (with_reducible refine AH.le.kill hw ?_ ?_; · first | omega | (simp only [up_nx, put_nx, kill_nx]; done) | (simp only [up_nx, put_nx, kill_nx]; omega)))) (by repeat (first | exact Cl.p _ | exact Cl.dsl _ _ | exact Cl.any | refine Cl.tup ?_ | refine Cl.agg ?_ | exact Clo.nil | refine Clo.cons ?_ ?_)) ⟨rfl, by rw [hwr]⟩
  · rw [Ty.wrongs_end (by omega)] at hwr
    simp (disch := first | omega | simp) [iv, hil, Ty.cs_g2, hb]
    exact rt_one hw (by repeat (first | with_reducible assumption | with_reducible exact AH.le.refl _ | with_reducible apply AH.le.up | (with_reducible refine AH.le.put hw ?_ ?_; · first | omega | (simp only [up_nx, put_nx, kill_nx]; done) | (simp only [up_nx, put_nx, kill_nx]; omega)) | (with_reducible refine AH.le.kill hw ?_ ?_; · first | omega | (simp only [up_nx, put_nx, kill_nx]; done) | (simp only [up_nx, put_nx, kill_nx]; omega)))) (by repeat (first | exact Cl.p _ | exact Cl.dsl _ _ | exact Cl.any | refine Cl.tup ?_ | refine Cl.agg ?_ | exact Clo.nil | refine Clo.cons ?_ ?_)) ⟨rfl, by rw [hwr]⟩
theorem Ty.head_cases (t : Ty) (P : Prop) (h1 : t.kind < 1 → P) (h1b : 3 < t.kind → P) (h2 : t.kind = 1 → t.kids.length ≠ 0 → P) (h3 : t.kind = 2 → t.kids.length ≠ 2 → P) (h3b : t.kind = 3 → t.kids.length ≠ 2 → P)
    (h4 : t.kind = 1 → t.kids.length = 0 → t.num < 0 → P) (h5 : t.kind = 1 → t.kids.length = 0 → 9 < t.num → P) (h6 : t.kind = 1 → t.kids.length = 0 → 0 ≤ t.num → t.num ≤ 9 → P)
    (h7 : t.kind = 2 ∨ t.kind = 3 → t.kids.length = 2 → t.num < 0 → P) (h8 : t.kind = 2 ∨ t.kind = 3 → t.kids.length = 2 → 0 < t.num → t.num ≤ 9 → P) (h8b : t.kind = 2 ∨ t.kind = 3 → t.kids.length = 2 → 9 < t.num → P) (h9 : t.kind = 2 ∨ t.kind = 3 → t.kids.length = 2 → t.num = 0 → P) : P := by
  by_cases k1 : t.kind < 1
  · exact h1 k1
  by_cases k2 : 3 < t.kind
  · exact h1b k2
  have : t.kind = 1 ∨ t.kind = 2 ∨ t.kind = 3 := by omega
  rcases this with k | k | k
  · by_cases l : t.kids.length = 0
    · by_cases n1 : t.num < 0
      · exact h4 k l n1
      · by_cases n2 : 9 < t.num
        · exact h5 k l n2
        · exact h6 k l (by omega) (by omega)
    · exact h2 k l
  all_goals
    by_cases l : t.kids.length = 2
    · by_cases n1 : t.num < 0
      · exact h7 (by omega) l n1
      · by_cases n2 : t.num = 0
        · exact h9 (by omega) l n2
        · by_cases n3 : 9 < t.num
          · exact h8b (by omega) l n3
          · exact h8 (by omega) l (by omega) (by omega)
  · exact h3 k l
  · exact h3b k l
set_option maxHeartbeats 2000000 in
theorem c_check (N : Nat) : ∀ t : Ty, t.size ≤ N → ∀ H : AH, Tri Try.prog 54 [t.av] H (fun r H' => H' = H ∧ r = iv t.wrong) := by
  induction N with
  | zero => intro t ht; have := t.size_pos; omega
  | succ N ih =>
    intro t ht H
    refine tri_wf fun hw => tri_lenA 0 2 rfl t.cs_g2 fun hl => tri_speech_check ?_
    have hml : maxLen = 9223372036854775807 := by decide
    rw [List.length_map] at hl
    have hsz := t.size_eq
    have hk : ∀ x ∈ t.kids, ∀ H, Tri Try.prog 54 [x.av] H (fun r H' => H' = H ∧ r = iv x.wrong) := fun x hx H => ih x (by have := Ty.sizes_mem hx; omega) H
    unfold S_speech_check
    refine Ty.head_cases t _ (fun k1 => ?_) (fun k1 => ?_) (fun k1 l => ?_) (fun k1 l => ?_) (fun k1 l => ?_) (fun k1 l n => ?_) (fun k1 l n => ?_) (fun k1 l n n2 => ?_) (fun k1 l n => ?_) (fun k1 l n n2 => ?_) (fun k1 l n => ?_) (fun k1 l n => ?_)
    · have q1 : ¬ t.kind = 1 := by omega
      have q2 : ¬ t.kind = 2 := by omega
      have q3 : ¬ t.kind = 3 := by omega
      have hwr : t.wrong = 4 := by rw [Ty.wrong_eq]; simp [Ty.head, k1]
      simp (disch := first | omega | simp) [Ty.av]
      refine cut_st (fun _ : Unit => []) (fun _ _ => False) (fun k hk2 => ?_) (fun _ _ _ h => h.elim)
      simp (disch := first | omega | simp) [iv, Ty.cs_g0, q1, q2, q3]
      exact rt_one hw (by repeat (first | with_reducible assumption | with_reducible exact AH.le.refl _ | with_reducible apply AH.le.up | (with_reducible refine AH.le.put hw ?_ ?_; · first | omega | (simp only [up_nx, put_nx, kill_nx]; done) | (simp only [up_nx, put_nx, kill_nx]; omega)) | (with_reducible refine AH.le.kill hw ?_ ?_; · first | omega | (simp only [up_nx, put_nx, kill_nx]; done) | (simp only [up_nx, put_nx, kill_nx]; omega)))) (by repeat (first | exact Cl.p _ | exact Cl.dsl _ _ | exact Cl.any | refine Cl.tup ?_ | refine Cl.agg ?_ | exact Clo.nil | refine Clo.cons ?_ ?_)) ⟨rfl, by rw [hwr]⟩
    · have q0 : ¬ t.kind < 1 := by omega
      have q1 : ¬ t.kind = 1 := by omega
      have q2 : ¬ t.kind = 2 := by omega
      have q3 : ¬ t.kind = 3 := by omega
      have hwr : t.wrong = 4 := by rw [Ty.wrong_eq]; simp [Ty.head, k1, q0]
      simp (disch := first | omega | simp) [Ty.av]
      refine cut_st (fun _ : Unit => []) (fun _ _ => False) (fun k hk2 => ?_) (fun _ _ _ h => h.elim)
      simp (disch := first | omega | simp) [iv, Ty.cs_g0, q1, q2, q3]
      exact rt_one hw (by repeat (first | with_reducible assumption | with_reducible exact AH.le.refl _ | with_reducible apply AH.le.up | (with_reducible refine AH.le.put hw ?_ ?_; · first | omega | (simp only [up_nx, put_nx, kill_nx]; done) | (simp only [up_nx, put_nx, kill_nx]; omega)) | (with_reducible refine AH.le.kill hw ?_ ?_; · first | omega | (simp only [up_nx, put_nx, kill_nx]; done) | (simp only [up_nx, put_nx, kill_nx]; omega)))) (by repeat (first | exact Cl.p _ | exact Cl.dsl _ _ | exact Cl.any | refine Cl.tup ?_ | refine Cl.agg ?_ | exact Clo.nil | refine Clo.cons ?_ ?_)) ⟨rfl, by rw [hwr]⟩
    · have l2 : ¬ ((t.kids.length : Int) = 0) := by omega
      have l3 : 0 < t.kids.length := by omega
      have hwr : t.wrong = 1 := by rw [Ty.wrong_eq]; simp [Ty.head, k1, l]
      simp (disch := first | omega | simp) [Ty.av]
      refine cut_st (fun _ : Unit => [iv 0, iv 9]) (fun _ H' => ((H.up 2).put H.nx (.box 24 t.cs)) = H') (fun k hk2 => ?_) ?_
      · simp (disch := first | omega | simp) [iv, Ty.cs_g0, k1]
        exact hk2 () _ _ _ (.refl (by first | omega | (simp only [up_nx, put_nx, kill_nx]; done) | (simp only [up_nx, put_nx, kill_nx]; omega))) rfl
      · rintro _ _ _ rfl
        unfold S_speech_check_K2
        simp (disch := first | omega | simp) [iv, Ty.cs_g2, l]
        exact rt_one hw (by repeat (first | with_reducible assumption | with_reducible exact AH.le.refl _ | with_reducible apply AH.le.up | (with_reducible refine AH.le.put hw ?_ ?_; · first | omega | (simp only [up_nx, put_nx, kill_nx]; done) | (simp only [up_nx, put_nx, kill_nx]; omega)) | (with_reducible refine AH.le.kill hw ?_ ?_; · first | omega | (simp only [up_nx, put_nx, kill_nx]; done) | (simp only [up_nx, put_nx, kill_nx]; omega)))) (by repeat (first | exact Cl.p _ | exact Cl.dsl _ _ | exact Cl.any | refine Cl.tup ?_ | refine Cl.agg ?_ | exact Clo.nil | refine Clo.cons ?_ ?_)) ⟨rfl, by rw [hwr]⟩
    · have l2 : ¬ ((t.kids.length : Int) = 2) := by omega
      have hwr : t.wrong = 1 := by rw [Ty.wrong_eq]; simp [Ty.head, k1, l2]
      simp (disch := first | omega | simp) [Ty.av]
      refine cut_st (fun _ : Unit => [iv 2, iv 0]) (fun _ H' => ((H.up 2).put H.nx (.box 24 t.cs)) = H') (fun k hk2 => ?_) ?_
      · simp (disch := first | omega | simp) [iv, Ty.cs_g0, k1]
        exact hk2 () _ _ _ (.refl (by first | omega | (simp only [up_nx, put_nx, kill_nx]; done) | (simp only [up_nx, put_nx, kill_nx]; omega))) rfl
      · rintro _ _ _ rfl
        unfold S_speech_check_K2
        simp (disch := first | omega | simp) [iv, Ty.cs_g2, l2]
        exact rt_one hw (by repeat (first | with_reducible assumption | with_reducible exact AH.le.refl _ | with_reducible apply AH.le.up | (with_reducible refine AH.le.put hw ?_ ?_; · first | omega | (simp only [up_nx, put_nx, kill_nx]; done) | (simp only [up_nx, put_nx, kill_nx]; omega)) | (with_reducible refine AH.le.kill hw ?_ ?_; · first | omega | (simp only [up_nx, put_nx, kill_nx]; done) | (simp only [up_nx, put_nx, kill_nx]; omega)))) (by repeat (first | exact Cl.p _ | exact Cl.dsl _ _ | exact Cl.any | refine Cl.tup ?_ | refine Cl.agg ?_ | exact Clo.nil | refine Clo.cons ?_ ?_)) ⟨rfl, by rw [hwr]⟩
    · have l2 : ¬ ((t.kids.length : Int) = 2) := by omega
      have hwr : t.wrong = 1 := by rw [Ty.wrong_eq]; simp [Ty.head, k1, l2]
      simp (disch := first | omega | simp) [Ty.av]
      refine cut_st (fun _ : Unit => [iv 2, iv 0]) (fun _ H' => ((H.up 2).put H.nx (.box 24 t.cs)) = H') (fun k hk2 => ?_) ?_
      · simp (disch := first | omega | simp) [iv, Ty.cs_g0, k1]
        exact hk2 () _ _ _ (.refl (by first | omega | (simp only [up_nx, put_nx, kill_nx]; done) | (simp only [up_nx, put_nx, kill_nx]; omega))) rfl
      · rintro _ _ _ rfl
        unfold S_speech_check_K2
        simp (disch := first | omega | simp) [iv, Ty.cs_g2, l2]
        exact rt_one hw (by repeat (first | with_reducible assumption | with_reducible exact AH.le.refl _ | with_reducible apply AH.le.up | (with_reducible refine AH.le.put hw ?_ ?_; · first | omega | (simp only [up_nx, put_nx, kill_nx]; done) | (simp only [up_nx, put_nx, kill_nx]; omega)) | (with_reducible refine AH.le.kill hw ?_ ?_; · first | omega | (simp only [up_nx, put_nx, kill_nx]; done) | (simp only [up_nx, put_nx, kill_nx]; omega)))) (by repeat (first | exact Cl.p _ | exact Cl.dsl _ _ | exact Cl.any | refine Cl.tup ?_ | refine Cl.agg ?_ | exact Clo.nil | refine Clo.cons ?_ ?_)) ⟨rfl, by rw [hwr]⟩
    · have hwr : t.wrong = 3 := by rw [Ty.wrong_eq]; simp [Ty.head, k1, l, n]
      simp (disch := first | omega | simp) [Ty.av]
      refine cut_st (fun _ : Unit => [iv 0, iv 9]) (fun _ H' => ((H.up 2).put H.nx (.box 24 t.cs)) = H') (fun k hk2 => ?_) ?_
      · simp (disch := first | omega | simp) [iv, Ty.cs_g0, k1]
        exact hk2 () _ _ _ (.refl (by first | omega | (simp only [up_nx, put_nx, kill_nx]; done) | (simp only [up_nx, put_nx, kill_nx]; omega))) rfl
      · rintro _ _ _ rfl
        unfold S_speech_check_K2
        simp (disch := first | omega | simp) [iv, Ty.cs_g1, Ty.cs_g2, l, n]
        exact rt_one hw (by repeat (first | with_reducible assumption | with_reducible exact AH.le.refl _ | with_reducible apply AH.le.up | (with_reducible refine AH.le.put hw ?_ ?_; · first | omega | (simp only [up_nx, put_nx, kill_nx]; done) | (simp only [up_nx, put_nx, kill_nx]; omega)) | (with_reducible refine AH.le.kill hw ?_ ?_; · first | omega | (simp only [up_nx, put_nx, kill_nx]; done) | (simp only [up_nx, put_nx, kill_nx]; omega)))) (by repeat (first | exact Cl.p _ | exact Cl.dsl _ _ | exact Cl.any | refine Cl.tup ?_ | refine Cl.agg ?_ | exact Clo.nil | refine Clo.cons ?_ ?_)) ⟨rfl, by rw [hwr]⟩
    · have n1 : ¬ t.num < 0 := by omega
      have hwr : t.wrong = 3 := by rw [Ty.wrong_eq]; simp [Ty.head, k1, l, n, n1]
      simp (disch := first | omega | simp) [Ty.av]
      refine cut_st (fun _ : Unit => [iv 0, iv 9]) (fun _ H' => ((H.up 2).put H.nx (.box 24 t.cs)) = H') (fun k hk2 => ?_) ?_
      · simp (disch := first | omega | simp) [iv, Ty.cs_g0, k1]
        exact hk2 () _ _ _ (.refl (by first | omega | (simp only [up_nx, put_nx, kill_nx]; done) | (simp only [up_nx, put_nx, kill_nx]; omega))) rfl
      · rintro _ _ _ rfl
        unfold S_speech_check_K2
        simp (disch := first | omega | simp) [iv, Ty.cs_g1, Ty.cs_g2, l, n, n1]
        exact rt_one hw (by repeat (first | with_reducible assumption | with_reducible exact AH.le.refl _ | with_reducible apply AH.le.up | (with_reducible refine AH.le.put hw ?_ ?_; · first | omega | (simp only [up_nx, put_nx, kill_nx]; done) | (simp only [up_nx, put_nx, kill_nx]; omega)) | (with_reducible refine AH.le.kill hw ?_ ?_; · first | omega | (simp only [up_nx, put_nx, kill_nx]; done) | (simp only [up_nx, put_nx, kill_nx]; omega)))) (by repeat (first | exact Cl.p _ | exact Cl.dsl _ _ | exact Cl.any | refine Cl.tup ?_ | refine Cl.agg ?_ | exact Clo.nil | refine Clo.cons ?_ ?_)) ⟨rfl, by rw [hwr]⟩
    · have n1 : ¬ t.num < 0 := by omega
      have n3 : ¬ 9 < t.num := by omega
      have hwr : t.wrong = Ty.wrongs t.kids := by rw [Ty.wrong_eq]; simp [Ty.head, k1, l, n1, n3]
      simp (disch := first | omega | simp) [Ty.av]
      refine cut_st (fun _ : Unit => [iv 0, iv 9]) (fun _ H' => ((H.up 2).put H.nx (.box 24 t.cs)) = H') (fun k hk2 => ?_) ?_
      · simp (disch := first | omega | simp) [iv, Ty.cs_g0, k1]
        exact hk2 () _ _ _ (.refl (by first | omega | (simp only [up_nx, put_nx, kill_nx]; done) | (simp only [up_nx, put_nx, kill_nx]; omega))) rfl
      · rintro _ _ _ rfl
        unfold S_speech_check_K2
        simp (disch := first | omega | simp) [iv, Ty.cs_g1, Ty.cs_g2, l, n1, n3]
        rw [hwr]
        exact checkTy_loop (by simp [l]) hw (by repeat (first | with_reducible assumption | with_reducible exact AH.le.refl _ | with_reducible apply AH.le.up | (with_reducible refine AH.le.put hw ?_ ?_; · first | omega | (simp only [up_nx, put_nx, kill_nx]; done) | (simp only [up_nx, put_nx, kill_nx]; omega)) | (with_reducible refine AH.le.kill hw ?_ ?_; · first | omega | (simp only [up_nx, put_nx, kill_nx]; done) | (simp only [up_nx, put_nx, kill_nx]; omega)))) (by first | omega | (simp only [up_nx, put_nx]; done) | (simp only [up_nx, put_nx]; omega)) (by omega) hk
    · rcases k1 with k1 | k1
      all_goals
      have hwr : t.wrong = 3 := by rw [Ty.wrong_eq]; simp [Ty.head, k1, l, n]
      simp (disch := first | omega | simp) [Ty.av]
      refine cut_st (fun _ : Unit => [iv 2, iv 0]) (fun _ H' => ((H.up 2).put H.nx (.box 24 t.cs)) = H') (fun k hk2 => ?_) ?_
      · simp (disch := first | omega | simp) [iv, Ty.cs_g0, k1]
        exact hk2 () _ _ _ (.refl (by first | omega | (simp only [up_nx, put_nx, kill_nx]; done) | (simp only [up_nx, put_nx, kill_nx]; omega))) rfl
      · rintro _ _ _ rfl
        unfold S_speech_check_K2
        simp (disch := first | omega | simp) [iv, Ty.cs_g1, Ty.cs_g2, l, n]
        exact rt_one hw (by repeat (first | with_reducible assumption | with_reducible exact AH.le.refl _ | with_reducible apply AH.le.up | (with_reducible refine AH.le.put hw ?_ ?_; · first | omega | (simp only [up_nx, put_nx, kill_nx]; done) | (simp only [up_nx, put_nx, kill_nx]; omega)) | (with_reducible refine AH.le.kill hw ?_ ?_; · first | omega | (simp only [up_nx, put_nx, kill_nx]; done) | (simp only [up_nx, put_nx, kill_nx]; omega)))) (by repeat (first | exact Cl.p _ | exact Cl.dsl _ _ | exact Cl.any | refine Cl.tup ?_ | refine Cl.agg ?_ | exact Clo.nil | refine Clo.cons ?_ ?_)) ⟨rfl, by rw [hwr]⟩
    · rcases k1 with k1 | k1
      all_goals
      have n1 : ¬ t.num < 0 := by omega
      have n3 : ¬ 9 < t.num := by omega
      have n4 : ¬ t.num = 0 := by omega
      have hwr : t.wrong = 3 := by rw [Ty.wrong_eq]; simp [Ty.head, k1, l, n, n1, n3]
      simp (disch := first | omega | simp) [Ty.av]
      refine cut_st (fun _ : Unit => [iv 2, iv 0]) (fun _ H' => ((H.up 2).put H.nx (.box 24 t.cs)) = H') (fun k hk2 => ?_) ?_
      · simp (disch := first | omega | simp) [iv, Ty.cs_g0, k1]
        exact hk2 () _ _ _ (.refl (by first | omega | (simp only [up_nx, put_nx, kill_nx]; done) | (simp only [up_nx, put_nx, kill_nx]; omega))) rfl
      · rintro _ _ _ rfl
        unfold S_speech_check_K2
        simp (disch := first | omega | simp) [iv, Ty.cs_g1, Ty.cs_g2, l, n, n1]
        exact rt_one hw (by repeat (first | with_reducible assumption | with_reducible exact AH.le.refl _ | with_reducible apply AH.le.up | (with_reducible refine AH.le.put hw ?_ ?_; · first | omega | (simp only [up_nx, put_nx, kill_nx]; done) | (simp only [up_nx, put_nx, kill_nx]; omega)) | (with_reducible refine AH.le.kill hw ?_ ?_; · first | omega | (simp only [up_nx, put_nx, kill_nx]; done) | (simp only [up_nx, put_nx, kill_nx]; omega)))) (by repeat (first | exact Cl.p _ | exact Cl.dsl _ _ | exact Cl.any | refine Cl.tup ?_ | refine Cl.agg ?_ | exact Clo.nil | refine Clo.cons ?_ ?_)) ⟨rfl, by rw [hwr]⟩
    · rcases k1 with k1 | k1
      all_goals
      have n1 : ¬ t.num < 0 := by omega
      have n4 : ¬ t.num = 0 := by omega
      have n5 : 0 < t.num := by omega
      have hwr : t.wrong = 3 := by rw [Ty.wrong_eq]; simp [Ty.head, k1, l, n, n1, n5]
      simp (disch := first | omega | simp) [Ty.av]
      refine cut_st (fun _ : Unit => [iv 2, iv 0]) (fun _ H' => ((H.up 2).put H.nx (.box 24 t.cs)) = H') (fun k hk2 => ?_) ?_
      · simp (disch := first | omega | simp) [iv, Ty.cs_g0, k1]
        exact hk2 () _ _ _ (.refl (by first | omega | (simp only [up_nx, put_nx, kill_nx]; done) | (simp only [up_nx, put_nx, kill_nx]; omega))) rfl
      · rintro _ _ _ rfl
        unfold S_speech_check_K2
        simp (disch := first | omega | simp) [iv, Ty.cs_g1, Ty.cs_g2, l, n1, n5]
        exact rt_one hw (by repeat (first | with_reducible assumption | with_reducible exact AH.le.refl _ | with_reducible apply AH.le.up | (with_reducible refine AH.le.put hw ?_ ?_; · first | omega | (simp only [up_nx, put_nx, kill_nx]; done) | (simp only [up_nx, put_nx, kill_nx]; omega)) | (with_reducible refine AH.le.kill hw ?_ ?_; · first | omega | (simp only [up_nx, put_nx, kill_nx]; done) | (simp only [up_nx, put_nx, kill_nx]; omega)))) (by repeat (first | exact Cl.p _ | exact Cl.dsl _ _ | exact Cl.any | refine Cl.tup ?_ | refine Cl.agg ?_ | exact Clo.nil | refine Clo.cons ?_ ?_)) ⟨rfl, by rw [hwr]⟩
    · rcases k1 with k1 | k1
      all_goals
      have hwr : t.wrong = Ty.wrongs t.kids := by rw [Ty.wrong_eq]; simp [Ty.head, k1, l, n]
      simp (disch := first | omega | simp) [Ty.av]
      refine cut_st (fun _ : Unit => [iv 2, iv 0]) (fun _ H' => ((H.up 2).put H.nx (.box 24 t.cs)) = H') (fun k hk2 => ?_) ?_
      · simp (disch := first | omega | simp) [iv, Ty.cs_g0, k1]
        exact hk2 () _ _ _ (.refl (by first | omega | (simp only [up_nx, put_nx, kill_nx]; done) | (simp only [up_nx, put_nx, kill_nx]; omega))) rfl
      · rintro _ _ _ rfl
        unfold S_speech_check_K2
        simp (disch := first | omega | simp) [iv, Ty.cs_g1, Ty.cs_g2, l, n]
        rw [hwr]
        exact checkTy_loop (by simp [l]) hw (by repeat (first | with_reducible assumption | with_reducible exact AH.le.refl _ | with_reducible apply AH.le.up | (with_reducible refine AH.le.put hw ?_ ?_; · first | omega | (simp only [up_nx, put_nx, kill_nx]; done) | (simp only [up_nx, put_nx, kill_nx]; omega)) | (with_reducible refine AH.le.kill hw ?_ ?_; · first | omega | (simp only [up_nx, put_nx, kill_nx]; done) | (simp only [up_nx, put_nx, kill_nx]; omega)))) (by first | omega | (simp only [up_nx, put_nx]; done) | (simp only [up_nx, put_nx]; omega)) (by omega) hk
set_option maxHeartbeats 2000000 in
theorem c_partWrong (N : Nat) : ∀ t : Ty, t.size ≤ N → ∀ H : AH, Tri Try.prog 51 [t.av] H (fun r H' => H' = H ∧ r = iv t.wrong) := by
  induction N with
  | zero => intro t ht; have := t.size_pos; omega
  | succ N ih =>
    intro t ht H
    refine tri_wf fun hw => tri_lenA 0 2 rfl t.cs_g2 fun hl => tri_wordhoardref_partWrong ?_
    have hml : maxLen = 9223372036854775807 := by decide
    rw [List.length_map] at hl
    have hsz := t.size_eq
    have hk : ∀ x ∈ t.kids, ∀ H, Tri Try.prog 51 [x.av] H (fun r H' => H' = H ∧ r = iv x.wrong) := fun x hx H => ih x (by have := Ty.sizes_mem hx; omega) H
    unfold S_wordhoardref_partWrong
    refine Ty.head_cases t _ (fun k1 => ?_) (fun k1 => ?_) (fun k1 l => ?_) (fun k1 l => ?_) (fun k1 l => ?_) (fun k1 l n => ?_) (fun k1 l n => ?_) (fun k1 l n n2 => ?_) (fun k1 l n => ?_) (fun k1 l n n2 => ?_) (fun k1 l n => ?_) (fun k1 l n => ?_)
    · have q1 : ¬ t.kind = 1 := by omega
      have q2 : ¬ t.kind = 2 := by omega
      have q3 : ¬ t.kind = 3 := by omega
      have hwr : t.wrong = 4 := by rw [Ty.wrong_eq]; simp [Ty.head, k1]
      simp (disch := first | omega | simp) [iv, Ty.av, Ty.cs_g0, k1]
      exact rt_one hw (by repeat (first | with_reducible assumption | with_reducible exact AH.le.refl _ | with_reducible apply AH.le.up | (with_reducible refine AH.le.put hw ?_ ?_; · first | omega | (simp only [up_nx, put_nx, kill_nx]; done) | (simp only [up_nx, put_nx, kill_nx]; omega)) | (with_reducible refine AH.le.kill hw ?_ ?_; · first | omega | (simp only [up_nx, put_nx, kill_nx]; done) | (simp only [up_nx, put_nx, kill_nx]; omega)))) (by repeat (first | exact Cl.p _ | exact Cl.dsl _ _ | exact Cl.any | refine Cl.tup ?_ | refine Cl.agg ?_ | exact Clo.nil | refine Clo.cons ?_ ?_)) ⟨rfl, by rw [hwr]⟩
    · have q0 : ¬ t.kind < 1 := by omega
      have q1 : ¬ t.kind = 1 := by omega
      have q2 : ¬ t.kind = 2 := by omega
      have q3 : ¬ t.kind = 3 := by omega
      have hwr : t.wrong = 4 := by rw [Ty.wrong_eq]; simp [Ty.head, k1, q0]
      simp (disch := first | omega | simp) [iv, Ty.av, Ty.cs_g0, k1, q0]
      exact rt_one hw (by repeat (first | with_reducible assumption | with_reducible exact AH.le.refl _ | with_reducible apply AH.le.up | (with_reducible refine AH.le.put hw ?_ ?_; · first | omega | (simp only [up_nx, put_nx, kill_nx]; done) | (simp only [up_nx, put_nx, kill_nx]; omega)) | (with_reducible refine AH.le.kill hw ?_ ?_; · first | omega | (simp only [up_nx, put_nx, kill_nx]; done) | (simp only [up_nx, put_nx, kill_nx]; omega)))) (by repeat (first | exact Cl.p _ | exact Cl.dsl _ _ | exact Cl.any | refine Cl.tup ?_ | refine Cl.agg ?_ | exact Clo.nil | refine Clo.cons ?_ ?_)) ⟨rfl, by rw [hwr]⟩
    · have l2 : ¬ ((t.kids.length : Int) = 0) := by omega
      have l3 : 0 < t.kids.length := by omega
      have hwr : t.wrong = 1 := by rw [Ty.wrong_eq]; simp [Ty.head, k1, l]
      simp (disch := first | omega | simp) [iv, Ty.av, Ty.cs_g0, k1]
      unfold S_wordhoardref_partWrong_C3
      simp (disch := first | omega | simp) [iv, Ty.cs_g0, Ty.cs_g2, k1, l]
      exact rt_one hw (by repeat (first | with_reducible assumption | with_reducible exact AH.le.refl _ | with_reducible apply AH.le.up | (with_reducible refine AH.le.put hw ?_ ?_; · first | omega | (simp only [up_nx, put_nx, kill_nx]; done) | (simp only [up_nx, put_nx, kill_nx]; omega)) | (with_reducible refine AH.le.kill hw ?_ ?_; · first | omega | (simp only [up_nx, put_nx, kill_nx]; done) | (simp only [up_nx, put_nx, kill_nx]; omega)))) (by repeat (first | exact Cl.p _ | exact Cl.dsl _ _ | exact Cl.any | refine Cl.tup ?_ | refine Cl.agg ?_ | exact Clo.nil | refine Clo.cons ?_ ?_)) ⟨rfl, by rw [hwr]⟩
    · have l2 : ¬ ((t.kids.length : Int) = 2) := by omega
      have hwr : t.wrong = 1 := by rw [Ty.wrong_eq]; simp [Ty.head, k1, l2]
      simp (disch := first | omega | simp) [iv, Ty.av, Ty.cs_g0, k1]
      unfold S_wordhoardref_partWrong_C3
      simp (disch := first | omega | simp) [iv, Ty.cs_g0, Ty.cs_g2, k1, l2]
      exact rt_one hw (by repeat (first | with_reducible assumption | with_reducible exact AH.le.refl _ | with_reducible apply AH.le.up | (with_reducible refine AH.le.put hw ?_ ?_; · first | omega | (simp only [up_nx, put_nx, kill_nx]; done) | (simp only [up_nx, put_nx, kill_nx]; omega)) | (with_reducible refine AH.le.kill hw ?_ ?_; · first | omega | (simp only [up_nx, put_nx, kill_nx]; done) | (simp only [up_nx, put_nx, kill_nx]; omega)))) (by repeat (first | exact Cl.p _ | exact Cl.dsl _ _ | exact Cl.any | refine Cl.tup ?_ | refine Cl.agg ?_ | exact Clo.nil | refine Clo.cons ?_ ?_)) ⟨rfl, by rw [hwr]⟩
    · have l2 : ¬ ((t.kids.length : Int) = 2) := by omega
      have hwr : t.wrong = 1 := by rw [Ty.wrong_eq]; simp [Ty.head, k1, l2]
      simp (disch := first | omega | simp) [iv, Ty.av, Ty.cs_g0, k1]
      unfold S_wordhoardref_partWrong_C3
      simp (disch := first | omega | simp) [iv, Ty.cs_g0, Ty.cs_g2, k1, l2]
      exact rt_one hw (by repeat (first | with_reducible assumption | with_reducible exact AH.le.refl _ | with_reducible apply AH.le.up | (with_reducible refine AH.le.put hw ?_ ?_; · first | omega | (simp only [up_nx, put_nx, kill_nx]; done) | (simp only [up_nx, put_nx, kill_nx]; omega)) | (with_reducible refine AH.le.kill hw ?_ ?_; · first | omega | (simp only [up_nx, put_nx, kill_nx]; done) | (simp only [up_nx, put_nx, kill_nx]; omega)))) (by repeat (first | exact Cl.p _ | exact Cl.dsl _ _ | exact Cl.any | refine Cl.tup ?_ | refine Cl.agg ?_ | exact Clo.nil | refine Clo.cons ?_ ?_)) ⟨rfl, by rw [hwr]⟩
    · have hwr : t.wrong = 3 := by rw [Ty.wrong_eq]; simp [Ty.head, k1, l, n]
      simp (disch := first | omega | simp) [iv, Ty.av, Ty.cs_g0, k1]
      unfold S_wordhoardref_partWrong_C3
      simp (disch := first | omega | simp) [iv, Ty.cs_g0, Ty.cs_g2, k1, l]
      unfold S_wordhoardref_partWrong_C2
      simp (disch := first | omega | simp) [iv, Ty.cs_g1, n]
      exact rt_one hw (by repeat (first | with_reducible assumption | with_reducible exact AH.le.refl _ | with_reducible apply AH.le.up | (with_reducible refine AH.le.put hw ?_ ?_; · first | omega | (simp only [up_nx, put_nx, kill_nx]; done) | (simp only [up_nx, put_nx, kill_nx]; omega)) | (with_reducible refine AH.le.kill hw ?_ ?_; · first | omega | (simp only [up_nx, put_nx, kill_nx]; done) | (simp only [up_nx, put_nx, kill_nx]; omega)))) (by repeat (first | exact Cl.p _ | exact Cl.dsl _ _ | exact Cl.any | refine Cl.tup ?_ | refine Cl.agg ?_ | exact Clo.nil | refine Clo.cons ?_ ?_)) ⟨rfl, by rw [hwr]⟩
    · have n1 : ¬ t.num < 0 := by omega
      have hwr : t.wrong = 3 := by rw [Ty.wrong_eq]; simp [Ty.head, k1, l, n, n1]
      simp (disch := first | omega | simp) [iv, Ty.av, Ty.cs_g0, k1]
      unfold S_wordhoardref_partWrong_C3
      simp (disch := first | omega | simp) [iv, Ty.cs_g0, Ty.cs_g2, k1, l]
      unfold S_wordhoardref_partWrong_C2
      simp (disch := first | omega | simp) [iv, Ty.cs_g1, n, n1]
      exact rt_one hw (by repeat (first | with_reducible assumption | with_reducible exact AH.le.refl _ | with_reducible apply AH.le.up | (with_reducible refine AH.le.put hw ?_ ?_; · first | omega | (simp only [up_nx, put_nx, kill_nx]; done) | (simp only [up_nx, put_nx, kill_nx]; omega)) | (with_reducible refine AH.le.kill hw ?_ ?_; · first | omega | (simp only [up_nx, put_nx, kill_nx]; done) | (simp only [up_nx, put_nx, kill_nx]; omega)))) (by repeat (first | exact Cl.p _ | exact Cl.dsl _ _ | exact Cl.any | refine Cl.tup ?_ | refine Cl.agg ?_ | exact Clo.nil | refine Clo.cons ?_ ?_)) ⟨rfl, by rw [hwr]⟩
    · have n1 : ¬ t.num < 0 := by omega
      have n3 : ¬ 9 < t.num := by omega
      have hwr : t.wrong = Ty.wrongs t.kids := by rw [Ty.wrong_eq]; simp [Ty.head, k1, l, n1, n3]
      simp (disch := first | omega | simp) [iv, Ty.av, Ty.cs_g0, k1]
      unfold S_wordhoardref_partWrong_C3
      simp (disch := first | omega | simp) [iv, Ty.cs_g0, Ty.cs_g2, k1, l]
      unfold S_wordhoardref_partWrong_C2
      simp (disch := first | omega | simp) [iv, Ty.cs_g0, Ty.cs_g1, k1, n1, n3]
      rw [hwr]
      exact typeWrong_loop (put_get _ _) hw (by repeat (first | with_reducible assumption | with_reducible exact AH.le.refl _ | with_reducible apply AH.le.up | (with_reducible refine AH.le.put hw ?_ ?_; · first | omega | (simp only [up_nx, put_nx, kill_nx]; done) | (simp only [up_nx, put_nx, kill_nx]; omega)) | (with_reducible refine AH.le.kill hw ?_ ?_; · first | omega | (simp only [up_nx, put_nx, kill_nx]; done) | (simp only [up_nx, put_nx, kill_nx]; omega)))) (by first | omega | (simp only [up_nx, put_nx]; done) | (simp only [up_nx, put_nx]; omega)) (by omega) hk
    · rcases k1 with k1 | k1
      all_goals
      have hwr : t.wrong = 3 := by rw [Ty.wrong_eq]; simp [Ty.head, k1, l, n]
      simp (disch := first | omega | simp) [iv, Ty.av, Ty.cs_g0, k1]
      unfold S_wordhoardref_partWrong_C3
      simp (disch := first | omega | simp) [iv, Ty.cs_g0, Ty.cs_g2, k1, l]
      unfold S_wordhoardref_partWrong_C2
      simp (disch := first | omega | simp) [iv, Ty.cs_g1, n]
      exact rt_one hw (by repeat (first | with_reducible assumption | with_reducible exact AH.le.refl _ | with_reducible apply AH.le.up | (with_reducible refine AH.le.put hw ?_ ?_; · first | omega | (simp only [up_nx, put_nx, kill_nx]; done) | (simp only [up_nx, put_nx, kill_nx]; omega)) | (with_reducible refine AH.le.kill hw ?_ ?_; · first | omega | (simp only [up_nx, put_nx, kill_nx]; done) | (simp only [up_nx, put_nx, kill_nx]; omega)))) (by repeat (first | exact Cl.p _ | exact Cl.dsl _ _ | exact Cl.any | refine Cl.tup ?_ | refine Cl.agg ?_ | exact Clo.nil | refine Clo.cons ?_ ?_)) ⟨rfl, by rw [hwr]⟩
    · rcases k1 with k1 | k1
      all_goals
      have n1 : ¬ t.num < 0 := by omega
      have n3 : ¬ 9 < t.num := by omega
      have n4 : ¬ t.num = 0 := by omega
      have hwr : t.wrong = 3 := by rw [Ty.wrong_eq]; simp [Ty.head, k1, l, n, n1, n3]
      simp (disch := first | omega | simp) [iv, Ty.av, Ty.cs_g0, k1]
      unfold S_wordhoardref_partWrong_C3
      simp (disch := first | omega | simp) [iv, Ty.cs_g0, Ty.cs_g2, k1, l]
      unfold S_wordhoardref_partWrong_C2
      simp (disch := first | omega | simp) [iv, Ty.cs_g0, Ty.cs_g1, k1, n1, n3, n4]
      exact rt_one hw (by repeat (first | with_reducible assumption | with_reducible exact AH.le.refl _ | with_reducible apply AH.le.up | (with_reducible refine AH.le.put hw ?_ ?_; · first | omega | (simp only [up_nx, put_nx, kill_nx]; done) | (simp only [up_nx, put_nx, kill_nx]; omega)) | (with_reducible refine AH.le.kill hw ?_ ?_; · first | omega | (simp only [up_nx, put_nx, kill_nx]; done) | (simp only [up_nx, put_nx, kill_nx]; omega)))) (by repeat (first | exact Cl.p _ | exact Cl.dsl _ _ | exact Cl.any | refine Cl.tup ?_ | refine Cl.agg ?_ | exact Clo.nil | refine Clo.cons ?_ ?_)) ⟨rfl, by rw [hwr]⟩
    · rcases k1 with k1 | k1
      all_goals
      have n1 : ¬ t.num < 0 := by omega
      have n4 : ¬ t.num = 0 := by omega
      have n5 : 0 < t.num := by omega
      have hwr : t.wrong = 3 := by rw [Ty.wrong_eq]; simp [Ty.head, k1, l, n, n1, n5]
      simp (disch := first | omega | simp) [iv, Ty.av, Ty.cs_g0, k1]
      unfold S_wordhoardref_partWrong_C3
      simp (disch := first | omega | simp) [iv, Ty.cs_g0, Ty.cs_g2, k1, l]
      unfold S_wordhoardref_partWrong_C2
      simp (disch := first | omega | simp) [iv, Ty.cs_g1, n, n1]
      exact rt_one hw (by repeat (first | with_reducible assumption | with_reducible exact AH.le.refl _ | with_reducible apply AH.le.up | (with_reducible refine AH.le.put hw ?_ ?_; · first | omega | (simp only [up_nx, put_nx, kill_nx]; done) | (simp only [up_nx, put_nx, kill_nx]; omega)) | (with_reducible refine AH.le.kill hw ?_ ?_; · first | omega | (simp only [up_nx, put_nx, kill_nx]; done) | (simp only [up_nx, put_nx, kill_nx]; omega)))) (by repeat (first | exact Cl.p _ | exact Cl.dsl _ _ | exact Cl.any | refine Cl.tup ?_ | refine Cl.agg ?_ | exact Clo.nil | refine Clo.cons ?_ ?_)) ⟨rfl, by rw [hwr]⟩
    · rcases k1 with k1 | k1
      all_goals
      have hwr : t.wrong = Ty.wrongs t.kids := by rw [Ty.wrong_eq]; simp [Ty.head, k1, l, n]
      simp (disch := first | omega | simp) [iv, Ty.av, Ty.cs_g0, k1]
      unfold S_wordhoardref_partWrong_C3
      simp (disch := first | omega | simp) [iv, Ty.cs_g0, Ty.cs_g2, k1, l]
      unfold S_wordhoardref_partWrong_C2
      simp (disch := first | omega | simp) [iv, Ty.cs_g0, Ty.cs_g1, k1, n]
      rw [hwr]
      exact typeWrong_loop (put_get _ _) hw (by repeat (first | with_reducible assumption | with_reducible exact AH.le.refl _ | with_reducible apply AH.le.up | (with_reducible refine AH.le.put hw ?_ ?_; · first | omega | (simp only [up_nx, put_nx, kill_nx]; done) | (simp only [up_nx, put_nx, kill_nx]; omega)) | (with_reducible refine AH.le.kill hw ?_ ?_; · first | omega | (simp only [up_nx, put_nx, kill_nx]; done) | (simp only [up_nx, put_nx, kill_nx]; omega)))) (by first | omega | (simp only [up_nx, put_nx]; done) | (simp only [up_nx, put_nx]; omega)) (by omega) hk
theorem c_Check (t : Ty) : PF Try.prog 21 [t.av] (iv t.check) := fun H => tri_wf fun hw => tri_speech_Check (by
  unfold S_speech_Check
  simp (disch := first | omega | simp) [Ty.av, Ty.cs_len, Ty.cs_take]
  refine ca_pure (by kernel_rfl) (c_count t 15 (by decide) (by decide) _) ?_
  by_cases h : (t.size : Int) ≤ 15
  · have hc : t.check = t.wrong := by unfold Ty.check; rw [if_neg (by omega)]
    have h2 : ¬ (15 : Int) < (t.size : Int) := by omega
    rw [capN_low h]
    simp (disch := first | omega | simp) [iv, Ty.cs_len, Ty.cs_take, h2]
    refine ca_pure (by kernel_rfl) (c_check t.size t (Nat.le_refl _) _) ?_
    exact rt_one hw (by repeat (first | with_reducible assumption | with_reducible exact AH.le.refl _ | with_reducible apply AH.le.up | (with_reducible refine AH.le.put hw ?_ ?_; · first | omega | (simp only [up_nx, put_nx, kill_nx]; done) | (simp only [up_nx, put_nx, kill_nx]; omega)) | (with_reducible refine AH.le.kill hw ?_ ?_; · first | omega | (simp only [up_nx, put_nx, kill_nx]; done) | (simp only [up_nx, put_nx, kill_nx]; omega)))) (by repeat (first | exact Cl.p _ | exact Cl.dsl _ _ | exact Cl.any | refine Cl.tup ?_ | refine Cl.agg ?_ | exact Clo.nil | refine Clo.cons ?_ ?_)) ⟨rfl, by rw [hc]; rfl⟩
  · have hc : t.check = 7 := by unfold Ty.check; rw [if_pos (by omega)]
    rw [capN_high h]
    simp (disch := first | omega | simp) [iv]
    exact rt_one hw (by repeat (first | with_reducible assumption | with_reducible exact AH.le.refl _ | with_reducible apply AH.le.up | (with_reducible refine AH.le.put hw ?_ ?_; · first | omega | (simp only [up_nx, put_nx, kill_nx]; done) | (simp only [up_nx, put_nx, kill_nx]; omega)) | (with_reducible refine AH.le.kill hw ?_ ?_; · first | omega | (simp only [up_nx, put_nx, kill_nx]; done) | (simp only [up_nx, put_nx, kill_nx]; omega)))) (by repeat (first | exact Cl.p _ | exact Cl.dsl _ _ | exact Cl.any | refine Cl.tup ?_ | refine Cl.agg ?_ | exact Clo.nil | refine Clo.cons ?_ ?_)) ⟨rfl, by rw [hc]⟩)
theorem c_RCheckPart (t : Ty) : PF Try.prog 19 [t.av] (iv t.check) := fun H => tri_wf fun hw => tri_wordhoardref_CheckPart (by
  unfold S_wordhoardref_CheckPart
  simp (disch := first | omega | simp) [Ty.av, Ty.cs_len, Ty.cs_take]
  refine ca_pure (by kernel_rfl) (c_RPartSize t.size t (Nat.le_refl _) 15 _ (by decide) (by decide)) ?_
  by_cases h : (t.size : Int) ≤ 15
  · have hc : t.check = t.wrong := by unfold Ty.check; rw [if_neg (by omega)]
    have h2 : ¬ (15 : Int) < (t.size : Int) := by omega
    rw [capN_low h]
    simp (disch := first | omega | simp) [iv, Ty.cs_len, Ty.cs_take, h2]
    refine ca_pure (by kernel_rfl) (c_partWrong t.size t (Nat.le_refl _) _) ?_
    exact rt_one hw (by repeat (first | with_reducible assumption | with_reducible exact AH.le.refl _ | with_reducible apply AH.le.up | (with_reducible refine AH.le.put hw ?_ ?_; · first | omega | (simp only [up_nx, put_nx, kill_nx]; done) | (simp only [up_nx, put_nx, kill_nx]; omega)) | (with_reducible refine AH.le.kill hw ?_ ?_; · first | omega | (simp only [up_nx, put_nx, kill_nx]; done) | (simp only [up_nx, put_nx, kill_nx]; omega)))) (by repeat (first | exact Cl.p _ | exact Cl.dsl _ _ | exact Cl.any | refine Cl.tup ?_ | refine Cl.agg ?_ | exact Clo.nil | refine Clo.cons ?_ ?_)) ⟨rfl, by rw [hc]; rfl⟩
  · have hc : t.check = 7 := by unfold Ty.check; rw [if_pos (by omega)]
    rw [capN_high h]
    simp (disch := first | omega | simp) [iv]
    exact rt_one hw (by repeat (first | with_reducible assumption | with_reducible exact AH.le.refl _ | with_reducible apply AH.le.up | (with_reducible refine AH.le.put hw ?_ ?_; · first | omega | (simp only [up_nx, put_nx, kill_nx]; done) | (simp only [up_nx, put_nx, kill_nx]; omega)) | (with_reducible refine AH.le.kill hw ?_ ?_; · first | omega | (simp only [up_nx, put_nx, kill_nx]; done) | (simp only [up_nx, put_nx, kill_nx]; omega)))) (by repeat (first | exact Cl.p _ | exact Cl.dsl _ _ | exact Cl.any | refine Cl.tup ?_ | refine Cl.agg ?_ | exact Clo.nil | refine Clo.cons ?_ ?_)) ⟨rfl, by rw [hc]⟩)
end Go.Proofs.Ytpmnlikgldacaaa

/- Parts of speech: which are the same, rows of them, how many slashes: both programs. -/
namespace Go.Proofs.Ytpmnlikgldacaaa
open Go.RowKit Go.Maps
mutual
theorem Ty.same_self : ∀ t : Ty, t.same t = true
  | ⟨k, n, ks⟩ => by rw [Ty.same, Ty.sames_self ks]; simp
theorem Ty.sames_self : ∀ ks : List Ty, Ty.sames ks ks = true
  | [] => by rw [Ty.sames]
  | t :: r => by rw [Ty.sames, Ty.same_self t, Ty.sames_self r]; rfl
end
mutual
theorem Ty.same_eq_of : ∀ t s : Ty, t.same s = true → t = s
  | ⟨k, n, ks⟩, ⟨k', n', ks'⟩, h => by
    rw [Ty.same] at h
    simp only [Bool.and_eq_true, beq_iff_eq] at h
    obtain ⟨rfl, rfl, hl, h⟩ := h
    rw [Ty.sames_eq_of ks ks' hl h]
theorem Ty.sames_eq_of : ∀ ks ls : List Ty, ks.length = ls.length → Ty.sames ks ls = true → ks = ls
  | [], [], _, _ => rfl
  | [], _ :: _, hl, _ => by simp at hl
  | _ :: _, [], hl, _ => by simp at hl
  | t :: r, t' :: r', hl, h => by
    rw [Ty.sames, Bool.and_eq_true] at h
    rw [Ty.same_eq_of t t' h.1, Ty.sames_eq_of r r' (by simpa using hl) h.2]
end
theorem Ty.same_iff (t s : Ty) : t.same s = true ↔ t = s := ⟨Ty.same_eq_of t s, fun h => by rw [h]; exact Ty.same_self s⟩
def Ty.sameL (a b : List Ty) : Bool := decide (a.length = b.length) && Ty.sames a b
theorem Ty.sameL_iff (a b : List Ty) : Ty.sameL a b = true ↔ a = b := by
  unfold Ty.sameL
  constructor
  · intro h
    rw [Bool.and_eq_true, decide_eq_true_iff] at h
    exact Ty.sames_eq_of a b h.1 h.2
  · intro h; rw [h, Ty.sames_self]; simp
theorem Ty.sames_at {ks ls : List Ty} {i : Nat} {x y : Ty} (h : ks[i]? = some x) (h' : ls[i]? = some y) : Ty.sames (ks.drop i) (ls.drop i) = (x.same y && Ty.sames (ks.drop (i + 1)) (ls.drop (i + 1))) := by
  obtain ⟨h1, h2⟩ := List.getElem?_eq_some_iff.1 h
  obtain ⟨h3, h4⟩ := List.getElem?_eq_some_iff.1 h'
  rw [Ty.sames_step h1 h3, h2, h4]
def tE (l : List Ty) : AV := .dsl 3 (l.map Ty.cs)
theorem ty_len (l : List Ty) : ∀ e ∈ l.map Ty.cs, e.length = 3 := fun e he => by obtain ⟨t, _, rfl⟩ := List.mem_map.1 he; exact t.cs_len
theorem RSameParts_of (ts ss : List Ty) (hl : ts.length ≤ 9223372036854775807) (ih : ∀ x ∈ ts, ∀ y : Ty, ∀ H : AH, Tri Try.prog 25 [x.av, y.av] H (fun r H' => H' = H ∧ r = bv (x.same y))) (H : AH) :
    Tri Try.prog 42 [tE ts, tE ss] H (fun r H' => H' = H ∧ r = bv (Ty.sameL ts ss)) := tri_wf fun hw => tri_wordhoardref_SameParts (by
  unfold S_wordhoardref_SameParts tE
  by_cases k3 : ts.length = ss.length
  · have hs : Ty.sameL ts ss = Ty.sames ts ss := by unfold Ty.sameL; simp [k3]
    simp (disch := first | omega | simp) [k3]
    refine loop_st (fun i : Nat => [iv i]) (fun i H' => H = H' ∧ i ≤ ts.length ∧ Ty.sames ts ss = Ty.sames (ts.drop i) (ss.drop i)) (fun i => ts.length - i) 0 (.refl (Nat.le_refl _)) ⟨rfl, Nat.zero_le _, by simp⟩ ?_
    rintro i H2 hn2 ⟨rfl, hi, hsm⟩ k hk
    unfold S_wordhoardref_SameParts_L1
    by_cases hil : i < ts.length
    · obtain ⟨x, hx⟩ : ∃ x, ts[i]? = some x := ⟨_, List.getElem?_eq_getElem hil⟩
      obtain ⟨y, hy⟩ : ∃ y, ss[i]? = some y := ⟨_, List.getElem?_eq_getElem (by omega)⟩
      have hxg : ∀ h, ts[i]'h = x := fun h => (List.getElem?_eq_some_iff.1 hx).2
      have hyg : ∀ h, ss[i]'h = y := fun h => (List.getElem?_eq_some_iff.1 hy).2
      have his : i < ss.length := by omega
      have hiv := ivn (i := i) (by omega)
      rw [Ty.sames_at hx hy] at hsm
      simp (disch := first | omega | simp) [iv, Ty.cs_len, Ty.cs_take, hil, his, hxg, hyg]
      refine cav_pure (by kernel_rfl) (fun H3 _ => ih x (List.mem_of_getElem? hx) y H3) ?_
      cases hq : x.same y with
      | true =>
        rw [hq, Bool.true_and] at hsm
        simp (disch := first | omega | simp) [bv, hiv]
        exact hk (i + 1) _ _ _ (.refl (by first | omega | (simp only [up_nx, put_nx, kill_nx]; done) | (simp only [up_nx, put_nx, kill_nx]; omega))) ⟨rfl, hil, hsm⟩ (by omega)
      | false =>
        rw [hq, Bool.false_and] at hsm
        simp (disch := first | omega | simp) [bv]
        exact rt_one hw (by repeat (first | with_reducible assumption | with_reducible exact AH.le.refl _ | with_reducible apply AH.le.up | (with_reducible refine AH.le.put hw ?_ ?_; · first | omega | (simp only [up_nx, put_nx, kill_nx]; done) | (simp only [up_nx, put_nx, kill_nx]; omega)) | (with_reducible refine AH.le.kill hw ?_ ?_; · first | omega | (simp only [up_nx, put_nx, kill_nx]; done) | (simp only [up_nx, put_nx, kill_nx]; omega)))) (by repeat (first | exact Cl.p _ | exact Cl.dsl _ _ | exact Cl.any | refine Cl.tup ?_ | refine Cl.agg ?_ | exact Clo.nil | refine Clo.cons ?_ ?_)) ⟨rfl, by rw [hs, hsm]⟩
    · rw [Ty.sames_end (by omega)] at hsm
      simp (disch := first | omega | simp) [iv, hil]
      exact rt_one hw (by repeat (first | with_reducible assumption | with_reducible exact AH.le.refl _ | with_reducible apply AH.le.up | (with_reducible refine AH.le.put hw ?_ ?_; · first | omega | (simp only [up_nx, put_nx, kill_nx]; done) | (simp only [up_nx, put_nx, kill_nx]; omega)) | (with_reducible refine AH.le.kill hw ?_ ?_; · first | omega | (simp only [up_nx, put_nx, kill_nx]; done) | (simp only [up_nx, put_nx, kill_nx]; omega)))) (by repeat (first | exact Cl.p _ | exact Cl.dsl _ _ | exact Cl.any | refine Cl.tup ?_ | refine Cl.agg ?_ | exact Clo.nil | refine Clo.cons ?_ ?_)) ⟨rfl, by rw [hs, hsm]; rfl⟩
  · have k3' : ¬ ((ts.length : Int) = (ss.length : Int)) := by omega
    simp (disch := first | omega | simp) [k3']
    exact rt_one hw (by repeat (first | with_reducible assumption | with_reducible exact AH.le.refl _ | with_reducible apply AH.le.up | (with_reducible refine AH.le.put hw ?_ ?_; · first | omega | (simp only [up_nx, put_nx, kill_nx]; done) | (simp only [up_nx, put_nx, kill_nx]; omega)) | (with_reducible refine AH.le.kill hw ?_ ?_; · first | omega | (simp only [up_nx, put_nx, kill_nx]; done) | (simp only [up_nx, put_nx, kill_nx]; omega)))) (by repeat (first | exact Cl.p _ | exact Cl.dsl _ _ | exact Cl.any | refine Cl.tup ?_ | refine Cl.agg ?_ | exact Clo.nil | refine Clo.cons ?_ ?_)) ⟨rfl, by unfold Ty.sameL; simp [k3, bv]⟩)
theorem c_RSamePartN (N : Nat) : ∀ t s : Ty, t.size ≤ N → ∀ H : AH, Tri Try.prog 25 [t.av, s.av] H (fun r H' => H' = H ∧ r = bv (t.same s)) := by
  induction N with
  | zero => intro t s ht; have := t.size_pos; omega
  | succ N ih =>
    intro t s ht H
    refine tri_wf fun hw => tri_lenA 0 2 rfl t.cs_g2 fun hl => tri_wordhoardref_SamePart ?_
    have hml : maxLen = 9223372036854775807 := by decide
    rw [List.length_map] at hl
    have hsz := t.size_eq
    have hse := Ty.same_eq t s
    unfold S_wordhoardref_SamePart
    by_cases k1 : t.kind = s.kind
    · by_cases k2 : t.num = s.num
      · simp (disch := first | omega | simp) [iv, Ty.av, Ty.cs_g0, Ty.cs_g1, Ty.cs_g2, put_get_ne, k1, k2]
        refine ca_pure (by kernel_rfl) (RSameParts_of t.kids s.kids (by omega) (fun x hx y H => ih x y (by have := Ty.sizes_mem hx; omega) H) _) ?_
        simp (disch := first | omega | simp) [bv]
        exact rt_one hw (by repeat (first | with_reducible assumption | with_reducible exact AH.le.refl _ | with_reducible apply AH.le.up | (with_reducible refine AH.le.put hw ?_ ?_; · first | omega | (simp only [up_nx, put_nx, kill_nx]; done) | (simp only [up_nx, put_nx, kill_nx]; omega)) | (with_reducible refine AH.le.kill hw ?_ ?_; · first | omega | (simp only [up_nx, put_nx, kill_nx]; done) | (simp only [up_nx, put_nx, kill_nx]; omega)))) (by repeat (first | exact Cl.p _ | exact Cl.dsl _ _ | exact Cl.any | refine Cl.tup ?_ | refine Cl.agg ?_ | exact Clo.nil | refine Clo.cons ?_ ?_)) ⟨rfl, by rw [hse]; simp [k1, k2, Ty.sameL]; rfl⟩
      · have hs : t.same s = false := by rw [hse]; simp [k2]
        simp (disch := first | omega | simp) [iv, Ty.av, Ty.cs_g0, Ty.cs_g1, put_get_ne, k1, k2]
        exact rt_one hw (by repeat (first | with_reducible assumption | with_reducible exact AH.le.refl _ | with_reducible apply AH.le.up | (with_reducible refine AH.le.put hw ?_ ?_; · first | omega | (simp only [up_nx, put_nx, kill_nx]; done) | (simp only [up_nx, put_nx, kill_nx]; omega)) | (with_reducible refine AH.le.kill hw ?_ ?_; · first | omega | (simp only [up_nx, put_nx, kill_nx]; done) | (simp only [up_nx, put_nx, kill_nx]; omega)))) (by repeat (first | exact Cl.p _ | exact Cl.dsl _ _ | exact Cl.any | refine Cl.tup ?_ | refine Cl.agg ?_ | exact Clo.nil | refine Clo.cons ?_ ?_)) ⟨rfl, by simp [hs, bv]⟩
    · have hs : t.same s = false := by rw [hse]; simp [k1]
      simp (disch := first | omega | simp) [iv, Ty.av, Ty.cs_g0, put_get_ne, k1]
      exact rt_one hw (by repeat (first | with_reducible assumption | with_reducible exact AH.le.refl _ | with_reducible apply AH.le.up | (with_reducible refine AH.le.put hw ?_ ?_; · first | omega | (simp only [up_nx, put_nx, kill_nx]; done) | (simp only [up_nx, put_nx, kill_nx]; omega)) | (with_reducible refine AH.le.kill hw ?_ ?_; · first | omega | (simp only [up_nx, put_nx, kill_nx]; done) | (simp only [up_nx, put_nx, kill_nx]; omega)))) (by repeat (first | exact Cl.p _ | exact Cl.dsl _ _ | exact Cl.any | refine Cl.tup ?_ | refine Cl.agg ?_ | exact Clo.nil | refine Clo.cons ?_ ?_)) ⟨rfl, by simp [hs, bv]⟩
theorem c_RSamePart (t s : Ty) : PF Try.prog 25 [t.av, s.av] (bv (t.same s)) := fun H => c_RSamePartN _ t s (Nat.le_refl _) H
theorem c_RSameParts (a b : List Ty) : PF Try.prog 42 [tE a, tE b] (bv (Ty.sameL a b)) := fun H => tri_len 0 rfl fun hl _ => RSameParts_of a b (by rw [List.length_map] at hl; exact hl) (fun x _ y H => c_RSamePart x y H) H
set_option maxHeartbeats 1000000 in
theorem c_EqualFunc (ts ss : List Ty) (g : FuncId) (hg : callable Try.prog g = true) (H : AH) (hl : ts.length ≤ 9223372036854775807) (hp : ∀ x ∈ ts, ∀ y ∈ ss, ∀ H, Tri Try.prog g [x.av, y.av] H (fun r H' => H' = H ∧ r = bv (x.same y))) :
    Tri Try.prog 80 [.dsl 3 (ts.map Ty.cs), .dsl 3 (ss.map Ty.cs), .fn (.func g) [] []] H (fun r H' => H' = H ∧ r = bv (decide (ts.length = ss.length) && Ty.sames ts ss)) := tri_wf fun hw => tri_slices_EqualFunc_s_api_Part_s_api_Part_api_Part_api_Part (by
  unfold S_slices_EqualFunc_s_api_Part_s_api_Part_api_Part_api_Part
  by_cases k3 : ts.length = ss.length
  · simp (disch := first | omega | simp) [k3]
    refine loop_st (fun i : Nat => [iv i]) (fun i H' => H.le H' ∧ H.nx ≤ H'.nx ∧ i ≤ ts.length ∧ Ty.sames ts ss = Ty.sames (ts.drop i) (ss.drop i)) (fun i => ts.length - i) 0 (.refl (Nat.le_refl _)) ⟨.refl _, Nat.le_refl _, Nat.zero_le _, by simp⟩ ?_
    rintro i H2 hn2 ⟨hle, hn, hi, hsm⟩ k hk
    unfold S_slices_EqualFunc_s_api_Part_s_api_Part_api_Part_api_Part_L1
    by_cases hil : i < ts.length
    · obtain ⟨x, hx⟩ : ∃ x, ts[i]? = some x := ⟨_, List.getElem?_eq_getElem hil⟩
      obtain ⟨y, hy⟩ : ∃ y, ss[i]? = some y := ⟨_, List.getElem?_eq_getElem (by omega)⟩
      have hxg : ∀ h, ts[i]'h = x := fun h => (List.getElem?_eq_some_iff.1 hx).2
      have hyg : ∀ h, ss[i]'h = y := fun h => (List.getElem?_eq_some_iff.1 hy).2
      have his : i < ss.length := by omega
      have hiv := ivn (i := i) (by omega)
      rw [Ty.sames_at hx hy] at hsm
      simp (disch := first | omega | simp) [iv, Ty.cs_len, Ty.cs_take, put_get_ne, hil, his, hxg, hyg]
      refine ca_pure hg (hp x (List.mem_of_getElem? hx) y (List.mem_of_getElem? hy) _) ?_
      cases hq : x.same y with
      | true =>
        rw [hq, Bool.true_and] at hsm
        simp (disch := first | omega | simp) [bv, hiv]
        exact hk (i + 1) _ _ _ (.refl (by first | omega | (simp only [up_nx, put_nx]; done) | (simp only [up_nx, put_nx]; omega))) ⟨(by repeat (first | with_reducible assumption | with_reducible exact AH.le.refl _ | with_reducible apply AH.le.up | (with_reducible refine AH.le.put hw ?_ ?_; · first | omega | (simp only [up_nx, put_nx, kill_nx]; done) | (simp only [up_nx, put_nx, kill_nx]; omega)) | (with_reducible refine AH.le.kill hw ?_ ?_; · first | omega | (simp only [up_nx, put_nx, kill_nx]; done) | (simp only [up_nx, put_nx, kill_nx]; omega)))), (by first | omega | (simp only [up_nx, put_nx]; done) | (simp only [up_nx, put_nx]; omega)), hil, hsm⟩ (by omega)
      | false =>
        rw [hq, Bool.false_and] at hsm
        simp (disch := first | omega | simp) [bv]
        exact rt_one hw (by repeat (first | with_reducible assumption | with_reducible exact AH.le.refl _ | with_reducible apply AH.le.up | (with_reducible refine AH.le.put hw ?_ ?_; · first | omega | (simp only [up_nx, put_nx, kill_nx]; done) | (simp only [up_nx, put_nx, kill_nx]; omega)) | (with_reducible refine AH.le.kill hw ?_ ?_; · first | omega | (simp only [up_nx, put_nx, kill_nx]; done) | (simp only [up_nx, put_nx, kill_nx]; omega)))) (by repeat (first | exact Cl.p _ | exact Cl.dsl _ _ | exact Cl.any | refine Cl.tup ?_ | refine Cl.agg ?_ | exact Clo.nil | refine Clo.cons ?_ ?_)) ⟨rfl, by simp [hsm]⟩
    · rw [Ty.sames_end (by omega)] at hsm
      have his : ¬ i < ss.length := by omega
      simp (disch := first | omega | simp) [iv, his]
      exact rt_one hw (by repeat (first | with_reducible assumption | with_reducible exact AH.le.refl _ | with_reducible apply AH.le.up | (with_reducible refine AH.le.put hw ?_ ?_; · first | omega | (simp only [up_nx, put_nx, kill_nx]; done) | (simp only [up_nx, put_nx, kill_nx]; omega)) | (with_reducible refine AH.le.kill hw ?_ ?_; · first | omega | (simp only [up_nx, put_nx, kill_nx]; done) | (simp only [up_nx, put_nx, kill_nx]; omega)))) (by repeat (first | exact Cl.p _ | exact Cl.dsl _ _ | exact Cl.any | refine Cl.tup ?_ | refine Cl.agg ?_ | exact Clo.nil | refine Clo.cons ?_ ?_)) ⟨rfl, by simp [hsm, bv]⟩
  · have k3' : ¬ ((ts.length : Int) = (ss.length : Int)) := by omega
    simp (disch := first | omega | simp) [k3, k3']
    exact rt_one hw (by repeat (first | with_reducible assumption | with_reducible exact AH.le.refl _ | with_reducible apply AH.le.up | (with_reducible refine AH.le.put hw ?_ ?_; · first | omega | (simp only [up_nx, put_nx, kill_nx]; done) | (simp only [up_nx, put_nx, kill_nx]; omega)) | (with_reducible refine AH.le.kill hw ?_ ?_; · first | omega | (simp only [up_nx, put_nx, kill_nx]; done) | (simp only [up_nx, put_nx, kill_nx]; omega)))) (by repeat (first | exact Cl.p _ | exact Cl.dsl _ _ | exact Cl.any | refine Cl.tup ?_ | refine Cl.agg ?_ | exact Clo.nil | refine Clo.cons ?_ ?_)) ⟨rfl, by simp [bv]⟩)
theorem c_same (N : Nat) : ∀ t s : Ty, t.size ≤ N → ∀ H : AH, Tri Try.prog 76 [t.av, s.av] H (fun r H' => H' = H ∧ r = bv (t.same s)) := by
  induction N with
  | zero => intro t s ht; have := t.size_pos; omega
  | succ N ih =>
    intro t s ht H
    refine tri_wf fun hw => tri_lenA 0 2 rfl t.cs_g2 fun hl => tri_speech_same ?_
    have hml : maxLen = 9223372036854775807 := by decide
    rw [List.length_map] at hl
    have hsz := t.size_eq
    have hse := Ty.same_eq t s
    unfold S_speech_same
    by_cases k1 : t.kind = s.kind
    · by_cases k2 : t.num = s.num
      · simp (disch := first | omega | simp) [iv, Ty.av, Ty.cs_g0, Ty.cs_g1, Ty.cs_g2, put_get_ne, k1, k2]
        refine ca_pure (by kernel_rfl) (c_EqualFunc t.kids s.kids _ (by kernel_rfl) _ (by omega) (fun x hx y hy H => ih x y (by have := Ty.sizes_mem hx; omega) H)) ?_
        simp (disch := first | omega | simp) [bv]
        exact rt_one hw (by repeat (first | with_reducible assumption | with_reducible exact AH.le.refl _ | with_reducible apply AH.le.up | (with_reducible refine AH.le.put hw ?_ ?_; · first | omega | (simp only [up_nx, put_nx, kill_nx]; done) | (simp only [up_nx, put_nx, kill_nx]; omega)) | (with_reducible refine AH.le.kill hw ?_ ?_; · first | omega | (simp only [up_nx, put_nx, kill_nx]; done) | (simp only [up_nx, put_nx, kill_nx]; omega)))) (by repeat (first | exact Cl.p _ | exact Cl.dsl _ _ | exact Cl.any | refine Cl.tup ?_ | refine Cl.agg ?_ | exact Clo.nil | refine Clo.cons ?_ ?_)) ⟨rfl, by rw [hse]; simp [k1, k2]; rfl⟩
      · have hs : t.same s = false := by rw [hse]; simp [k2]
        simp (disch := first | omega | simp) [iv, Ty.av, Ty.cs_g0, Ty.cs_g1, put_get_ne, k1, k2]
        exact rt_one hw (by repeat (first | with_reducible assumption | with_reducible exact AH.le.refl _ | with_reducible apply AH.le.up | (with_reducible refine AH.le.put hw ?_ ?_; · first | omega | (simp only [up_nx, put_nx, kill_nx]; done) | (simp only [up_nx, put_nx, kill_nx]; omega)) | (with_reducible refine AH.le.kill hw ?_ ?_; · first | omega | (simp only [up_nx, put_nx, kill_nx]; done) | (simp only [up_nx, put_nx, kill_nx]; omega)))) (by repeat (first | exact Cl.p _ | exact Cl.dsl _ _ | exact Cl.any | refine Cl.tup ?_ | refine Cl.agg ?_ | exact Clo.nil | refine Clo.cons ?_ ?_)) ⟨rfl, by simp [hs, bv]⟩
    · have hs : t.same s = false := by rw [hse]; simp [k1]
      simp (disch := first | omega | simp) [iv, Ty.av, Ty.cs_g0, put_get_ne, k1]
      exact rt_one hw (by repeat (first | with_reducible assumption | with_reducible exact AH.le.refl _ | with_reducible apply AH.le.up | (with_reducible refine AH.le.put hw ?_ ?_; · first | omega | (simp only [up_nx, put_nx, kill_nx]; done) | (simp only [up_nx, put_nx, kill_nx]; omega)) | (with_reducible refine AH.le.kill hw ?_ ?_; · first | omega | (simp only [up_nx, put_nx, kill_nx]; done) | (simp only [up_nx, put_nx, kill_nx]; omega)))) (by repeat (first | exact Cl.p _ | exact Cl.dsl _ _ | exact Cl.any | refine Cl.tup ?_ | refine Cl.agg ?_ | exact Clo.nil | refine Clo.cons ?_ ?_)) ⟨rfl, by simp [hs, bv]⟩
theorem c_sameP (t s : Ty) : PF Try.prog 76 [t.av, s.av] (bv (t.same s)) := fun H => c_same _ t s (Nat.le_refl _) H
theorem c_sameAll (a b : List Ty) : PF Try.prog 78 [tE a, tE b] (bv (Ty.sameL a b)) := fun H => tri_wf fun hw => tri_len 0 rfl fun hl _ => tri_speech_sameAll (by
  rw [List.length_map] at hl
  have hml : maxLen = 9223372036854775807 := by decide
  unfold S_speech_sameAll
  refine ca_pure (by kernel_rfl) (c_EqualFunc a b _ (by kernel_rfl) _ (by omega) (fun x _ y _ H => c_sameP x y H)) ?_
  exact rt_one hw (by repeat (first | with_reducible assumption | with_reducible exact AH.le.refl _ | with_reducible apply AH.le.up | (with_reducible refine AH.le.put hw ?_ ?_; · first | omega | (simp only [up_nx, put_nx, kill_nx]; done) | (simp only [up_nx, put_nx, kill_nx]; omega)) | (with_reducible refine AH.le.kill hw ?_ ?_; · first | omega | (simp only [up_nx, put_nx, kill_nx]; done) | (simp only [up_nx, put_nx, kill_nx]; omega)))) (by repeat (first | exact Cl.p _ | exact Cl.dsl _ _ | exact Cl.any | refine Cl.tup ?_ | refine Cl.agg ?_ | exact Clo.nil | refine Clo.cons ?_ ?_)) ⟨rfl, rfl⟩)
end Go.Proofs.Ytpmnlikgldacaaa
