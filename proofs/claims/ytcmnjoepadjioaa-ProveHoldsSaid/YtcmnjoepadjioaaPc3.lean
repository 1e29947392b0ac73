/- HoldsIn of the answer; the lists of claims that are checked. -/
import Derived.Test.YtcmnjoepadjioaaPc2
namespace Go.Proofs.Ytcmnjoepadjioaa
open Go.RowKit Go.Maps
theorem c_RHoldsIn {xs : List Int} (hx : ∀ x ∈ xs, inWd x) {c : Clm} (hc : c.ok) : PF Try.prog 12 [wE xs, c.av] (bv (holdsC (natL xs) c)) := fun H => tri_wf fun hw => tri_len 0 rfl fun hl _ => tri_wordhoardref_HoldsIn (by
  have hml : maxLen = 9223372036854775807 := by decide
  rw [List.length_map] at hl
  unfold S_wordhoardref_HoldsIn wE Clm.av
  simp +contextual
  refine loop_st (fun i : Nat => [iv i]) (fun i H' => H' = (H.up 2).put H.nx (.box 24 c.cs) ∧ i ≤ xs.length ∧ ∀ y ∈ xs.take i, holds1 y.toNat c = false) (fun i => xs.length - i) 0 (.refl (Nat.le_refl _)) ⟨rfl, Nat.zero_le _, by simp⟩ ?_
  rintro i _ _ ⟨rfl, hi, hno⟩ k hk
  simp only [iv, List.getD_cons_zero]
  by_cases hi2 : i < xs.length
  · have hg := List.getElem?_eq_getElem hi2
    obtain ⟨n, hn⟩ := Int.eq_ofNat_of_zero_le (hx _ (List.getElem_mem hi2)).1
    have hn2 : n < 64 := by have := (hx _ (List.getElem_mem hi2)).2; omega
    have hnat : (xs[i]).toNat = n := by rw [hn]; rfl
    have hany : holds1 n c = true → holdsC (natL xs) c = c.so := fun h => by
      unfold holdsC natL
      rw [List.any_map, show xs.any ((fun w => holds1 w c) ∘ Int.toNat) = true from List.any_eq_true.2 ⟨_, List.getElem_mem hi2, by simp [hnat, h]⟩]
      cases c.so <;> rfl
    simp [hi2, Clm.cs, hn]
    refine cav_pure (by kernel_rfl) (fun H2 _ => c_RIs n (by omega) c.a hc.1 H2) ?_
    cases h1 : isL n c.a
    · simp [bv]
      rw [ivn (by omega)]
      exact hk (i + 1) _ _ _ (.refl (Nat.le_refl _)) ⟨rfl, hi2, any_take hno hg (by rw [hnat]; simp [holds1, h1])⟩ (by omega)
    · simp [bv, hi2, Clm.cs, hn]
      refine cav_pure (by kernel_rfl) (fun H2 _ => c_RIs n (by omega) c.b hc.2 H2) ?_
      simp [bv, Clm.cs]
      refine ⟨fun h2 => ?_, fun h2 => ?_⟩
      · refine rt_one hw (by repeat (first | exact AH.le.refl _ | assumption | apply AH.le.up | apply AH.le.put hw (by first | omega | (simp only [up_nx, put_nx, kill_nx]; done) | (simp only [up_nx, put_nx, kill_nx]; omega)) | apply AH.le.kill hw (by first | omega | (simp only [up_nx, put_nx, kill_nx]; done) | (simp only [up_nx, put_nx, kill_nx]; omega)))) (by repeat (first | exact Cl.p _ | exact Cl.dsl _ _ | exact Cl.any | refine Cl.tup ?_ | refine Cl.agg ?_ | exact Clo.nil | refine Clo.cons ?_ ?_)) ⟨rfl, ?_⟩
        rw [hany (by simp [holds1, h1, h2])]
      · rw [ivn (by omega)]
        exact hk (i + 1) _ _ _ (.refl (Nat.le_refl _)) ⟨rfl, hi2, any_take hno hg (by rw [hnat]; simp [holds1, h1, h2])⟩ (by omega)
  · simp [hi2, Clm.cs]
    refine rt_one hw (by repeat (first | exact AH.le.refl _ | assumption | apply AH.le.up | apply AH.le.put hw (by first | omega | (simp only [up_nx, put_nx, kill_nx]; done) | (simp only [up_nx, put_nx, kill_nx]; omega)) | apply AH.le.kill hw (by first | omega | (simp only [up_nx, put_nx, kill_nx]; done) | (simp only [up_nx, put_nx, kill_nx]; omega)))) (by repeat (first | exact Cl.p _ | exact Cl.dsl _ _ | exact Cl.any | refine Cl.tup ?_ | refine Cl.agg ?_ | exact Clo.nil | refine Clo.cons ?_ ?_)) ⟨rfl, ?_⟩
    rw [List.take_of_length_le (by omega)] at hno
    unfold holdsC natL
    rw [List.any_map, show xs.any ((fun w => holds1 w c) ∘ Int.toNat) = false from List.any_eq_false.2 fun y hy => by simp [hno y hy]]
    cases c.so <;> rfl)
def cE (l : List Clm) : AV := .dsl 3 (l.map Clm.cs)
theorem dt_cs (l : List Clm) : DtR (l.map Clm.cs) := by
  intro e he a ha
  obtain ⟨c, _, rfl⟩ := List.mem_map.1 he
  simp only [Clm.cs, List.mem_cons, List.not_mem_nil, or_false] at ha
  rcases ha with rfl | rfl | rfl <;> exact Dt.p _
theorem c_Grow {H : AH} {n : Int} (h0 : 0 ≤ n) (h1 : n * 24 ≤ 140737488355328) : Tri Try.prog 45 [.p (.slice none 0 0), iv n] H (fun v H' => Grows 24 3 H H' v [] ∧ H.le H' ∧ H.nx ≤ H'.nx) := tri_wf fun hw => tri_slices_Grow_s_api_Claim_api_Claim (by
  have hml : maxLen = 9223372036854775807 := by decide
  unfold S_slices_Grow_s_api_Claim_api_Claim
  refine cut_st (α := Unit) (fun _ => []) (fun _ H' => H' = H) (fun k hk => ?_) ?_
  · simp [iv]
    exact ⟨h0, fun _ => hk () _ _ _ (.refl (Nat.le_refl _)) rfl⟩
  · rintro _ _ _ rfl
    have hz : IntKind.i64.wrap (0 - 0) = 0 := by decide
    have hz2 : IntKind.i64.wrap 0 = 0 := by decide
    have hz3 : IntKind.i64.wrap n = n := by rw [IntKind.wrap_i64]; omega
    simp [iv, hz, hz2, hz3]
    refine ⟨fun h => ⟨h0, by omega, h1, by omega, ?_⟩, fun h => ?_⟩
    · refine rt_refl ⟨?_, (by repeat (first | exact AH.le.refl _ | assumption | apply AH.le.up | apply AH.le.put hw (by first | omega | (simp only [up_nx, put_nx, kill_nx]; done) | (simp only [up_nx, put_nx, kill_nx]; omega)) | apply AH.le.kill hw (by first | omega | (simp only [up_nx, put_nx, kill_nx]; done) | (simp only [up_nx, put_nx, kill_nx]; omega)))), (by first | omega | (simp only [up_nx, put_nx, kill_nx]; done) | (simp only [up_nx, put_nx, kill_nx]; omega))⟩ (by first | omega | (simp only [up_nx, put_nx, kill_nx]; done) | (simp only [up_nx, put_nx, kill_nx]; omega))
      refine .inr ⟨_, _, rfl, (by first | omega | (simp only [up_nx, put_nx, kill_nx]; done) | (simp only [up_nx, put_nx, kill_nx]; omega)), (by first | omega | (simp only [up_nx, put_nx, kill_nx]; done) | (simp only [up_nx, put_nx, kill_nx]; omega)), put_get _ _, rfl, fun e he a ha => ?_⟩
      rw [List.mem_replicate] at he
      rw [he.2] at ha
      simp at ha
      rcases ha with rfl | rfl | rfl <;> exact Dt.p _
    · exact rt_refl ⟨.nil _ _ _ _, .refl _, Nat.le_refl _⟩ (Nat.le_refl _))
theorem flat_take {α : Type} {ls : List (List α)} {i : Nat} {l : List α} (h : ls[i]? = some l) : (ls.take (i + 1)).flatten = (ls.take i).flatten ++ l := by
  rw [List.take_add_one, h]; simp
theorem flat_take_le {α : Type} {ls : List (List α)} {i : Nat} : (ls.take i).flatten.length ≤ ls.flatten.length := by
  conv => rhs; rw [← List.take_append_drop i ls, List.flatten_append, List.length_append]
  omega
def tot {α : Type} (ls : List (List α)) (i : Nat) : Nat := (ls.take i).flatten.length
theorem tot_succ {α : Type} {ls : List (List α)} {i : Nat} {l : List α} (h : ls[i]? = some l) : tot ls (i + 1) = tot ls i + l.length := by unfold tot; rw [flat_take h, List.length_append]
theorem tot_le {α : Type} {ls : List (List α)} {i : Nat} : tot ls i ≤ ls.flatten.length := flat_take_le
theorem c_Concat (ls : List (List Clm)) (hb : ls.flatten.length * 24 ≤ 140737488355328) : PF Try.prog 40 [.dsl 1 (ls.map fun l => [cE l])] (cE ls.flatten) := fun H => tri_wf fun hw => tri_len 0 rfl fun hl _ => tri_slices_Concat_s_api_Claim_api_Claim (by
  have hml : maxLen = 9223372036854775807 := by decide
  rw [List.length_map] at hl
  unfold S_slices_Concat_s_api_Claim_api_Claim
  simp +contextual
  refine loop_st (fun i : Nat => [iv (tot ls i), iv i]) (fun i H' => H = H' ∧ i ≤ ls.length) (fun i => ls.length - i) 0 (.refl (Nat.le_refl _)) ⟨rfl, Nat.zero_le _⟩ ?_
  rintro i _ _ ⟨rfl, hi⟩ k hk
  simp only [iv, List.getD_cons_zero, List.getD_cons_succ]
  by_cases hi2 : i < ls.length
  · have hg := List.getElem?_eq_getElem hi2
    have hle := tot_le (ls := ls) (i := i + 1)
    rw [tot_succ hg] at hle
    have hws : IntKind.i64.wrap ((tot ls i : Int) + ((ls[i]).length : Int)) = (tot ls (i + 1) : Int) := by rw [tot_succ hg, IntKind.wrap_i64]; omega
    simp [hi2, cE, hws]
    rw [ivn (by omega)]
    exact hk (i + 1) _ _ _ (.refl (Nat.le_refl _)) ⟨rfl, hi2⟩ (by omega)
  · have hii : i = ls.length := by omega
    simp [hi2]
    have htot : tot ls i = ls.flatten.length := by unfold tot; rw [hii, List.take_length]
    refine ca_of (by kernel_rfl) (c_Grow (by omega) (by omega)) ?_
    rintro v H1 ⟨hg, hle, hn⟩
    simp +contextual
    refine loop_st (fun x : Nat × AV => [x.2, iv x.1]) (fun x H' => Grows 24 3 H H' x.2 ((ls.take x.1).flatten.map Clm.cs) ∧ H.le H' ∧ H.nx ≤ H'.nx ∧ x.1 ≤ ls.length) (fun x => ls.length - x.1) (0, v) (.refl (Nat.le_refl _)) ⟨by simpa using hg, hle, hn, Nat.zero_le _⟩ ?_
    rintro ⟨j, u⟩ H2 hn2 ⟨g2, hle2, hn3, hj⟩ k2 hk2
    dsimp only at g2 hj
    simp only [iv, List.getD_cons_zero, List.getD_cons_succ]
    by_cases hj2 : j < ls.length
    · have hgj := List.getElem?_eq_getElem hj2
      have hlej := tot_le (ls := ls) (i := j + 1)
      rw [tot_succ hgj] at hlej
      simp [hj2, cE]
      unfold tot at hlej
      refine Grows.app (H1 := H2.up 4) hw (g2.keep (Nat.le_add_right _ _) fun _ _ _ h => h) hle2 (by first | omega | (simp only [up_nx, put_nx, kill_nx]; done) | (simp only [up_nx, put_nx, kill_nx]; omega)) (by first | omega | (simp only [up_nx, put_nx, kill_nx]; done) | (simp only [up_nx, put_nx, kill_nx]; omega)) (elF_dsl _ _) (dt_cs _) (by rw [List.length_map, List.length_map]; omega) (by rw [List.length_map, List.length_map]; omega) fun v' H3 g3 l3 n3 _ _ => ?_
      have hiv := ivn (i := j) (by omega)
      simp [hiv]
      exact hk2 (j + 1, v') _ _ _ (.refl (by rw [n3]; exact Nat.le_trans hn2 (Nat.le_add_right _ _))) ⟨by rw [flat_take hgj, List.map_append]; exact g3, l3, by rw [n3]; exact Nat.le_trans hn3 (Nat.le_add_right _ _), hj2⟩ (by simp only; omega)
    · simp [hj2]
      have hjj : j = ls.length := by omega
      subst hjj
      rw [List.take_length] at g2
      exact g2.rt hw hle2 hn3 ⟨rfl, rfl⟩)
def okL (l : List Clm) : Int := if l.all (fun c => decide c.ok) then 0 else 3
def okP (p l : List Clm) : Int := if p.length > 20 then 7 else okL (p ++ l)
theorem all_take {α : Type} {xs : List α} {p : α → Bool} {i : Nat} {x : α} (h : ∀ y ∈ xs.take i, p y = true) (hx : xs[i]? = some x) (hp : p x = true) : ∀ y ∈ xs.take (i + 1), p y = true := fun y hy => by
  rw [List.take_add_one, hx] at hy
  simp at hy
  rcases hy with hy | rfl
  · exact h y hy
  · exact hp
theorem c_checkAll (p l : List Clm) (hb : l.length * 24 ≤ 140737488354328) : PF Try.prog 24 [cE p, cE l] (iv (okP p l)) := fun H => tri_wf fun hw => tri_prove_checkAll (by
  have hml : maxLen = 9223372036854775807 := by decide
  unfold S_prove_checkAll
  simp +contextual [cE]
  refine ⟨fun h => rt_refl ⟨rfl, by unfold okP; rw [if_pos (by omega)]; rfl⟩ (Nat.le_refl _), fun h => ?_⟩
  refine ca_of (by kernel_rfl) (Tri.st (.freeze (put_get _ _) (fun e he a ha => ?_)) (Tri.args (.cons (Sub.frz AH.get_put_self (by simp)) .nil) (c_Concat [p, l] (by simp; omega) _))) ?_
  · simp at he; rcases he with rfl | rfl <;> (simp at ha; subst ha; exact .dsl _ _)
  rintro _ _ ⟨rfl, rfl⟩
  simp [cE]
  rw [← List.map_append]
  refine loop_st (fun i : Nat => [iv i]) (fun i H' => H.le H' ∧ H.nx ≤ H'.nx ∧ i ≤ (p ++ l).length ∧ ∀ y ∈ (p ++ l).take i, decide y.ok = true) (fun i => (p ++ l).length - i) 0 (.refl (by first | omega | (simp only [up_nx, put_nx, kill_nx]; done) | (simp only [up_nx, put_nx, kill_nx]; omega))) ⟨(by repeat (first | exact AH.le.refl _ | assumption | apply AH.le.up | apply AH.le.put hw (by first | omega | (simp only [up_nx, put_nx, kill_nx]; done) | (simp only [up_nx, put_nx, kill_nx]; omega)) | apply AH.le.kill hw (by first | omega | (simp only [up_nx, put_nx, kill_nx]; done) | (simp only [up_nx, put_nx, kill_nx]; omega)))), (by first | omega | (simp only [up_nx, put_nx, kill_nx]; done) | (simp only [up_nx, put_nx, kill_nx]; omega)), Nat.zero_le _, by simp⟩ ?_
  rintro i H1 hn1 ⟨hle, hn, hi, hall⟩ k hk
  have hlen : ((p.length : Int) + (l.length : Int)) = (((p ++ l).length : Nat) : Int) := by simp
  have hb2 : (p ++ l).length < 9223372036854775807 := by rw [List.length_append]; omega
  rw [hlen]
  have hokp : okP p l = okL (p ++ l) := by unfold okP; rw [if_neg (by omega)]
  rw [hokp]
  generalize p ++ l = xs at *
  by_cases hi2 : i < xs.length
  · have hg := List.getElem?_eq_getElem hi2
    simp [iv, hi2, Clm.cs]
    refine ca_pure (by kernel_rfl) (c_Check xs[i] _) ?_
    by_cases hok : xs[i].ok
    · simp [hok, iv]
      rw [ivn (by omega)]
      exact hk (i + 1) _ _ _ (.refl (by simp only [up_nx, put_nx] at hn1 ⊢; omega)) ⟨(by repeat (first | exact AH.le.refl _ | assumption | apply AH.le.up | apply AH.le.put hw (by first | omega | (simp only [up_nx, put_nx, kill_nx]; done) | (simp only [up_nx, put_nx, kill_nx]; omega)) | apply AH.le.kill hw (by first | omega | (simp only [up_nx, put_nx, kill_nx]; done) | (simp only [up_nx, put_nx, kill_nx]; omega)))), (by first | omega | (simp only [up_nx, put_nx, kill_nx]; done) | (simp only [up_nx, put_nx, kill_nx]; omega)), hi2, all_take hall hg (by simp [hok])⟩ (by omega)
    · simp [hok, iv]
      refine rt_one hw (by repeat (first | exact AH.le.refl _ | assumption | apply AH.le.up | apply AH.le.put hw (by first | omega | (simp only [up_nx, put_nx, kill_nx]; done) | (simp only [up_nx, put_nx, kill_nx]; omega)) | apply AH.le.kill hw (by first | omega | (simp only [up_nx, put_nx, kill_nx]; done) | (simp only [up_nx, put_nx, kill_nx]; omega)))) (by repeat (first | exact Cl.p _ | exact Cl.dsl _ _ | exact Cl.any | refine Cl.tup ?_ | refine Cl.agg ?_ | exact Clo.nil | refine Clo.cons ?_ ?_)) ⟨rfl, ?_⟩
      unfold okL
      rw [if_neg]
      simp
      exact ⟨_, List.getElem_mem hi2, hok⟩
  · simp [iv, hi2]
    refine rt_one hw (by repeat (first | exact AH.le.refl _ | assumption | apply AH.le.up | apply AH.le.put hw (by first | omega | (simp only [up_nx, put_nx, kill_nx]; done) | (simp only [up_nx, put_nx, kill_nx]; omega)) | apply AH.le.kill hw (by first | omega | (simp only [up_nx, put_nx, kill_nx]; done) | (simp only [up_nx, put_nx, kill_nx]; omega)))) (by repeat (first | exact Cl.p _ | exact Cl.dsl _ _ | exact Cl.any | refine Cl.tup ?_ | refine Cl.agg ?_ | exact Clo.nil | refine Clo.cons ?_ ?_)) ⟨rfl, ?_⟩
    unfold okL
    rw [List.take_of_length_le (by omega)] at hall
    rw [if_pos (by simpa using hall)])
end Go.Proofs.Ytcmnjoepadjioaa
