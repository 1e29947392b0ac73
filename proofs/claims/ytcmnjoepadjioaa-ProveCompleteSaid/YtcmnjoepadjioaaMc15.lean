/- Texts that the proof rests on, part 15: what each holds stands at its head. -/
import Derived.Test.YtcmnjoepadjioaaMc14

/- The law ProveArgues, walked. -/
namespace Go.Proofs.Ytcmnjoepadjioaa
open Go.RowKit Go.Maps
theorem pc_begun {H : AH} : Tri Try.prog 10 [] H (fun v H' => H' = H ∧ v = bv true) := c_begun H
theorem right_len {p cs : List Clm} {n : Nat} {x : Lin} (h : rightB p cs n x = true) : x.src.length ≤ 2 := by
  unfold rightB at h
  split at h
  · rename_i of hof
    have hl : of.length = x.src.length := by
      split at hof
      · exact pickC_len hof
      · exact pickC_len hof
    have : 1 ≤ x.rule ∧ x.rule ≤ 10 ∧ of.length = countR x.rule := Decidable.byContradiction fun hc => by rw [ruleB_count hc] at h; cases h
    rw [← hl, this.2.2]
    unfold countR
    split
    · omega
    · split <;> omega
  · cases h
theorem okW_nI {L : List Nat} (h1 : L.length ≤ 64) (h2 : ∀ w ∈ L, w < 64) : okW (nI L) = 0 := by
  unfold okW
  rw [if_neg (by simp [nI]; omega), if_pos]
  rw [List.all_eq_true]; intro x hx; simpa using nI_in h2 x hx
theorem agW_len (p : List Clm) (c : Clm) : (agW p c).length ≤ 64 := by
  have h1 : (mayL p).length ≤ 64 := by
    have := List.length_filter_le (mayB p) (List.range 64)
    rw [List.length_range] at this
    exact this
  unfold agW
  split
  · exact Nat.le_trans (List.length_filter_le _ _) h1
  · exact h1
theorem c_ProveArgues (p : List Clm) (c : Clm) (H : AH) : Tri Try.prog 5 [cE p, c.av] H (fun r _ => r = .p (.bool true)) := tri_wf fun hw => tri_wordhoardlaw_ProveArgues (by
  unfold S_wordhoardlaw_ProveArgues
  simp (disch := first | omega | simp) [Clm.av, Clm.cs]
  refine ca_of (by kernel_rfl) (c_Argue p c _) ?_
  rintro r H1 ⟨rfl, har⟩
  rcases har with ⟨hne, rfl⟩ | ⟨h0, hag, out, rfl, har, hoo, hol, init, y, hout, hyc⟩ | ⟨h0, hag, rfl⟩
  · have hag : agR p c = .tup [.p (.slice none 0 0), bv false, iv (okP p [c])] := by unfold agR; rw [if_pos hne]
    simp (disch := first | omega | simp)
    refine ca_pure (by kernel_rfl) (c_Against p c _) ?_
    rw [hag]
    simp (disch := first | omega | simp)
    refine ca_row (ps := [cE p]) (qs := []) (es := [c].map Clm.cs) (by kernel_rfl) (put_get _ _) (dt_cs [c]) rfl (c_RCheckClaims p [c] (by simp) _) ?_
    rintro _ H2 ⟨rfl, rfl⟩
    refine ca_pure (by kernel_rfl) (pc_begun) ?_
    simp (disch := first | omega | simp) [iv, bv, hne]
    exact rt_refl rfl (by first | omega | (simp only [up_nx, put_nx]; done) | (simp only [up_nx, put_nx]; omega))
  · have hok := okP_zero h0
    have hpo : ∀ q ∈ p, q.ok := fun q hq => hok.2 q (List.mem_append_left _ hq)
    have hco : c.ok := hok.2 c (by simp)
    have hagr : agR p c = .tup [.p (.slice none 0 0), bv false, iv 0] := by unfold agR; rw [if_neg (by rw [h0]; decide), hag]; rfl
    simp (disch := first | omega | simp)
    refine ca_pure (by kernel_rfl) (c_Against p c _) ?_
    rw [hagr]
    simp (disch := first | omega | simp)
    refine ca_row (ps := [cE p]) (qs := []) (es := [c].map Clm.cs) (by kernel_rfl) (put_get _ _) (dt_cs [c]) rfl (c_RCheckClaims p [c] (by simp) _) ?_
    rintro _ H2 ⟨rfl, rfl⟩
    refine ca_pure (by kernel_rfl) (pc_begun) ?_
    rw [h0]
    simp (disch := first | omega | simp) [iv, bv]
    unfold S_wordhoardlaw_ProveArgues_C4
    simp (disch := first | omega | simp) [put_get_ne]
    refine ca_pure (by kernel_rfl) (c_RFollows p c hok.1 hpo hco _) ?_
    rw [hag]
    simp (disch := first | omega | simp) [bv]
    obtain ⟨n, hn⟩ : ∃ n, out.length = n + 1 := ⟨init.length, by rw [hout]; simp⟩
    have hlast : out[n]? = some y := by
      rw [hout] at hn ⊢
      simp at hn
      rw [List.getElem?_append_right (by omega)]; simp [hn]
    have hlg : ∀ h, out[n]'h = y := fun h => (List.getElem?_eq_some_iff.1 hlast).2
    have hnl : n < out.length := by omega
    unfold S_wordhoardlaw_ProveArgues_C3
    have hz : ¬ ((n : Int) + 1 = 0) := by omega
    have h400 : ¬ (400 < (n : Int) + 1) := by omega
    have hwn : IntKind.i64.wrap (n : Int) = (n : Int) := by rw [IntKind.wrap_i64]; omega
    simp (disch := first | omega | simp) [iv, put_get_ne, hn, hz, h400, hwn, hlg, Lin.cs]
    refine ⟨by omega, q_neClm (c := y.c) (d := c) ?_⟩
    simp (disch := first | omega | simp) [hyc]
    refine loop_st (fun i : Nat => [iv i]) (fun i H' => i ≤ out.length ∧ H.nx ≤ H'.nx) (fun i => out.length - i) 0 (.refl (Nat.le_refl _)) ⟨Nat.zero_le _, (by first | omega | (simp only [up_nx, put_nx]; done) | (simp only [up_nx, put_nx]; omega))⟩ ?_
    rintro i H3 hn3 ⟨hi, hnx⟩ k hk
    unfold S_wordhoardlaw_ProveArgues_L2
    by_cases hil : i < out.length
    · obtain ⟨z, hz⟩ : ∃ z, out[i]? = some z := ⟨_, List.getElem?_eq_getElem hil⟩
      have hzg : ∀ h, out[i]'h = z := fun h => (List.getElem?_eq_some_iff.1 hz).2
      have hiv := ivn (i := i) (by omega)
      have hzo := hoo z (List.mem_of_getElem? hz)
      have hzr := har i z hz
      simp (disch := first | omega | simp) [iv, cE, Lin.cs, hil, hzg]
      refine ca_pure (by kernel_rfl) (c_RCheckClaim z.c _) ?_
      rw [if_pos hzo]
      simp (disch := first | omega | simp) [iv]
      refine ca_pure (by kernel_rfl) (c_SoundLine p out i hz hpo hoo (by have := right_len hzr; omega) (by omega) _) ?_
      rw [hzr]
      simp (disch := first | omega | simp) [bv, hiv]
      exact hk (i + 1) _ _ _ (.refl hn3) ⟨hil, hnx⟩ (by omega)
    · simp (disch := first | omega | simp) [iv, cE, hil]
      exact rt_refl rfl hnx
  · have hok := okP_zero h0
    have hpo : ∀ q ∈ p, q.ok := fun q hq => hok.2 q (List.mem_append_left _ hq)
    have hco : c.ok := hok.2 c (by simp)
    have hagr : agR p c = .tup [wE (nI (agW p c)), bv true, iv 0] := by unfold agR; rw [if_neg (by rw [h0]; decide), hag]; rfl
    simp (disch := first | omega | simp)
    refine ca_pure (by kernel_rfl) (c_Against p c _) ?_
    rw [hagr]
    simp (disch := first | omega | simp)
    refine ca_row (ps := [cE p]) (qs := []) (es := [c].map Clm.cs) (by kernel_rfl) (put_get _ _) (dt_cs [c]) rfl (c_RCheckClaims p [c] (by simp) _) ?_
    rintro _ H2 ⟨rfl, rfl⟩
    refine ca_pure (by kernel_rfl) (pc_begun) ?_
    rw [h0]
    simp (disch := first | omega | simp) [iv, bv]
    unfold S_wordhoardlaw_ProveArgues_C4
    simp (disch := first | omega | simp) [put_get_ne]
    refine ca_pure (by kernel_rfl) (c_RFollows p c hok.1 hpo hco _) ?_
    rw [hag]
    simp (disch := first | omega | simp) [bv]
    refine ca_pure (by kernel_rfl) (c_RCheckWorld _ _) ?_
    rw [okW_nI (agW_len p c) agW_lt]
    simp (disch := first | omega | simp) [iv, put_get_ne]
    refine ca_pure (by kernel_rfl) (c_RHoldsIn (nI_in agW_lt) hco _) ?_
    obtain ⟨ha1, ha2⟩ := agW_against hag
    rw [natL_nI, ha2]
    simp (disch := first | omega | simp) [bv]
    refine loop_st (fun i : Nat => [iv i]) (fun i H' => i ≤ p.length ∧ H.nx ≤ H'.nx) (fun i => p.length - i) 0 (.refl (Nat.le_refl _)) ⟨Nat.zero_le _, (by first | omega | (simp only [up_nx, put_nx]; done) | (simp only [up_nx, put_nx]; omega))⟩ ?_
    rintro i H3 hn3 ⟨hi, hnx⟩ k hk
    unfold S_wordhoardlaw_ProveArgues_L1
    by_cases hil : i < p.length
    · obtain ⟨q, hq⟩ : ∃ q, p[i]? = some q := ⟨_, List.getElem?_eq_getElem hil⟩
      have hqg : ∀ h, p[i]'h = q := fun h => (List.getElem?_eq_some_iff.1 hq).2
      have hiv := ivn (i := i) (by omega)
      simp (disch := first | omega | simp) [iv, cE, Clm.cs, hil, hqg]
      refine ca_pure (by kernel_rfl) (c_RHoldsIn (nI_in agW_lt) (hpo q (List.mem_of_getElem? hq)) _) ?_
      rw [natL_nI, ha1 q (List.mem_of_getElem? hq)]
      simp (disch := first | omega | simp) [bv, hiv]
      exact hk (i + 1) _ _ _ (.refl hn3) ⟨hil, hnx⟩ (by omega)
    · simp (disch := first | omega | simp) [iv, cE, hil]
      exact rt_refl rfl hnx)
end Go.Proofs.Ytcmnjoepadjioaa

/- Is a line right. -/
namespace Go.Proofs.Ytcmnjoepadjioaa
open Go.RowKit Go.Maps
theorem lawInt : Keyed Try.prog 3 := int_keyed Try.underlying3
theorem keyInt {i : Int} (h : I64 i) : (keyOf Try.prog 3 (.int .i64 i)).isSome = true := by
  rw [keyOf_int Try.underlying3]
  exact h
theorem keyLit (n : Nat) (h : n < 9223372036854775808) : (keyOf Try.prog 3 (.int .i64 (no_index (OfNat.ofNat n)))).isSome = true := keyInt ⟨by show (-9223372036854775808 : Int) ≤ ((n : Nat) : Int); omega, by show ((n : Nat) : Int) ≤ 9223372036854775807; omega⟩
theorem c_all (a b : Int) : PF Try.prog 41 [iv a, iv b] (Clm.av ⟨false, a, b⟩) := fun H => tri_wf fun hw => tri_prove_right_fn1 (by
  unfold S_prove_right_fn1
  simp (disch := first | omega | simp) [iv]
  exact rt_one hw (by repeat (first | with_reducible assumption | with_reducible exact AH.le.refl _ | with_reducible apply AH.le.up | (with_reducible refine AH.le.put hw ?_ ?_; · first | omega | (simp only [up_nx, put_nx, kill_nx]; done) | (simp only [up_nx, put_nx, kill_nx]; omega)) | (with_reducible refine AH.le.kill hw ?_ ?_; · first | omega | (simp only [up_nx, put_nx, kill_nx]; done) | (simp only [up_nx, put_nx, kill_nx]; omega)))) (by repeat (first | exact Cl.p _ | exact Cl.dsl _ _ | exact Cl.any | refine Cl.tup ?_ | refine Cl.agg ?_ | exact Clo.nil | refine Clo.cons ?_ ?_)) ⟨rfl, rfl⟩)
theorem c_some (a b : Int) : PF Try.prog 42 [iv a, iv b] (Clm.av ⟨true, a, b⟩) := fun H => tri_wf fun hw => tri_prove_right_fn2 (by
  unfold S_prove_right_fn2
  simp (disch := first | omega | simp) [iv]
  exact rt_one hw (by repeat (first | with_reducible assumption | with_reducible exact AH.le.refl _ | with_reducible apply AH.le.up | (with_reducible refine AH.le.put hw ?_ ?_; · first | omega | (simp only [up_nx, put_nx, kill_nx]; done) | (simp only [up_nx, put_nx, kill_nx]; omega)) | (with_reducible refine AH.le.kill hw ?_ ?_; · first | omega | (simp only [up_nx, put_nx, kill_nx]; done) | (simp only [up_nx, put_nx, kill_nx]; omega)))) (by repeat (first | exact Cl.p _ | exact Cl.dsl _ _ | exact Cl.any | refine Cl.tup ?_ | refine Cl.agg ?_ | exact Clo.nil | refine Clo.cons ?_ ?_)) ⟨rfl, rfl⟩)
noncomputable def countT : Value → Option AV := putA (putA (putA (putA (putA (putA (putA (putA (putA (fun _ => none) (.int .i64 2) (.p (.int .i64 0))) (.int .i64 3) (.p (.int .i64 2))) (.int .i64 4) (.p (.int .i64 1))) (.int .i64 5) (.p (.int .i64 1))) (.int .i64 6) (.p (.int .i64 1))) (.int .i64 7) (.p (.int .i64 1))) (.int .i64 8) (.p (.int .i64 1))) (.int .i64 9) (.p (.int .i64 2))) (.int .i64 10) (.p (.int .i64 2))
theorem countT_in {r : Int} (h1 : 2 ≤ r) (h2 : r ≤ 10) : countT (.int .i64 r) = some (.p (.int .i64 (countR r : Nat))) := by
  have : r = 2 ∨ r = 3 ∨ r = 4 ∨ r = 5 ∨ r = 6 ∨ r = 7 ∨ r = 8 ∨ r = 9 ∨ r = 10 := by omega
  rcases this with rfl | rfl | rfl | rfl | rfl | rfl | rfl | rfl | rfl <;> simp [countT, putA, countR]
theorem countT_out {r : Int} (h : ¬ (2 ≤ r ∧ r ≤ 10)) : countT (.int .i64 r) = none := by
  have h2 : r ≠ 2 := by omega
  have h3 : r ≠ 3 := by omega
  have h4 : r ≠ 4 := by omega
  have h5 : r ≠ 5 := by omega
  have h6 : r ≠ 6 := by omega
  have h7 : r ≠ 7 := by omega
  have h8 : r ≠ 8 := by omega
  have h9 : r ≠ 9 := by omega
  have h10 : r ≠ 10 := by omega
  simp [countT, putA, h2, h3, h4, h5, h6, h7, h8, h9, h10]
theorem q_eqX {c d : Clm} {X : Bool} {k : AV → AH → Prop} {H : AH} (hX : X = ((c.so == d.so) && (c.a == d.a) && (c.b == d.b))) (h : k (.p (.bool X)) H) : Pu Try.prog (.bin .eql 24) [.agg [.p (.bool c.so), .p (.int .i64 c.a), .p (.int .i64 c.b)], .agg [.p (.bool d.so), .p (.int .i64 d.a), .p (.int .i64 d.b)]] k H :=
  q_eqClm (by
    have : decide (c = d) = X := by
      rw [hX]
      by_cases e : c = d
      · subst e; simp
      · rw [decide_eq_false e]
        cases h1 : ((c.so == d.so) && (c.a == d.a) && (c.b == d.b)) with
        | false => rfl
        | true => simp at h1; exact absurd (clm_ext h1.1.1 h1.1.2 h1.2) e
    rw [this]; exact h)
theorem rb2 {c : Clm} : ruleB 2 c [] = ((c.so == false) && (c.a == c.a) && (c.b == c.a)) := by
  rw [Bool.eq_iff_iff]
  simp only [ruleB]
  simp
  try grind
theorem rb3 {c p q : Clm} : ruleB 3 c [p, q] = (((p.so == false) && (p.a == c.a) && (p.b == p.b)) && (((q.so == false) && (q.a == p.b) && (q.b == c.b)) && !c.so)) := by
  rw [Bool.eq_iff_iff]
  simp only [ruleB]
  simp
  try grind
theorem rb4 {c p : Clm} : ruleB 4 c [p] = (!p.so && ((c.so == false) && (c.a == (-p.b)) && (c.b == (-p.a)))) := by
  rw [Bool.eq_iff_iff]
  simp only [ruleB]
  simp
  try grind
theorem rb5 {c p : Clm} : ruleB 5 c [p] = (((p.so == false) && (p.a == c.a) && (p.b == (-c.a))) && !c.so) := by
  rw [Bool.eq_iff_iff]
  simp only [ruleB]
  simp
  try grind
theorem rb6 {c p : Clm} : ruleB 6 c [p] = (((p.so == false) && (p.a == (-c.b)) && (p.b == c.b)) && !c.so) := by
  rw [Bool.eq_iff_iff]
  simp only [ruleB]
  simp
  try grind
theorem rb7 {c p : Clm} : ruleB 7 c [p] = (p.so && ((c.so == true) && (c.a == p.b) && (c.b == p.a))) := by
  rw [Bool.eq_iff_iff]
  simp only [ruleB]
  simp
  try grind
theorem rb8 {c p : Clm} : ruleB 8 c [p] = (p.so && ((c.so == true) && (c.a == p.a) && (c.b == p.a))) := by
  rw [Bool.eq_iff_iff]
  simp only [ruleB]
  simp
  try grind
theorem rb9 {c p q : Clm} : ruleB 9 c [p, q] = (((p.so == true) && (p.a == c.a) && (p.b == p.b)) && (((q.so == false) && (q.a == p.b) && (q.b == c.b)) && c.so)) := by
  rw [Bool.eq_iff_iff]
  simp only [ruleB]
  simp
  try grind
theorem rb10 {c p q : Clm} : ruleB 10 c [p, q] = (!p.so && ((q.so == true) && (q.a == p.a) && (q.b == (-p.b)))) := by
  rw [Bool.eq_iff_iff]
  simp only [ruleB]
  simp
  try grind
theorem clm_iff {x y : Clm} : x = y ↔ x.so = y.so ∧ x.a = y.a ∧ x.b = y.b := ⟨fun h => by subst h; exact ⟨rfl, rfl, rfl⟩, fun ⟨h1, h2, h3⟩ => clm_ext h1 h2 h3⟩
set_option maxHeartbeats 2000000 in
theorem fin_right {H H2 : AH} {x : Lin} {of : List Clm} {b12 : Nat} (hw : WF H) (hw2 : WF H2) (hle : H.le H2) (hn : H.nx + 9 ≤ H2.nx) (hlb : H2.get (H.nx + 4) = some (.box 36 x.cs)) (hcb : H2.get (H.nx + 8) = some (.box 24 x.c.cs)) (h12 : H2.get b12 = some (.box 66 ((pz of 0).cs ++ (pz of 1).cs)))
    (hr1 : 2 ≤ x.rule) (hr2 : x.rule ≤ 10) (hc : of.length = countR x.rule) (hok : x.c.ok) (hofo : ∀ q ∈ of, q.ok) : S_prove_right_C9 (fun r H' => H' = H ∧ r = bv (ruleB x.rule x.c of)) H (.ptr (H.nx + 4) 0) (.ptr (H.nx + 8) 0) (.ptr b12 0) H2 := by
  have hb12 := (hw2 _ _ h12).1
  have g4 := wf_none hw2 (i := H2.nx + 4) (by omega)
  have g5 := wf_none hw2 (i := H2.nx + 5) (by omega)
  unfold Lin.cs at hlb
  unfold Clm.cs at hcb h12
  unfold S_prove_right_C9
  have : x.rule = 2 ∨ x.rule = 3 ∨ x.rule = 4 ∨ x.rule = 5 ∨ x.rule = 6 ∨ x.rule = 7 ∨ x.rule = 8 ∨ x.rule = 9 ∨ x.rule = 10 := by omega
  have hca := wneg_ok hok.1
  have hcbn := wneg_ok hok.2
  rcases this with hr | hr | hr | hr | hr | hr | hr | hr | hr <;> rw [hr] at hc ⊢ <;> (have hc2 := hc; simp [countR] at hc2)
  · subst hc2
    simp (disch := first | omega | simp) [iv, bv, hlb, hcb, h12, put_get_ne, hr, g4, g5, S_prove_right_C2, S_prove_right_C3, S_prove_right_C4, S_prove_right_C5, S_prove_right_C6, S_prove_right_C7, S_prove_right_C8]
    refine cav_pure (by kernel_rfl) (fun H' _ => c_all _ _ H') ?_
    simp (disch := first | omega | simp) [Clm.av, Clm.cs]
    obtain ⟨X1, hX1⟩ : ∃ X, X = ((x.c.so == false) && (x.c.a == x.c.a) && (x.c.b == x.c.a)) := ⟨_, rfl⟩
    refine q_eqX (c := x.c) (d := ⟨false, x.c.a, x.c.a⟩) hX1 ?_
    exact rt_one hw (by repeat (first | with_reducible assumption | with_reducible exact AH.le.refl _ | with_reducible apply AH.le.up | (with_reducible refine AH.le.put hw ?_ ?_; · first | omega | (simp only [up_nx, put_nx, kill_nx]; done) | (simp only [up_nx, put_nx, kill_nx]; omega)) | (with_reducible refine AH.le.kill hw ?_ ?_; · first | omega | (simp only [up_nx, put_nx, kill_nx]; done) | (simp only [up_nx, put_nx, kill_nx]; omega)))) (by repeat (first | exact Cl.p _ | exact Cl.dsl _ _ | exact Cl.any | refine Cl.tup ?_ | refine Cl.agg ?_ | exact Clo.nil | refine Clo.cons ?_ ?_)) ⟨rfl, by rw [rb2, ← hX1]⟩
  · obtain ⟨p, q, rfl⟩ := len2 hc2
    have hp := hofo p (by simp)
    have hpa := wneg_ok hp.1
    have hpb := wneg_ok hp.2
    simp only [pz, List.getD_cons_zero, List.getD_cons_succ] at h12
    simp (disch := first | omega | simp) [iv, bv, hlb, hcb, h12, put_get_ne, hr, g4, g5, S_prove_right_C2, S_prove_right_C3, S_prove_right_C4, S_prove_right_C5, S_prove_right_C6, S_prove_right_C7, S_prove_right_C8]
    refine cav_pure (by kernel_rfl) (fun H' _ => c_all _ _ H') ?_
    simp (disch := first | omega | simp) [Clm.av, Clm.cs]
    obtain ⟨X1, hX1⟩ : ∃ X, X = ((p.so == false) && (p.a == x.c.a) && (p.b == p.b)) := ⟨_, rfl⟩
    refine q_eqX (c := p) (d := ⟨false, x.c.a, p.b⟩) hX1 ?_
    cases X1 with
    | false =>
      simp (disch := first | omega | simp)
      exact rt_one hw (by repeat (first | with_reducible assumption | with_reducible exact AH.le.refl _ | with_reducible apply AH.le.up | (with_reducible refine AH.le.put hw ?_ ?_; · first | omega | (simp only [up_nx, put_nx, kill_nx]; done) | (simp only [up_nx, put_nx, kill_nx]; omega)) | (with_reducible refine AH.le.kill hw ?_ ?_; · first | omega | (simp only [up_nx, put_nx, kill_nx]; done) | (simp only [up_nx, put_nx, kill_nx]; omega)))) (by repeat (first | exact Cl.p _ | exact Cl.dsl _ _ | exact Cl.any | refine Cl.tup ?_ | refine Cl.agg ?_ | exact Clo.nil | refine Clo.cons ?_ ?_)) ⟨rfl, by rw [rb3, ← hX1]; rfl⟩
    | true =>
      simp (disch := first | omega | simp) [hcb, put_get_ne]
      refine cav_pure (by kernel_rfl) (fun H' _ => c_all _ _ H') ?_
      simp (disch := first | omega | simp) [Clm.av, Clm.cs]
      obtain ⟨X2, hX2⟩ : ∃ X, X = ((q.so == false) && (q.a == p.b) && (q.b == x.c.b)) := ⟨_, rfl⟩
      refine q_eqX (c := q) (d := ⟨false, p.b, x.c.b⟩) hX2 ?_
      cases X2 <;> simp (disch := first | omega | simp) [hcb, put_get_ne] <;> exact rt_one hw (by repeat (first | with_reducible assumption | with_reducible exact AH.le.refl _ | with_reducible apply AH.le.up | (with_reducible refine AH.le.put hw ?_ ?_; · first | omega | (simp only [up_nx, put_nx, kill_nx]; done) | (simp only [up_nx, put_nx, kill_nx]; omega)) | (with_reducible refine AH.le.kill hw ?_ ?_; · first | omega | (simp only [up_nx, put_nx, kill_nx]; done) | (simp only [up_nx, put_nx, kill_nx]; omega)))) (by repeat (first | exact Cl.p _ | exact Cl.dsl _ _ | exact Cl.any | refine Cl.tup ?_ | refine Cl.agg ?_ | exact Clo.nil | refine Clo.cons ?_ ?_)) ⟨rfl, by rw [rb3, ← hX1, ← hX2]; simp⟩
  · obtain ⟨p, rfl⟩ := List.length_eq_one_iff.1 hc2
    have hp := hofo p (by simp)
    have hpa := wneg_ok hp.1
    have hpb := wneg_ok hp.2
    simp only [pz, List.getD_cons_zero] at h12
    cases hps : p.so with
    | true =>
      simp (disch := first | omega | simp) [iv, bv, hlb, h12, put_get_ne, hr, g4, g5, hps, S_prove_right_C2, S_prove_right_C3, S_prove_right_C4, S_prove_right_C5, S_prove_right_C6, S_prove_right_C7, S_prove_right_C8]
      refine rt_one hw (by repeat (first | with_reducible assumption | with_reducible exact AH.le.refl _ | with_reducible apply AH.le.up | (with_reducible refine AH.le.put hw ?_ ?_; · first | omega | (simp only [up_nx, put_nx, kill_nx]; done) | (simp only [up_nx, put_nx, kill_nx]; omega)) | (with_reducible refine AH.le.kill hw ?_ ?_; · first | omega | (simp only [up_nx, put_nx, kill_nx]; done) | (simp only [up_nx, put_nx, kill_nx]; omega)))) (by repeat (first | exact Cl.p _ | exact Cl.dsl _ _ | exact Cl.any | refine Cl.tup ?_ | refine Cl.agg ?_ | exact Clo.nil | refine Clo.cons ?_ ?_)) (And.intro rfl ?_)
      rw [rb4, hps]; rfl
    | false =>
      simp (disch := first | omega | simp) [iv, bv, hlb, hcb, h12, put_get_ne, hr, g4, g5, hpa, hpb, hps, S_prove_right_C2, S_prove_right_C3, S_prove_right_C4, S_prove_right_C5, S_prove_right_C6, S_prove_right_C7, S_prove_right_C8]
      refine cav_pure (by kernel_rfl) (fun H' _ => c_all _ _ H') ?_
      simp (disch := first | omega | simp) [Clm.av, Clm.cs]
      obtain ⟨X1, hX1⟩ : ∃ X, X = ((x.c.so == false) && (x.c.a == (-p.b)) && (x.c.b == (-p.a))) := ⟨_, rfl⟩
      refine q_eqX (c := x.c) (d := ⟨false, (-p.b), (-p.a)⟩) hX1 ?_
      cases X1 <;> simp (disch := first | omega | simp) <;> exact rt_one hw (by repeat (first | with_reducible assumption | with_reducible exact AH.le.refl _ | with_reducible apply AH.le.up | (with_reducible refine AH.le.put hw ?_ ?_; · first | omega | (simp only [up_nx, put_nx, kill_nx]; done) | (simp only [up_nx, put_nx, kill_nx]; omega)) | (with_reducible refine AH.le.kill hw ?_ ?_; · first | omega | (simp only [up_nx, put_nx, kill_nx]; done) | (simp only [up_nx, put_nx, kill_nx]; omega)))) (by repeat (first | exact Cl.p _ | exact Cl.dsl _ _ | exact Cl.any | refine Cl.tup ?_ | refine Cl.agg ?_ | exact Clo.nil | refine Clo.cons ?_ ?_)) ⟨rfl, by rw [rb4, hps, ← hX1]; simp⟩
  · obtain ⟨p, rfl⟩ := List.length_eq_one_iff.1 hc2
    have hp := hofo p (by simp)
    have hpa := wneg_ok hp.1
    have hpb := wneg_ok hp.2
    simp only [pz, List.getD_cons_zero] at h12
    simp (disch := first | omega | simp) [iv, bv, hlb, hcb, h12, put_get_ne, hr, g4, g5, hca, S_prove_right_C2, S_prove_right_C3, S_prove_right_C4, S_prove_right_C5, S_prove_right_C6, S_prove_right_C7, S_prove_right_C8]
    refine cav_pure (by kernel_rfl) (fun H' _ => c_all _ _ H') ?_
    simp (disch := first | omega | simp) [Clm.av, Clm.cs]
    obtain ⟨X1, hX1⟩ : ∃ X, X = ((p.so == false) && (p.a == x.c.a) && (p.b == (-x.c.a))) := ⟨_, rfl⟩
    refine q_eqX (c := p) (d := ⟨false, x.c.a, (-x.c.a)⟩) hX1 ?_
    cases X1 <;> simp (disch := first | omega | simp) [hcb, put_get_ne] <;> exact rt_one hw (by repeat (first | with_reducible assumption | with_reducible exact AH.le.refl _ | with_reducible apply AH.le.up | (with_reducible refine AH.le.put hw ?_ ?_; · first | omega | (simp only [up_nx, put_nx, kill_nx]; done) | (simp only [up_nx, put_nx, kill_nx]; omega)) | (with_reducible refine AH.le.kill hw ?_ ?_; · first | omega | (simp only [up_nx, put_nx, kill_nx]; done) | (simp only [up_nx, put_nx, kill_nx]; omega)))) (by repeat (first | exact Cl.p _ | exact Cl.dsl _ _ | exact Cl.any | refine Cl.tup ?_ | refine Cl.agg ?_ | exact Clo.nil | refine Clo.cons ?_ ?_)) ⟨rfl, by rw [rb5, ← hX1]; simp⟩
  · obtain ⟨p, rfl⟩ := List.length_eq_one_iff.1 hc2
    have hp := hofo p (by simp)
    have hpa := wneg_ok hp.1
    have hpb := wneg_ok hp.2
    simp only [pz, List.getD_cons_zero] at h12
    simp (disch := first | omega | simp) [iv, bv, hlb, hcb, h12, put_get_ne, hr, g4, g5, hcbn, S_prove_right_C2, S_prove_right_C3, S_prove_right_C4, S_prove_right_C5, S_prove_right_C6, S_prove_right_C7, S_prove_right_C8]
    refine cav_pure (by kernel_rfl) (fun H' _ => c_all _ _ H') ?_
    simp (disch := first | omega | simp) [Clm.av, Clm.cs]
    obtain ⟨X1, hX1⟩ : ∃ X, X = ((p.so == false) && (p.a == (-x.c.b)) && (p.b == x.c.b)) := ⟨_, rfl⟩
    refine q_eqX (c := p) (d := ⟨false, (-x.c.b), x.c.b⟩) hX1 ?_
    cases X1 <;> simp (disch := first | omega | simp) [hcb, put_get_ne] <;> exact rt_one hw (by repeat (first | with_reducible assumption | with_reducible exact AH.le.refl _ | with_reducible apply AH.le.up | (with_reducible refine AH.le.put hw ?_ ?_; · first | omega | (simp only [up_nx, put_nx, kill_nx]; done) | (simp only [up_nx, put_nx, kill_nx]; omega)) | (with_reducible refine AH.le.kill hw ?_ ?_; · first | omega | (simp only [up_nx, put_nx, kill_nx]; done) | (simp only [up_nx, put_nx, kill_nx]; omega)))) (by repeat (first | exact Cl.p _ | exact Cl.dsl _ _ | exact Cl.any | refine Cl.tup ?_ | refine Cl.agg ?_ | exact Clo.nil | refine Clo.cons ?_ ?_)) ⟨rfl, by rw [rb6, ← hX1]; simp⟩
  · obtain ⟨p, rfl⟩ := List.length_eq_one_iff.1 hc2
    have hp := hofo p (by simp)
    have hpa := wneg_ok hp.1
    have hpb := wneg_ok hp.2
    simp only [pz, List.getD_cons_zero] at h12
    cases hps : p.so with
    | false =>
      simp (disch := first | omega | simp) [iv, bv, hlb, h12, put_get_ne, hr, g4, g5, hps, S_prove_right_C2, S_prove_right_C3, S_prove_right_C4, S_prove_right_C5, S_prove_right_C6, S_prove_right_C7, S_prove_right_C8]
      refine rt_one hw (by repeat (first | with_reducible assumption | with_reducible exact AH.le.refl _ | with_reducible apply AH.le.up | (with_reducible refine AH.le.put hw ?_ ?_; · first | omega | (simp only [up_nx, put_nx, kill_nx]; done) | (simp only [up_nx, put_nx, kill_nx]; omega)) | (with_reducible refine AH.le.kill hw ?_ ?_; · first | omega | (simp only [up_nx, put_nx, kill_nx]; done) | (simp only [up_nx, put_nx, kill_nx]; omega)))) (by repeat (first | exact Cl.p _ | exact Cl.dsl _ _ | exact Cl.any | refine Cl.tup ?_ | refine Cl.agg ?_ | exact Clo.nil | refine Clo.cons ?_ ?_)) (And.intro rfl ?_)
      rw [rb7, hps]; rfl
    | true =>
      simp (disch := first | omega | simp) [iv, bv, hlb, hcb, h12, put_get_ne, hr, g4, g5, hps, S_prove_right_C2, S_prove_right_C3, S_prove_right_C4, S_prove_right_C5, S_prove_right_C6, S_prove_right_C7, S_prove_right_C8]
      refine cav_pure (by kernel_rfl) (fun H' _ => c_some _ _ H') ?_
      simp (disch := first | omega | simp) [Clm.av, Clm.cs]
      obtain ⟨X1, hX1⟩ : ∃ X, X = ((x.c.so == true) && (x.c.a == p.b) && (x.c.b == p.a)) := ⟨_, rfl⟩
      refine q_eqX (c := x.c) (d := ⟨true, p.b, p.a⟩) hX1 ?_
      cases X1 <;> simp (disch := first | omega | simp) <;> exact rt_one hw (by repeat (first | with_reducible assumption | with_reducible exact AH.le.refl _ | with_reducible apply AH.le.up | (with_reducible refine AH.le.put hw ?_ ?_; · first | omega | (simp only [up_nx, put_nx, kill_nx]; done) | (simp only [up_nx, put_nx, kill_nx]; omega)) | (with_reducible refine AH.le.kill hw ?_ ?_; · first | omega | (simp only [up_nx, put_nx, kill_nx]; done) | (simp only [up_nx, put_nx, kill_nx]; omega)))) (by repeat (first | exact Cl.p _ | exact Cl.dsl _ _ | exact Cl.any | refine Cl.tup ?_ | refine Cl.agg ?_ | exact Clo.nil | refine Clo.cons ?_ ?_)) ⟨rfl, by rw [rb7, hps, ← hX1]; simp⟩
  · obtain ⟨p, rfl⟩ := List.length_eq_one_iff.1 hc2
    have hp := hofo p (by simp)
    have hpa := wneg_ok hp.1
    have hpb := wneg_ok hp.2
    simp only [pz, List.getD_cons_zero] at h12
    cases hps : p.so with
    | false =>
      simp (disch := first | omega | simp) [iv, bv, hlb, h12, put_get_ne, hr, g4, g5, hps, S_prove_right_C2, S_prove_right_C3, S_prove_right_C4, S_prove_right_C5, S_prove_right_C6, S_prove_right_C7, S_prove_right_C8]
      refine rt_one hw (by repeat (first | with_reducible assumption | with_reducible exact AH.le.refl _ | with_reducible apply AH.le.up | (with_reducible refine AH.le.put hw ?_ ?_; · first | omega | (simp only [up_nx, put_nx, kill_nx]; done) | (simp only [up_nx, put_nx, kill_nx]; omega)) | (with_reducible refine AH.le.kill hw ?_ ?_; · first | omega | (simp only [up_nx, put_nx, kill_nx]; done) | (simp only [up_nx, put_nx, kill_nx]; omega)))) (by repeat (first | exact Cl.p _ | exact Cl.dsl _ _ | exact Cl.any | refine Cl.tup ?_ | refine Cl.agg ?_ | exact Clo.nil | refine Clo.cons ?_ ?_)) (And.intro rfl ?_)
      rw [rb8, hps]; rfl
    | true =>
      simp (disch := first | omega | simp) [iv, bv, hlb, hcb, h12, put_get_ne, hr, g4, g5, hps, S_prove_right_C2, S_prove_right_C3, S_prove_right_C4, S_prove_right_C5, S_prove_right_C6, S_prove_right_C7, S_prove_right_C8]
      refine cav_pure (by kernel_rfl) (fun H' _ => c_some _ _ H') ?_
      simp (disch := first | omega | simp) [Clm.av, Clm.cs]
      obtain ⟨X1, hX1⟩ : ∃ X, X = ((x.c.so == true) && (x.c.a == p.a) && (x.c.b == p.a)) := ⟨_, rfl⟩
      refine q_eqX (c := x.c) (d := ⟨true, p.a, p.a⟩) hX1 ?_
      cases X1 <;> simp (disch := first | omega | simp) <;> exact rt_one hw (by repeat (first | with_reducible assumption | with_reducible exact AH.le.refl _ | with_reducible apply AH.le.up | (with_reducible refine AH.le.put hw ?_ ?_; · first | omega | (simp only [up_nx, put_nx, kill_nx]; done) | (simp only [up_nx, put_nx, kill_nx]; omega)) | (with_reducible refine AH.le.kill hw ?_ ?_; · first | omega | (simp only [up_nx, put_nx, kill_nx]; done) | (simp only [up_nx, put_nx, kill_nx]; omega)))) (by repeat (first | exact Cl.p _ | exact Cl.dsl _ _ | exact Cl.any | refine Cl.tup ?_ | refine Cl.agg ?_ | exact Clo.nil | refine Clo.cons ?_ ?_)) ⟨rfl, by rw [rb8, hps, ← hX1]; simp⟩
  · obtain ⟨p, q, rfl⟩ := len2 hc2
    have hp := hofo p (by simp)
    have hpa := wneg_ok hp.1
    have hpb := wneg_ok hp.2
    simp only [pz, List.getD_cons_zero, List.getD_cons_succ] at h12
    simp (disch := first | omega | simp) [iv, bv, hlb, hcb, h12, put_get_ne, hr, g4, g5, S_prove_right_C2, S_prove_right_C3, S_prove_right_C4, S_prove_right_C5, S_prove_right_C6, S_prove_right_C7, S_prove_right_C8]
    refine cav_pure (by kernel_rfl) (fun H' _ => c_some _ _ H') ?_
    simp (disch := first | omega | simp) [Clm.av, Clm.cs]
    obtain ⟨X1, hX1⟩ : ∃ X, X = ((p.so == true) && (p.a == x.c.a) && (p.b == p.b)) := ⟨_, rfl⟩
    refine q_eqX (c := p) (d := ⟨true, x.c.a, p.b⟩) hX1 ?_
    cases X1 with
    | false =>
      simp (disch := first | omega | simp)
      exact rt_one hw (by repeat (first | with_reducible assumption | with_reducible exact AH.le.refl _ | with_reducible apply AH.le.up | (with_reducible refine AH.le.put hw ?_ ?_; · first | omega | (simp only [up_nx, put_nx, kill_nx]; done) | (simp only [up_nx, put_nx, kill_nx]; omega)) | (with_reducible refine AH.le.kill hw ?_ ?_; · first | omega | (simp only [up_nx, put_nx, kill_nx]; done) | (simp only [up_nx, put_nx, kill_nx]; omega)))) (by repeat (first | exact Cl.p _ | exact Cl.dsl _ _ | exact Cl.any | refine Cl.tup ?_ | refine Cl.agg ?_ | exact Clo.nil | refine Clo.cons ?_ ?_)) ⟨rfl, by rw [rb9, ← hX1]; rfl⟩
    | true =>
      simp (disch := first | omega | simp) [hcb, put_get_ne]
      refine cav_pure (by kernel_rfl) (fun H' _ => c_all _ _ H') ?_
      simp (disch := first | omega | simp) [Clm.av, Clm.cs]
      obtain ⟨X2, hX2⟩ : ∃ X, X = ((q.so == false) && (q.a == p.b) && (q.b == x.c.b)) := ⟨_, rfl⟩
      refine q_eqX (c := q) (d := ⟨false, p.b, x.c.b⟩) hX2 ?_
      cases X2 <;> simp (disch := first | omega | simp) [hcb, put_get_ne] <;> exact rt_one hw (by repeat (first | with_reducible assumption | with_reducible exact AH.le.refl _ | with_reducible apply AH.le.up | (with_reducible refine AH.le.put hw ?_ ?_; · first | omega | (simp only [up_nx, put_nx, kill_nx]; done) | (simp only [up_nx, put_nx, kill_nx]; omega)) | (with_reducible refine AH.le.kill hw ?_ ?_; · first | omega | (simp only [up_nx, put_nx, kill_nx]; done) | (simp only [up_nx, put_nx, kill_nx]; omega)))) (by repeat (first | exact Cl.p _ | exact Cl.dsl _ _ | exact Cl.any | refine Cl.tup ?_ | refine Cl.agg ?_ | exact Clo.nil | refine Clo.cons ?_ ?_)) ⟨rfl, by rw [rb9, ← hX1, ← hX2]; simp⟩
  · obtain ⟨p, q, rfl⟩ := len2 hc2
    have hp := hofo p (by simp)
    have hpa := wneg_ok hp.1
    have hpb := wneg_ok hp.2
    simp only [pz, List.getD_cons_zero, List.getD_cons_succ] at h12
    cases hps : p.so with
    | true =>
      simp (disch := first | omega | simp) [iv, bv, hlb, h12, put_get_ne, hr, g4, g5, hps, S_prove_right_C2, S_prove_right_C3, S_prove_right_C4, S_prove_right_C5, S_prove_right_C6, S_prove_right_C7, S_prove_right_C8]
      refine rt_one hw (by repeat (first | with_reducible assumption | with_reducible exact AH.le.refl _ | with_reducible apply AH.le.up | (with_reducible refine AH.le.put hw ?_ ?_; · first | omega | (simp only [up_nx, put_nx, kill_nx]; done) | (simp only [up_nx, put_nx, kill_nx]; omega)) | (with_reducible refine AH.le.kill hw ?_ ?_; · first | omega | (simp only [up_nx, put_nx, kill_nx]; done) | (simp only [up_nx, put_nx, kill_nx]; omega)))) (by repeat (first | exact Cl.p _ | exact Cl.dsl _ _ | exact Cl.any | refine Cl.tup ?_ | refine Cl.agg ?_ | exact Clo.nil | refine Clo.cons ?_ ?_)) (And.intro rfl ?_)
      rw [rb10, hps]; rfl
    | false =>
      simp (disch := first | omega | simp) [iv, bv, hlb, h12, put_get_ne, hr, g4, g5, hpb, hps, S_prove_right_C2, S_prove_right_C3, S_prove_right_C4, S_prove_right_C5, S_prove_right_C6, S_prove_right_C7, S_prove_right_C8]
      refine cav_pure (by kernel_rfl) (fun H' _ => c_some _ _ H') ?_
      simp (disch := first | omega | simp) [Clm.av, Clm.cs]
      obtain ⟨X1, hX1⟩ : ∃ X, X = ((q.so == true) && (q.a == p.a) && (q.b == (-p.b))) := ⟨_, rfl⟩
      refine q_eqX (c := q) (d := ⟨true, p.a, (-p.b)⟩) hX1 ?_
      cases X1 <;> simp (disch := first | omega | simp) <;> exact rt_one hw (by repeat (first | with_reducible assumption | with_reducible exact AH.le.refl _ | with_reducible apply AH.le.up | (with_reducible refine AH.le.put hw ?_ ?_; · first | omega | (simp only [up_nx, put_nx, kill_nx]; done) | (simp only [up_nx, put_nx, kill_nx]; omega)) | (with_reducible refine AH.le.kill hw ?_ ?_; · first | omega | (simp only [up_nx, put_nx, kill_nx]; done) | (simp only [up_nx, put_nx, kill_nx]; omega)))) (by repeat (first | exact Cl.p _ | exact Cl.dsl _ _ | exact Cl.any | refine Cl.tup ?_ | refine Cl.agg ?_ | exact Clo.nil | refine Clo.cons ?_ ?_)) ⟨rfl, by rw [rb10, hps, ← hX1]; simp⟩
theorem loop_right {H H2 : AH} {p : List Clm} {l : List Lin} {n : Nat} {x : Lin} {b12 : Nat} (hw : WF H) (hle : H.le H2) (hn2 : H.nx + 9 ≤ H2.nx) (hlb : H2.get (H.nx + 4) = some (.box 36 x.cs)) (hcb : H2.get (H.nx + 8) = some (.box 24 x.c.cs)) (h12 : H2.get b12 = some (.box 66 ((pz [] 0).cs ++ (pz [] 1).cs))) (hb : H.nx + 9 ≤ b12)
    (hnl : n < l.length) (_hn : n < 900000000) (hr1 : 2 ≤ x.rule) (hr2 : x.rule ≤ 10) (hc : x.src.length = countR x.rule) (hlo : ∀ y ∈ l, y.c.ok) (hok : x.c.ok) :
    LoopA Try.prog 1 (S_prove_right_L10 (.dsl 5 (l.map Lin.cs)) (.p (.int .i64 (n : Int))) (fun r H' => H' = H ∧ r = bv (rightB p (l.map (·.c)) n x)) H (.ptr (H.nx + 4) 0) (.ptr (H.nx + 8) 0) (.ptr b12 0) (.dsl 1 (x.src.map fun i => [.p (.int .i64 i)])) (.p (.int .i64 (x.src.length : Int)))) [.p (.int .i64 0)] H2 := by
  have hright : rightB p (l.map (·.c)) n x = match pickC (l.map (·.c)) n x.src with | some of => ruleB x.rule x.c of | none => false := by
    unfold rightB; rw [if_neg (by omega)]; rfl
  have hs2 : x.src.length ≤ 2 := by
    rw [hc]; unfold countR
    split
    · omega
    · split <;> omega
  rw [hright]
  refine loop_wf (fun s : Nat × List Clm => [iv s.1]) (fun s H' => s.1 ≤ x.src.length ∧ pickC (l.map (·.c)) n (x.src.take s.1) = some s.2 ∧ s.2.length = s.1 ∧ H.le H' ∧ H.nx + 9 ≤ H'.nx ∧ H'.get (H.nx + 4) = some (.box 36 x.cs) ∧ H'.get (H.nx + 8) = some (.box 24 x.c.cs) ∧ H'.get b12 = some (.box 66 ((pz s.2 0).cs ++ (pz s.2 1).cs))) (fun s => x.src.length - s.1) (0, []) (.refl (Nat.le_refl _)) ⟨Nat.zero_le _, rfl, rfl, hle, hn2, hlb, hcb, h12⟩ ?_
  rintro ⟨i, of⟩ H3 hn3 hw3 ⟨hi, hpk, hofl, hle3, hnx3, hlb3, hcb3, h123⟩ k hk
  dsimp only at hi hpk hofl h123 hk
  have hb3 := (hw3 _ _ h123).1
  unfold S_prove_right_L10
  by_cases hil : i < x.src.length
  · obtain ⟨z, hz⟩ : ∃ z, x.src[i]? = some z := ⟨_, List.getElem?_eq_getElem hil⟩
    have hzg : ∀ h, (x.src.map fun i => [AV.p (.int .i64 i)])[i]'h = [.p (.int .i64 z)] := fun h => by have := (List.getElem?_eq_some_iff.1 hz).2; simp [this]
    have hsl : (x.src.map fun i => [AV.p (.int .i64 i)]).length = x.src.length := by simp
    have hzm : (x.src.map fun i => [AV.p (.int .i64 i)])[i]? = some [.p (.int .i64 z)] := by simp [hz]
    have hiv := ivn (i := i) (by omega)
    by_cases hzr : 0 ≤ z ∧ z < n
    · obtain ⟨zn, rfl⟩ := Int.eq_ofNat_of_zero_le hzr.1
      have hzl : zn < l.length := by omega
      obtain ⟨y, hy⟩ : ∃ y, l[zn]? = some y := ⟨_, List.getElem?_eq_getElem hzl⟩
      have hyg : ∀ h, l[zn]'h = y := fun h => (List.getElem?_eq_some_iff.1 hy).2
      have hnn : ¬ n ≤ zn := by omega
      have hpk2 := pickC_next hpk hz hzr.1 hzr.2 (c := y.c) (by simp [hy])
      have hi2 : (i : Int) < 2 := by omega
      have hneg : ¬ ((zn : Int) < 0) := by omega
      have hofi : i = 0 ∨ i = 1 := by omega
      rcases hofi with rfl | rfl
      · have : of = [] := List.length_eq_zero_iff.1 hofl
        subst this
        unfold Clm.cs at h123
        simp only [Int.natCast_zero] at hiv hi2
        have hil0 : 0 < x.src.length := hil
        simp (disch := first | omega | simp) [iv, hil0, hzg, hsl, hnn, hneg, hzl, hyg, Lin.cs, h123]
        refine hk (1, [y.c]) _ _ _ (.refl (by first | omega | (simp only [up_nx, put_nx]; done) | (simp only [up_nx, put_nx]; omega))) ⟨hil, hpk2, rfl, (by repeat (first | with_reducible assumption | with_reducible exact AH.le.refl _ | with_reducible apply AH.le.up | (with_reducible refine AH.le.put hw ?_ ?_; · first | omega | (simp only [up_nx, put_nx, kill_nx]; done) | (simp only [up_nx, put_nx, kill_nx]; omega)) | (with_reducible refine AH.le.kill hw ?_ ?_; · first | omega | (simp only [up_nx, put_nx, kill_nx]; done) | (simp only [up_nx, put_nx, kill_nx]; omega)))), (by first | omega | (simp only [up_nx, put_nx]; done) | (simp only [up_nx, put_nx]; omega)), by rw [put_get_ne _ _ _ (by omega)]; exact hlb3, by rw [put_get_ne _ _ _ (by omega)]; exact hcb3, by rw [put_get]; rfl⟩ (by dsimp only; omega)
      · obtain ⟨q, rfl⟩ := List.length_eq_one_iff.1 hofl
        unfold Clm.cs at h123
        have hilz : (1 : Int) < (x.src.length : Int) := by omega
        simp (disch := first | omega | simp) [iv, hilz, hzg, hsl, hnn, hneg, hzl, hyg, Lin.cs, h123]
        refine hk (2, [q, y.c]) _ _ _ (.refl (by first | omega | (simp only [up_nx, put_nx]; done) | (simp only [up_nx, put_nx]; omega))) ⟨hil, hpk2, rfl, (by repeat (first | with_reducible assumption | with_reducible exact AH.le.refl _ | with_reducible apply AH.le.up | (with_reducible refine AH.le.put hw ?_ ?_; · first | omega | (simp only [up_nx, put_nx, kill_nx]; done) | (simp only [up_nx, put_nx, kill_nx]; omega)) | (with_reducible refine AH.le.kill hw ?_ ?_; · first | omega | (simp only [up_nx, put_nx, kill_nx]; done) | (simp only [up_nx, put_nx, kill_nx]; omega)))), (by first | omega | (simp only [up_nx, put_nx]; done) | (simp only [up_nx, put_nx]; omega)), by rw [put_get_ne _ _ _ (by omega)]; exact hlb3, by rw [put_get_ne _ _ _ (by omega)]; exact hcb3, by rw [put_get]; rfl⟩ (by dsimp only; omega)
    · have hnone := pickC_fail (l := l.map (·.c)) (n := n) hz hzr
      rw [hnone]
      by_cases hz0 : z < 0
      · simp (disch := first | omega | simp) [iv, hil, hzg, hsl, hz0]
        exact rt_one hw hle3 (by repeat (first | exact Cl.p _ | exact Cl.dsl _ _ | exact Cl.any | refine Cl.tup ?_ | refine Cl.agg ?_ | exact Clo.nil | refine Clo.cons ?_ ?_)) ⟨rfl, rfl⟩
      · have hz1 : (n : Int) ≤ z := by omega
        simp (disch := first | omega | simp) [iv, hil, hzg, hsl, hz0, hz1]
        exact rt_one hw hle3 (by repeat (first | exact Cl.p _ | exact Cl.dsl _ _ | exact Cl.any | refine Cl.tup ?_ | refine Cl.agg ?_ | exact Clo.nil | refine Clo.cons ?_ ?_)) ⟨rfl, rfl⟩
  · have hie : i = x.src.length := by omega
    rw [hie, List.take_length] at hpk
    simp (disch := first | omega | simp) [iv, hil]
    rw [hpk]
    refine fin_right hw hw3 hle3 hnx3 hlb3 hcb3 h123 hr1 hr2 (by omega) hok fun q hq => ?_
    obtain ⟨k, _, hk⟩ := pick_mem hpk q hq
    obtain ⟨y, hy, rfl⟩ := List.mem_map.1 (List.mem_of_getElem? hk)
    exact hlo y hy
set_option maxHeartbeats 1000000 in
theorem c_right (p : List Clm) (l : List Lin) (n : Nat) {x : Lin} (hx : l[n]? = some x) (_hpo : ∀ q ∈ p, q.ok) (hlo : ∀ y ∈ l, y.c.ok) (hi64 : I64 x.rule) (hn : n < 900000000) (H : AH) :
    Tri Try.prog 25 [cE p, .dsl 5 (l.map Lin.cs), iv n] H (fun r H' => H' = H ∧ r = bv (rightB p (l.map (·.c)) n x)) := tri_wf fun hw => tri_len 1 rfl fun _ _ => tri_prove_right (by
  unfold S_prove_right
  have hmx : maxLen = 9223372036854775807 := by decide
  have hnl := (List.getElem?_eq_some_iff.1 hx).1
  have hlg : ∀ h, l[n]'h = x := fun h => (List.getElem?_eq_some_iff.1 hx).2
  have hsl : (x.src.map fun i => [AV.p (.int .i64 i)]).length = x.src.length := by simp
  by_cases hr1 : x.rule = 1
  · simp (disch := first | omega | simp) [cE, iv, put_get_ne, hnl, hlg, Lin.cs, hr1]
    unfold S_prove_right_C1
    have hgoal : rightB p (l.map (·.c)) n x = match pickC p p.length x.src with | some of => decide (of = [x.c]) | none => false := by
      unfold rightB
      rw [if_pos hr1]
      cases pickC p p.length x.src with
      | none => rfl
      | some of => simp [ruleB, hr1]; rw [Bool.eq_iff_iff]; simp
    rw [hgoal]
    match hs : x.src with
    | [] =>
      simp (disch := first | omega | simp) [put_get_ne]
      exact rt_one hw (by repeat (first | with_reducible assumption | with_reducible exact AH.le.refl _ | with_reducible apply AH.le.up | (with_reducible refine AH.le.put hw ?_ ?_; · first | omega | (simp only [up_nx, put_nx, kill_nx]; done) | (simp only [up_nx, put_nx, kill_nx]; omega)) | (with_reducible refine AH.le.kill hw ?_ ?_; · first | omega | (simp only [up_nx, put_nx, kill_nx]; done) | (simp only [up_nx, put_nx, kill_nx]; omega)))) (by repeat (first | exact Cl.p _ | exact Cl.dsl _ _ | exact Cl.any | refine Cl.tup ?_ | refine Cl.agg ?_ | exact Clo.nil | refine Clo.cons ?_ ?_)) ⟨rfl, rfl⟩
    | [z] =>
      by_cases hz0 : 0 ≤ z
      · obtain ⟨zn, rfl⟩ := Int.eq_ofNat_of_zero_le hz0
        by_cases hzp : zn < p.length
        · obtain ⟨q, hq⟩ : ∃ q, p[zn]? = some q := ⟨_, List.getElem?_eq_getElem hzp⟩
          have hqg : ∀ h, p[zn]'h = q := fun h => (List.getElem?_eq_some_iff.1 hq).2
          simp (disch := first | omega | simp) [put_get_ne, hzp, hqg, Clm.cs]
          refine q_eqClm (c := q) (d := x.c) ?_
          simp (disch := first | omega | simp) []
          refine rt_one hw (by repeat (first | with_reducible assumption | with_reducible exact AH.le.refl _ | with_reducible apply AH.le.up | (with_reducible refine AH.le.put hw ?_ ?_; · first | omega | (simp only [up_nx, put_nx, kill_nx]; done) | (simp only [up_nx, put_nx, kill_nx]; omega)) | (with_reducible refine AH.le.kill hw ?_ ?_; · first | omega | (simp only [up_nx, put_nx, kill_nx]; done) | (simp only [up_nx, put_nx, kill_nx]; omega)))) (by repeat (first | exact Cl.p _ | exact Cl.dsl _ _ | exact Cl.any | refine Cl.tup ?_ | refine Cl.agg ?_ | exact Clo.nil | refine Clo.cons ?_ ?_)) ⟨rfl, ?_⟩
          rw [pick_one hq hzp]
          simp [bv]
        · simp (disch := first | omega | simp) [put_get_ne, hzp]
          refine rt_one hw (by repeat (first | with_reducible assumption | with_reducible exact AH.le.refl _ | with_reducible apply AH.le.up | (with_reducible refine AH.le.put hw ?_ ?_; · first | omega | (simp only [up_nx, put_nx, kill_nx]; done) | (simp only [up_nx, put_nx, kill_nx]; omega)) | (with_reducible refine AH.le.kill hw ?_ ?_; · first | omega | (simp only [up_nx, put_nx, kill_nx]; done) | (simp only [up_nx, put_nx, kill_nx]; omega)))) (by repeat (first | exact Cl.p _ | exact Cl.dsl _ _ | exact Cl.any | refine Cl.tup ?_ | refine Cl.agg ?_ | exact Clo.nil | refine Clo.cons ?_ ?_)) ⟨rfl, ?_⟩
          rw [pickC, if_neg (by omega)]; rfl
      · simp (disch := first | omega | simp) [put_get_ne, hz0]
        refine rt_one hw (by repeat (first | with_reducible assumption | with_reducible exact AH.le.refl _ | with_reducible apply AH.le.up | (with_reducible refine AH.le.put hw ?_ ?_; · first | omega | (simp only [up_nx, put_nx, kill_nx]; done) | (simp only [up_nx, put_nx, kill_nx]; omega)) | (with_reducible refine AH.le.kill hw ?_ ?_; · first | omega | (simp only [up_nx, put_nx, kill_nx]; done) | (simp only [up_nx, put_nx, kill_nx]; omega)))) (by repeat (first | exact Cl.p _ | exact Cl.dsl _ _ | exact Cl.any | refine Cl.tup ?_ | refine Cl.agg ?_ | exact Clo.nil | refine Clo.cons ?_ ?_)) ⟨rfl, ?_⟩
        rw [pickC, if_neg (by omega)]; rfl
    | z :: z2 :: r =>
      have hl2 : ¬ ((r.length : Int) + 1 + 1 = 1) := by omega
      simp (disch := first | omega | simp) [put_get_ne, hl2]
      refine rt_one hw (by repeat (first | with_reducible assumption | with_reducible exact AH.le.refl _ | with_reducible apply AH.le.up | (with_reducible refine AH.le.put hw ?_ ?_; · first | omega | (simp only [up_nx, put_nx, kill_nx]; done) | (simp only [up_nx, put_nx, kill_nx]; omega)) | (with_reducible refine AH.le.kill hw ?_ ?_; · first | omega | (simp only [up_nx, put_nx, kill_nx]; done) | (simp only [up_nx, put_nx, kill_nx]; omega)))) (by repeat (first | exact Cl.p _ | exact Cl.dsl _ _ | exact Cl.any | refine Cl.tup ?_ | refine Cl.agg ?_ | exact Clo.nil | refine Clo.cons ?_ ?_)) ⟨rfl, ?_⟩
      cases hp : pickC p p.length (z :: z2 :: r) with
      | none => rfl
      | some of =>
        have := pickC_len hp
        simp only
        rw [decide_eq_false (fun e => by rw [e] at this; simp at this)]; rfl
  · simp (disch := first | omega | simp) [cE, iv, put_get_ne, hnl, hlg, Lin.cs, hr1]
    unfold S_prove_right_C11
    simp (disch := first | omega | simp) [put_get_ne, lawInt, keyInt hi64, keyLit]
    refine ⟨by decide, by decide, by decide, by decide, by decide, by decide, by decide, by decide, by decide, ?_⟩
    have hct := countT_out (r := x.rule)
    have hci := countT_in (r := x.rule)
    unfold countT at hct hci
    by_cases hrg : 2 ≤ x.rule ∧ x.rule ≤ 10
    · rw [hci hrg.1 hrg.2]
      by_cases hc : x.src.length = countR x.rule
      · have hcz : (x.src.length : Int) = (countR x.rule : Int) := by omega
        simp (disch := first | omega | simp) [put_get_ne, hcz]
        rw [← hcz]
        refine loop_right hw (by repeat (first | with_reducible assumption | with_reducible exact AH.le.refl _ | with_reducible apply AH.le.up | (with_reducible refine AH.le.put hw ?_ ?_; · first | omega | (simp only [up_nx, put_nx, kill_nx]; done) | (simp only [up_nx, put_nx, kill_nx]; omega)) | (with_reducible refine AH.le.kill hw ?_ ?_; · first | omega | (simp only [up_nx, put_nx, kill_nx]; done) | (simp only [up_nx, put_nx, kill_nx]; omega)))) (by first | omega | (simp only [up_nx, put_nx]; done) | (simp only [up_nx, put_nx]; omega)) (by simp (disch := first | omega | simp) [put_get_ne, Lin.cs, iv]) (by simp (disch := first | omega | simp) [put_get_ne, Clm.cs]) (put_get _ _) (by omega) hnl hn hrg.1 hrg.2 hc hlo (hlo x (List.mem_of_getElem? hx))
      · have hcz : ¬ (x.src.length : Int) = (countR x.rule : Int) := by omega
        simp (disch := first | omega | simp) [put_get_ne, hcz]
        refine rt_one hw (by repeat (first | with_reducible assumption | with_reducible exact AH.le.refl _ | with_reducible apply AH.le.up | (with_reducible refine AH.le.put hw ?_ ?_; · first | omega | (simp only [up_nx, put_nx, kill_nx]; done) | (simp only [up_nx, put_nx, kill_nx]; omega)) | (with_reducible refine AH.le.kill hw ?_ ?_; · first | omega | (simp only [up_nx, put_nx, kill_nx]; done) | (simp only [up_nx, put_nx, kill_nx]; omega)))) (by repeat (first | exact Cl.p _ | exact Cl.dsl _ _ | exact Cl.any | refine Cl.tup ?_ | refine Cl.agg ?_ | exact Clo.nil | refine Clo.cons ?_ ?_)) ⟨rfl, ?_⟩
        unfold rightB
        rw [if_neg hr1]
        cases hpc : pickC (l.map (·.c)) n x.src with
        | none => rfl
        | some of => simp only; rw [ruleB_count fun h => hc (by rw [← pickC_len hpc]; exact h.2.2)]; rfl
    · rw [hct hrg]
      simp (disch := first | omega | simp)
      refine rt_one hw (by repeat (first | with_reducible assumption | with_reducible exact AH.le.refl _ | with_reducible apply AH.le.up | (with_reducible refine AH.le.put hw ?_ ?_; · first | omega | (simp only [up_nx, put_nx, kill_nx]; done) | (simp only [up_nx, put_nx, kill_nx]; omega)) | (with_reducible refine AH.le.kill hw ?_ ?_; · first | omega | (simp only [up_nx, put_nx, kill_nx]; done) | (simp only [up_nx, put_nx, kill_nx]; omega)))) (by repeat (first | exact Cl.p _ | exact Cl.dsl _ _ | exact Cl.any | refine Cl.tup ?_ | refine Cl.agg ?_ | exact Clo.nil | refine Clo.cons ?_ ?_)) ⟨rfl, ?_⟩
      unfold rightB
      rw [if_neg hr1]
      cases pickC (l.map (·.c)) n x.src with
      | none => rfl
      | some of => simp only; rw [ruleB_count fun h => hrg ⟨by omega, h.2.1⟩]; rfl)
end Go.Proofs.Ytcmnjoepadjioaa

/- Sound: is each line right. -/
namespace Go.Proofs.Ytcmnjoepadjioaa
open Go.RowKit Go.Maps
def okS (p : List Clm) (l : List Lin) : Int := if l.length > 400 then 7 else okP p (l.map (·.c))
def soundB (p : List Clm) (l : List Lin) : Bool := (List.range l.length).all fun i => match l[i]? with | some x => rightB p (l.map (·.c)) i x | none => true
/-- what is held is told anew ahead of a call that only reads -/
theorem ca_pure' {P : Program} {H H2 : AH} {f : FuncId} {ps qs : List AV} {r : AV} {k : AV → AH → Prop} (hc : callable P f = true) (hg : Gst P H H2) (hs : Subs P H2 ps qs) (h : Tri P f qs H2 (fun v H' => H' = H2 ∧ v = r)) (hk : k r H2) : Ca P (.fn (.func f) [] []) ps k H :=
  ca_of hc (Tri.st hg (Tri.args (qs := qs) (by simpa using hs) h)) fun v H' hq => by obtain ⟨rfl, rfl⟩ := hq; exact hk
theorem c_Sound (p : List Clm) (l : List Lin) (hi : ∀ x ∈ l, I64 x.rule) (H : AH) : Tri Try.prog 13 [cE p, .dsl 5 (l.map Lin.cs)] H (fun r H' => H' = H ∧ r = .tup [bv (decide (okS p l = 0) && soundB p l), iv (okS p l)]) := tri_wf fun hw => tri_prove_Sound (by
  have hmx : maxLen = 9223372036854775807 := by decide
  unfold S_prove_Sound
  by_cases hl : l.length > 400
  · have hl2 : (400 : Int) < (l.length : Int) := by omega
    have hok : okS p l = 7 := by unfold okS; rw [if_pos hl]
    simp (disch := first | omega | simp) [hl2, hok]
    exact rt_tup hw (by repeat (first | with_reducible assumption | with_reducible exact AH.le.refl _ | with_reducible apply AH.le.up | (with_reducible refine AH.le.put hw ?_ ?_; · first | omega | (simp only [up_nx, put_nx, kill_nx]; done) | (simp only [up_nx, put_nx, kill_nx]; omega)) | (with_reducible refine AH.le.kill hw ?_ ?_; · first | omega | (simp only [up_nx, put_nx, kill_nx]; done) | (simp only [up_nx, put_nx, kill_nx]; omega)))) (by repeat (first | exact Cl.p _ | exact Cl.dsl _ _ | exact Cl.any | refine Cl.tup ?_ | refine Cl.agg ?_ | exact Clo.nil | refine Clo.cons ?_ ?_)) ⟨rfl, rfl⟩
  have hl2 : ¬ (400 : Int) < (l.length : Int) := by omega
  have hok : okS p l = okP p (l.map (·.c)) := by unfold okS; rw [if_neg hl]
  simp (disch := first | omega | simp) [hl2, hok]
  refine loop_st (fun s : AV × Nat => [s.1, iv s.2]) (fun s H' => s.2 ≤ l.length ∧ H.le H' ∧ H.nx ≤ H'.nx ∧ Grows 24 3 H H' s.1 (((l.take s.2).map (·.c)).map Clm.cs)) (fun s => l.length - s.2) (.p (.slice none 0 0), 0) (.refl (Nat.le_refl _)) ⟨Nat.zero_le _, .refl _, Nat.le_refl _, .nil _ _ _ _⟩ ?_
  rintro ⟨v, i⟩ H1 hn1 ⟨hil, hle, hn, hv⟩ k hk
  dsimp only at hil hv hk
  unfold S_prove_Sound_L2
  by_cases hi2 : i < l.length
  · obtain ⟨x, hx⟩ : ∃ x, l[i]? = some x := ⟨_, List.getElem?_eq_getElem hi2⟩
    have hxg : ∀ h, l[i]'h = x := fun h => (List.getElem?_eq_some_iff.1 hx).2
    have hiv := ivn (i := i) (by omega)
    have hll : ((l.take i).map (·.c)).length ≤ 400 := by rw [List.length_map, List.length_take]; omega
    simp (disch := first | omega | simp) [iv, hi2, hxg, Lin.cs]
    refine Grows.app (t := 24) hw (hv.kp (by repeat (first | with_reducible assumption | with_reducible exact Kp.refl _ | with_reducible apply Kp.up | (with_reducible refine Kp.put ?_ ?_; · first | omega | (simp only [up_nx, put_nx, kill_nx]; done) | (simp only [up_nx, put_nx, kill_nx]; omega)) | (with_reducible refine Kp.kill ?_ ?_; · first | omega | (simp only [up_nx, put_nx, kill_nx]; done) | (simp only [up_nx, put_nx, kill_nx]; omega))))) (by repeat (first | with_reducible assumption | with_reducible exact AH.le.refl _ | with_reducible apply AH.le.up | (with_reducible refine AH.le.put hw ?_ ?_; · first | omega | (simp only [up_nx, put_nx, kill_nx]; done) | (simp only [up_nx, put_nx, kill_nx]; omega)) | (with_reducible refine AH.le.kill hw ?_ ?_; · first | omega | (simp only [up_nx, put_nx, kill_nx]; done) | (simp only [up_nx, put_nx, kill_nx]; omega)))) (by first | omega | (simp only [up_nx, put_nx, kill_nx]; done) | (simp only [up_nx, put_nx, kill_nx]; omega)) (by first | omega | (simp only [up_nx, put_nx]; done) | (simp only [up_nx, put_nx]; omega)) (ys := [x.c.cs]) ?_ (dt_clm [x.c]) ?_ ?_ fun v' H3 g3 l3 n3 k3 _ => ?_
    · simp [Clm.cs]
    · rw [List.length_map]; simp only [List.length_singleton]; omega
    · rw [List.length_map]; simp only [List.length_singleton]; omega
    · rw [q_add_i, hiv]
      refine hk (v', i + 1) _ _ _ (.refl (by simp only [up_nx, put_nx] at n3; omega)) ⟨hi2, l3, by simp only [up_nx, put_nx] at n3; omega, ?_⟩ (by dsimp only; omega)
      dsimp only
      rw [List.take_add_one, hx, Option.toList_some, List.map_append, List.map_append]; exact g3
  · have hie : i = l.length := by omega
    subst hie
    rw [List.take_length] at hv
    simp (disch := first | omega | simp) [iv]
    obtain ⟨H2, f1, f2, f3, f4, f5⟩ := hv.fz (P := Try.prog) hw hle hn
    refine ca_pure' (by kernel_rfl) f1 (.cons (.refl _) (.cons f5 .nil)) (c_checkAll p (l.map fun x : Lin => x.c) (by rw [List.length_map]; omega) H2) ?_
    generalize hokv : okP p (l.map (·.c)) = e
    by_cases he : e = 0
    · subst he
      obtain ⟨hpl, hpo⟩ := okP_zero hokv
      have hlo : ∀ y ∈ l, y.c.ok := fun y hy => hpo _ (List.mem_append_right _ (List.mem_map.2 ⟨y, hy, rfl⟩))
      simp (disch := first | omega | simp) [iv]
      refine loop_st (fun i : Nat => [iv i]) (fun i H' => i ≤ l.length ∧ H' = H2 ∧ ∀ j, j < i → ∀ x, l[j]? = some x → rightB p (l.map (·.c)) j x = true) (fun i => l.length - i) 0 (.refl (Nat.le_refl _)) ⟨Nat.zero_le _, rfl, fun j hj => absurd hj (Nat.not_lt_zero _)⟩ ?_
      rintro i H3 hn3 ⟨hil, rfl, hall⟩ k2 hk2
      unfold S_prove_Sound_L1
      by_cases hi2 : i < l.length
      · obtain ⟨x, hx⟩ : ∃ x, l[i]? = some x := ⟨_, List.getElem?_eq_getElem hi2⟩
        have hiv := ivn (i := i) (by omega)
        simp (disch := first | omega | simp) [iv, hi2]
        refine ca_pure (by kernel_rfl) (c_right p l i hx (fun q hq => hpo q (List.mem_append_left _ hq)) hlo (hi x (List.mem_of_getElem? hx)) (by omega) _) ?_
        cases hr : rightB p (l.map (·.c)) i x with
        | true =>
          simp (disch := first | omega | simp) [bv, hiv]
          refine hk2 (i + 1) _ _ _ (.refl hn3) ⟨hi2, rfl, fun j hj y hy => ?_⟩ (by omega)
          by_cases e : j = i
          · subst e; rw [hx] at hy; injection hy with hy; subst hy; exact hr
          · exact hall j (by omega) y hy
        | false =>
          simp (disch := first | omega | simp) [bv]
          refine rt_tup hw f2 (by repeat (first | exact Cl.p _ | exact Cl.dsl _ _ | exact Cl.any | refine Cl.tup ?_ | refine Cl.agg ?_ | exact Clo.nil | refine Clo.cons ?_ ?_)) ⟨rfl, ?_⟩
          have : soundB p l = false := by
            unfold soundB
            rw [List.all_eq_false]
            exact ⟨i, List.mem_range.2 hi2, by rw [hx]; simp [hr]⟩
          simp [this]
      · simp (disch := first | omega | simp) [iv, hi2]
        refine rt_tup hw f2 (by repeat (first | exact Cl.p _ | exact Cl.dsl _ _ | exact Cl.any | refine Cl.tup ?_ | refine Cl.agg ?_ | exact Clo.nil | refine Clo.cons ?_ ?_)) ⟨rfl, ?_⟩
        have : soundB p l = true := by
          unfold soundB
          rw [List.all_eq_true]
          intro j hj
          obtain ⟨y, hy⟩ : ∃ y, l[j]? = some y := ⟨_, List.getElem?_eq_getElem (List.mem_range.1 hj)⟩
          rw [hy]
          exact hall j (by have := List.mem_range.1 hj; omega) y hy
        simp [this, bv]
    · simp (disch := first | omega | simp) [iv, he]
      exact rt_tup hw f2 (by repeat (first | exact Cl.p _ | exact Cl.dsl _ _ | exact Cl.any | refine Cl.tup ?_ | refine Cl.agg ?_ | exact Clo.nil | refine Clo.cons ?_ ?_)) ⟨rfl, by simp [bv]⟩)
end Go.Proofs.Ytcmnjoepadjioaa

/- More of abstract walks: appends in drawn regions. Nothing of the program is named here. -/
namespace Go.Proofs.Ytcmnjoepadjioaa
open Go.RowKit Go.Maps
section
variable {P : Program} {w : World} {S : Nat → Prop} {σ : Nat → Option Value} {H H0 H1 H2 V : AH} {B : Nat}
/-- an append in a drawn region to what it has laid -/
theorem wrf_row {tgt src : Option Nat} {id r off n t sz bytes : Nat} {es ys : List (List AV)} {x : AV} {k : AV → AH → Prop} (ht : tgt = some r) (h1 : V.get r = none) (h2 : H.get r = some (.row t sz es)) (h3 : off + n ≤ es.length) (h4 : ElF V H src sz x ys) (h5 : n + ys.length ≤ maxLen) (h6 : (n + ys.length) * bytes ≤ 140737488355328)
    (hk : k (.osl id sz 0 (n + ys.length)) ((H.kill r).put id (.row t sz ((es.drop off).take n ++ ys)))) : WrF V tgt src id (.app t sz bytes) [.osl r sz off n, x] k H := ⟨_, _, .app_row t sz bytes r off n es ys x H ht h1 h2 h3 h4 h5 h6, hk⟩
theorem wrf_nil {tgt src : Option Nat} {id t sz bytes : Nat} {ys : List (List AV)} {x : AV} {k : AV → AH → Prop} (ht : tgt = none) (h4 : ElF V H src sz x ys) (h5 : ys.length ≤ maxLen) (h6 : ys.length * bytes ≤ 140737488355328)
    (hk : k (.osl id sz 0 ys.length) (H.put id (.row t sz ys))) : WrF V tgt src id (.app t sz bytes) [.p (.slice none 0 0), x] k H := ⟨_, _, .app_nil t sz bytes ys x H ht h4 h5 h6, hk⟩
theorem elF_whole {src : Option Nat} {sz i n : Nat} {t : TypeId} {es : List (List AV)} (hs : src = some i) (hg : H.get i = some (.row t sz es)) (hn : n = es.length) : ElF V H src sz (.osl i sz 0 n) es := by
  subst hn
  have := ElF.new (V := V) (H := H) (src := src) (sz := sz) i 0 es.length t es hs hg (by omega)
  rwa [List.drop_zero, List.take_length] at this
end
end Go.Proofs.Ytcmnjoepadjioaa

/- The law ProveComplete, walked. -/
namespace Go.Proofs.Ytcmnjoepadjioaa
open Go.RowKit Go.Maps
theorem okP_of {p l : List Clm} (h1 : p.length ≤ 20) (h2 : ∀ c ∈ p ++ l, c.ok) : okP p l = 0 := by
  unfold okP
  rw [if_neg (by omega)]
  unfold okL
  rw [if_pos (List.all_eq_true.2 fun c hc => by simpa using h2 c hc)]
theorem right_rule {p cs : List Clm} {n : Nat} {x : Lin} (h : rightB p cs n x = true) : I64 x.rule := by
  unfold rightB at h
  split at h
  · rename_i of hof
    have : 1 ≤ x.rule ∧ x.rule ≤ 10 ∧ of.length = countR x.rule := Decidable.byContradiction fun hc => by rw [ruleB_count hc] at h; cases h
    unfold I64; omega
  · cases h
theorem soundB_of {p : List Clm} {l : List Lin} (h : allRight p l) : soundB p l = true := by
  unfold soundB
  rw [List.all_eq_true]
  intro i _
  cases hx : l[i]? with
  | none => rfl
  | some x => exact h i x hx
/-- Argue's answer, the argument left out -/
theorem c_Argue' (p : List Clm) (c : Clm) (H : AH) : Tri Try.prog 16 [cE p, c.av] H (fun r H' => H' = H ∧ r = .tup [.any, bv (decide (okP p [c] = 0) && !agB p c), iv (okP p [c])]) :=
  (c_Argue p c H).res fun r H' hq => by
    obtain ⟨rfl, har⟩ := hq
    rcases har with ⟨hne, rfl⟩ | ⟨h0, hag, out, rfl, _⟩ | ⟨h0, hag, rfl⟩
    · exact ⟨_, .tup (.cons (.any _) (.cons (.refl _) (.cons (.refl _) .nil))), rfl, by simp [hne]⟩
    · exact ⟨_, .tup (.cons (.any _) (.cons (.refl _) (.cons (.refl _) .nil))), rfl, by simp [h0, hag]⟩
    · exact ⟨_, .tup (.cons (.any _) (.cons (.refl _) (.cons (.refl _) .nil))), rfl, by simp [h0, hag]⟩
theorem all_take_next {α : Type} {xs : List α} {p : α → Bool} {i : Nat} {x : α} (h : xs[i]? = some x) : (xs.take (i + 1)).all p = ((xs.take i).all p && p x) := by
  rw [List.take_add_one, h]; simp
set_option maxHeartbeats 1000000 in
/-- there: the world in which is looked -/
theorem mid_PC {p : List Clm} {c more : Clm} {xs : List Int} {ok : Bool} {b5 b7 : Nat} {t5 t7 : TypeId} {H H2 : AH} (hn : H.nx ≤ H2.nx) (_hw2 : WF H2) (hcb : H2.get b5 = some (.box t5 c.cs)) (hmb : H2.get b7 = some (.box t7 more.cs)) (hok : okP p [c] = 0)
    (hyes : ok = true → ∀ W, allHold W p → holdsC W c = true) (hno : ok = false → okW xs = 0 ∧ allHold (natL xs) p ∧ holdsC (natL xs) c = false) :
    S_wordhoardlaw_ProveComplete_K3 (cE p) (fun r _ => r = .p (.bool true)) H (.ptr b5 0) (.ptr b7 0) (bv ok) (bv (!ok)) [wE xs] H2 := by
  obtain ⟨hp20, hpo⟩ := okP_zero hok
  have hco : c.ok := hpo c (by simp)
  have hpp : ∀ q ∈ p, q.ok := fun q hq => hpo q (List.mem_append_left _ hq)
  unfold S_wordhoardlaw_ProveComplete_K3
  refine loop_wf (fun s : Bool × Nat => [bv s.1, iv s.2]) (fun s H' => s.2 ≤ p.length ∧ H2.le H' ∧ H2.nx ≤ H'.nx ∧ s.1 = (p.take s.2).all (fun q => holdsC (natL xs) q)) (fun s => p.length - s.2) (true, 0) (.refl (Nat.le_refl _)) ⟨Nat.zero_le _, .refl _, Nat.le_refl _, by simp⟩ ?_
  rintro ⟨al, i⟩ H3 hn3 hw3 ⟨hi, hle, hnx, hal⟩ k hk
  dsimp only at hi hal hk
  have hcb3 := hle _ _ hcb
  have hmb3 := hle _ _ hmb
  unfold Clm.cs at hcb3 hmb3
  unfold S_wordhoardlaw_ProveComplete_L2
  by_cases hil : i < p.length
  · obtain ⟨q, hq⟩ : ∃ q, p[i]? = some q := ⟨_, List.getElem?_eq_getElem hil⟩
    have hqg : ∀ h, p[i]'h = q := fun h => (List.getElem?_eq_some_iff.1 hq).2
    have hqo := hpp q (List.mem_of_getElem? hq)
    have hiv := ivn (i := i) (by omega)
    simp (disch := first | omega | simp) [iv, cE, Clm.cs, hil, hqg]
    refine ca_pure (by kernel_rfl) (c_Holds xs q _) ?_
    by_cases hw0 : okW xs = 0
    · rw [if_pos hw0, if_pos hqo]
      have hd : decide (okW xs = 0 ∧ q.ok) = true := decide_eq_true ⟨hw0, hqo⟩
      rw [hd]
      have hnext : (al && holdsC (natL xs) q) = (p.take (i + 1)).all (fun q => holdsC (natL xs) q) := by rw [all_take_next hq, hal]
      cases al with
      | true =>
        simp (disch := first | omega | simp) [iv, bv, hiv]
        exact hk (_, i + 1) _ _ _ (.refl (by omega)) ⟨hil, hle, hnx, by dsimp only; rw [← hnext]; rfl⟩ (by dsimp only; omega)
      | false =>
        simp (disch := first | omega | simp) [iv, bv, hiv]
        exact hk (_, i + 1) _ _ _ (.refl (by omega)) ⟨hil, hle, hnx, by dsimp only; rw [← hnext]; rfl⟩ (by dsimp only; omega)
    · rw [if_neg hw0]
      have hokt : ok = true := by
        cases ok with
        | true => rfl
        | false => exact absurd (hno rfl).1 hw0
      subst hokt
      simp (disch := first | omega | simp) [iv, bv, hw0]
      exact rt_refl rfl (by first | omega | (simp only [up_nx, put_nx, kill_nx]; done) | (simp only [up_nx, put_nx, kill_nx]; omega))
  · have hie : i = p.length := by omega
    subst hie
    rw [List.take_length] at hal
    simp (disch := first | omega | simp) [iv, cE, hcb3]
    refine ca_pure (by kernel_rfl) (c_Holds xs c _) ?_
    by_cases hw0 : okW xs = 0
    · rw [if_pos hw0, if_pos hco]
      have hd : decide (okW xs = 0 ∧ c.ok) = true := decide_eq_true ⟨hw0, hco⟩
      rw [hd]
      have halh : al = true → allHold (natL xs) p := fun h q hq => by rw [hal, List.all_eq_true] at h; exact h q hq
      have fin : (ok = true → al = true → holdsC (natL xs) c = true) ∧ (ok = false → al = true ∧ holdsC (natL xs) c = false) := by
        refine ⟨fun h1 h2 => hyes h1 _ (halh h2), fun h1 => ?_⟩
        obtain ⟨_, h2, h3⟩ := hno h1
        exact ⟨by rw [hal, List.all_eq_true]; exact fun q hq => h2 q hq, h3⟩
      have last : ∀ hv : Bool, (ok = true → al = true → hv = true) → (ok = false → al = true ∧ hv = false) → S_wordhoardlaw_ProveComplete_C1 (cE p) (fun r _ => r = .p (.bool true)) H (.ptr b5 0) (.ptr b7 0) (.p (.bool ok)) (.p (.bool !ok)) [.p (.bool al), .p (.int .i64 (p.length : Int))] (.p (.bool hv)) H3 := by
        intro hv f1 f2
        unfold S_wordhoardlaw_ProveComplete_C1
        have hn5 : ∀ j, H3.nx ≤ j → H3.get j = none := fun j hj => wf_none hw3 hj
        have hag : ok = true → okP (p ++ [more]) [c] = 0 → agB (p ++ [more]) c = false := fun hk1 h0 => by
          cases hb : agB (p ++ [more]) c with
          | false => rfl
          | true =>
            obtain ⟨g1, g2⟩ := agW_against hb
            have := hyes hk1 (agW (p ++ [more]) c) (fun q hq => g1 q (List.mem_append_left _ hq))
            rw [g2] at this; cases this
        have hll : ((p ++ [more]).map Clm.cs).length = p.length + 1 := by simp
        have ha : (ok = true ∧ (al = false ∨ al = true ∧ hv = true)) ∨ (ok = false ∧ al = true ∧ hv = false) := by
          cases ok with
          | true =>
            cases al with
            | false => exact .inl ⟨rfl, .inl rfl⟩
            | true => exact .inl ⟨rfl, .inr ⟨rfl, f1 rfl rfl⟩⟩
          | false => exact .inr ⟨rfl, f2 rfl⟩
        have hmx : maxLen = 9223372036854775807 := by decide
        rcases ha with ⟨rfl, rfl | ⟨rfl, rfl⟩⟩ | ⟨rfl, rfl, rfl⟩
        all_goals
          simp (disch := first | omega | simp) [cE]
          refine wrf_row rfl (by simp [hn5]) (put_get _ _) (by simp) (.old _ _ (.dsl _)) (by rw [List.length_map]; omega) (by rw [List.length_map]; omega) ?_
          simp (disch := first | omega | simp) [hmb3]
          refine wrf_row rfl (by simp [hn5]) (es := p.map Clm.cs) (by simp (disch := first | omega | simp) [put_get_ne]) (by simp) (elF_whole (t := 24) (es := [more.cs]) rfl (by simp (disch := first | omega | simp) [Clm.cs]) rfl) (by simp; omega) (by simp; omega) ?_
          simp (disch := first | omega | simp) [Clm.cs, hcb3]
          refine can_frz (i := H3.nx + 5) (es := (p ++ [more]).map Clm.cs) (r := .tup [.any, bv (decide (okP (p ++ [more]) [c] = 0) && !agB (p ++ [more]) c), iv (okP (p ++ [more]) [c])]) (by kernel_rfl) (by simp) (by simp [hn5]) (by rw [put_get, List.take_of_length_le (by simp), List.map_append]; rfl) (dt_cs _) (fun H4 hle4 => ?_) ?_
          · have hg4 : H4.get (H3.nx + 5) = some (.frz 3 ((p ++ [more]).map Clm.cs)) := hle4 _ _ (by simp only [mixV_cons, mixV_nil, put_get, mixO_some])
            have hfz := Sub.frz (P := Try.prog) (off := 0) (n := p.length + 1) hg4 (by simp)
            rw [List.drop_zero, List.take_of_length_le (by simp)] at hfz
            exact Tri.args (.cons hfz (.cons (Sub.refl _) .nil)) (c_Argue' (p ++ [more]) c H4)
          by_cases h0 : okP (p ++ [more]) [c] = 0
          · first
            | (have hb := hag rfl h0
               simp (disch := first | omega | simp) [iv, bv, h0, hb]
               exact rt_refl rfl (by first | omega | (simp only [up_nx, put_nx, kill_nx]; done) | (simp only [up_nx, put_nx, kill_nx]; omega)))
            | (cases hb : agB (p ++ [more]) c <;> simp (disch := first | omega | simp) [iv, bv, h0] <;> exact rt_refl rfl (by first | omega | (simp only [up_nx, put_nx, kill_nx]; done) | (simp only [up_nx, put_nx, kill_nx]; omega)))
          · simp (disch := first | omega | simp) [iv, bv, h0]
            exact rt_refl rfl (by first | omega | (simp only [up_nx, put_nx, kill_nx]; done) | (simp only [up_nx, put_nx, kill_nx]; omega))
      simpa [iv, bv, hw0, hco, cE] using last (holdsC (natL xs) c) fin.1 fin.2
    · rw [if_neg hw0]
      have hokt : ok = true := by
        cases ok with
        | true => rfl
        | false => exact absurd (hno rfl).1 hw0
      subst hokt
      simp (disch := first | omega | simp) [iv, bv, hw0]
      exact rt_refl rfl (by first | omega | (simp only [up_nx, put_nx, kill_nx]; done) | (simp only [up_nx, put_nx, kill_nx]; omega))
set_option maxHeartbeats 1000000 in
theorem c_ProveComplete (p : List Clm) (c : Clm) (xs : List Int) (more : Clm) (H : AH) : Tri Try.prog 6 [cE p, c.av, wE xs, more.av] H (fun r _ => r = .p (.bool true)) := tri_wf fun hw => tri_wordhoardlaw_ProveComplete (by
  unfold S_wordhoardlaw_ProveComplete
  simp (disch := first | omega | simp) [Clm.av, Clm.cs]
  refine ca_pure (by kernel_rfl) (pc_begun) ?_
  simp (disch := first | omega | simp) [bv]
  unfold S_wordhoardlaw_ProveComplete_C5
  simp (disch := first | omega | simp) [put_get_ne]
  refine ca_wf (by kernel_rfl) (c_Argue p c _) ?_
  rintro r H1 hw1 ⟨rfl, har⟩
  rcases har with ⟨hne, rfl⟩ | ⟨h0, hag, out, rfl, har, hoo, hol, init, y, hout, hyc⟩ | ⟨h0, hag, rfl⟩
  · have hagr : agR p c = .tup [.p (.slice none 0 0), bv false, iv (okP p [c])] := by unfold agR; rw [if_pos hne]
    simp (disch := first | omega | simp) [put_get_ne]
    refine ca_pure (by kernel_rfl) (c_Against p c _) ?_
    rw [hagr]
    simp (disch := first | omega | simp) [iv, bv, hne]
    exact rt_refl rfl (by first | omega | (simp only [up_nx, put_nx]; done) | (simp only [up_nx, put_nx]; omega))
  · have hok := okP_zero h0
    have hpo : ∀ q ∈ p, q.ok := fun q hq => hok.2 q (List.mem_append_left _ hq)
    have hagr : agR p c = .tup [.p (.slice none 0 0), bv false, iv 0] := by unfold agR; rw [if_neg (by rw [h0]; decide), hag]; rfl
    simp (disch := first | omega | simp) [put_get_ne]
    refine ca_pure (by kernel_rfl) (c_Against p c _) ?_
    rw [hagr]
    simp (disch := first | omega | simp) [iv, bv]
    refine cut_wf (fun _ : Unit => [wE xs]) (fun _ H' => H' = ((H.up 3).put H.nx (.box 24 c.cs)).put (H.nx + 1) (.box 24 more.cs)) (fun k hk => ?_) ?_
    · simp (disch := first | omega | simp) []
      unfold S_wordhoardlaw_ProveComplete_C4
      refine ca_pure (by kernel_rfl) (c_Sound p out (fun x hx => by obtain ⟨i, hi⟩ := List.getElem?_of_mem hx; exact right_rule (har i x hi)) _) ?_
      have hoS : okS p out = 0 := by
        unfold okS; rw [if_neg (by omega)]
        exact okP_of hok.1 fun q hq => by
          rcases List.mem_append.1 hq with hq | hq
          · exact hpo q hq
          · obtain ⟨z, hz, rfl⟩ := List.mem_map.1 hq; exact hoo z hz
      rw [hoS, soundB_of har]
      obtain ⟨n, hn⟩ : ∃ n, out.length = n + 1 := ⟨init.length, by rw [hout]; simp⟩
      have hlast : out[n]? = some y := by
        rw [hout] at hn ⊢
        simp at hn
        rw [List.getElem?_append_right (by omega)]; simp [hn]
      have hlg : ∀ h, out[n]'h = y := fun h => (List.getElem?_eq_some_iff.1 hlast).2
      have hz : ¬ ((n : Int) + 1 = 0) := by omega
      have hwn : IntKind.i64.wrap (n : Int) = (n : Int) := by rw [IntKind.wrap_i64]; omega
      have hnl : n < out.length := by omega
      simp (disch := first | omega | simp) [iv, bv, put_get_ne, hn, hz, hwn, hlg, Lin.cs]
      refine ⟨by omega, q_neClm (c := y.c) (d := c) ?_⟩
      simp (disch := first | omega | simp) [hyc]
      exact hk () _ _ _ (.refl (Nat.le_refl _)) rfl
    · rintro _ H2 hn2 hw2 rfl
      refine mid_PC (t5 := 24) (by simp) hw2 (by simp (disch := first | omega | simp) [put_get_ne]) (put_get _ _) h0 (fun _ W hW => ?_) (fun h => by cases h)
      have := lines_hold har hpo hoo hW init.length y (by rw [hout]; simp)
      rw [hyc] at this; exact this
  · have hok := okP_zero h0
    have hpo : ∀ q ∈ p, q.ok := fun q hq => hok.2 q (List.mem_append_left _ hq)
    have hagr : agR p c = .tup [wE (nI (agW p c)), bv true, iv 0] := by unfold agR; rw [if_neg (by rw [h0]; decide), hag]; rfl
    simp (disch := first | omega | simp) [put_get_ne]
    refine ca_pure (by kernel_rfl) (c_Against p c _) ?_
    rw [hagr]
    simp (disch := first | omega | simp) [iv, bv]
    refine cut_wf (fun _ : Unit => [wE (nI (agW p c))]) (fun _ H' => H' = ((H.up 3).put H.nx (.box 24 c.cs)).put (H.nx + 1) (.box 24 more.cs)) (fun k hk => by simp (disch := first | omega | simp) []; exact hk () _ _ _ (.refl (Nat.le_refl _)) rfl) ?_
    rintro _ H2 hn2 hw2 rfl
    obtain ⟨ha1, ha2⟩ := agW_against hag
    exact mid_PC (t5 := 24) (by simp) hw2 (by simp (disch := first | omega | simp) [put_get_ne]) (put_get _ _) h0 (fun h => by cases h) (fun _ => ⟨okW_nI (agW_len p c) agW_lt, by rw [natL_nI]; exact ⟨ha1, ha2⟩⟩))
end Go.Proofs.Ytcmnjoepadjioaa

/- What comes into the laws of what follows: claims and lines, and that what comes in can be read so. -/
namespace Go.Proofs.Ytcmnjoepadjioaa
open Go.RowKit
def rClm : Rep (Bool × Int × Int) := rPair rBool (rPair rInt rInt)
def toC (x : Bool × Int × Int) : Clm := ⟨x.1, x.2.1, x.2.2⟩
def Clm.i64 (c : Clm) : Prop := I64 c.a ∧ I64 c.b
theorem avs_clm : AvsG rClm toC Clm.cs Clm.i64 := (avs_bool.pair (avs_int.pair avs_int)).map (fun x => (⟨x.1, x.2.1, x.2.2⟩ : Clm)) Clm.cs Clm.i64 (fun _ => rfl) (fun _ h => h.2)
theorem opens_clm : Opens Try.prog 24 rClm :=
  opens_struct (l := [_, _, _]) Try.underlying24 rfl (opens_more rfl rfl (opens_bool Try.underlying4) (opens_more rfl rfl (opens_int Try.underlying3) (opens_last rfl rfl (opens_int Try.underlying3))))
theorem opens_clms : Opens Try.prog 32 (rList rClm) := opens_slice Try.underlying32 rfl (by decide) opens_clm
theorem opens_ints : Opens Try.prog 22 (rList rInt) := opens_slice Try.underlying22 rfl (by decide) (opens_int Try.underlying3)
end Go.Proofs.Ytcmnjoepadjioaa
