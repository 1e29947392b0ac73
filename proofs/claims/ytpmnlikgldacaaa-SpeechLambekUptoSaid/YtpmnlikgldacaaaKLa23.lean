/- The law SpeechLambek holds: whatever comes in, the call returns true and its arguments read as they did. Condition: what comes in is of bulk at most 1048576 (the given UptoSaid). -/
import Derived.Test.YtpmnlikgldacaaaKLa22
import Derived.JoinedCond

/- The law of Lambek: the walk. -/
namespace Go.Proofs.Ytpmnlikgldacaaa
open Go.RowKit Go.Maps
theorem prove_all (l : List Ty) (g : Ty) : ∃ (q : Pf) (b : Bool), proveR l g = .tup [q.av, bv b, iv (asksV l g)] ∧ (b = true ↔ (asksV l g = 0 ∧ Dv l g)) ∧ (b = true → ∃ n, PfOf q l g n) ∧ (b = false → q = zeroP) := by
  by_cases ha : asksV l g = 0
  · by_cases hd : Dv l g
    · obtain ⟨p, n, hp, hr⟩ := prove_yes ha hd
      exact ⟨p, true, by rw [ha]; exact hr, by simp [ha, hd], fun _ => ⟨n, hp⟩, fun h => by cases h⟩
    · exact ⟨zeroP, false, by rw [ha]; exact prove_no ha hd, by simp [hd], fun h => (by cases h), fun _ => rfl⟩
  · exact ⟨zeroP, false, prove_wrong ha, by simp [ha], fun h => (by cases h), fun _ => rfl⟩
theorem asks_mid {g d h : List Ty} {x z : Ty} (h1 : asksV d x = 0) (h2 : asksV (g ++ x :: h) z = 0) : asksV (g ++ d ++ h) z = 0 ∨ asksV (g ++ d ++ h) z = 7 ∨ asksV (g ++ d ++ h) z = 2 := by
  obtain ⟨a1, a2, a3, a4, a5⟩ := asksV_ok h1
  obtain ⟨b1, b2, b3, b4, b5⟩ := asksV_ok h2
  unfold asksV
  split
  · exact .inr (.inl rfl)
  · have hg : Goods (g ++ d ++ h ++ [z]) := fun t ht => by
      simp only [List.mem_append, List.mem_singleton] at ht
      rcases ht with ((ht | ht) | ht) | ht
      · exact b1 t (by simp [ht])
      · exact a1 t ht
      · exact b1 t (by simp [ht])
      · subst ht; exact b2
    rw [if_neg (by rw [chkL_ok hg]; simp)]
    split
    · exact .inr (.inr rfl)
    · exact .inl rfl
theorem lfs_le {K : Int} : ∀ (ks : List Pf) (most n left : Int), (∀ k ∈ ks, ∀ m, k.lf m ≤ K) → left ≤ K → Pf.lfs ks most n left ≤ K
  | [], most, n, left, _, h => by rw [Pf.lfs]; exact h
  | k :: r, most, n, left, hk, h => by
    rw [Pf.lfs]
    split
    · exact h
    · refine lfs_le r _ _ _ (fun q hq => hk q (List.mem_cons_of_mem _ hq)) ?_
      have := hk k (List.mem_cons_self ..) (most - n)
      split <;> omega
theorem lf_le {K : Int} : ∀ (N : Nat) (p : Pf) (most : Int), p.size ≤ N → Pf.All (fun q => (q.left.length : Int) ≤ K) p → p.lf most ≤ K
  | 0, p, _, h, _ => by have := p.size_pos; omega
  | N + 1, p, most, h, ha => by
    rw [Pf.lf_eq]
    refine lfs_le _ _ _ _ (fun k hk m => lf_le N k m ?_ (ha.kid k hk)) ha.here
    have := Pf.sizes_mem hk
    rw [Pf.size_eq] at h
    omega
theorem PfOf.step0 {p : Pf} {l : List Ty} {g : Ty} {n : Nat} (h : PfOf p l g n) : p.step ≠ 0 := by
  cases h <;> simp
set_option maxHeartbeats 2000000 in
theorem lam_cut {H U : AH} {d : List Ty} {g : Ty} {p : Pf} {pr n : Nat} (hw : WF H) (ul : H.le U) (un : H.nx + 3 ≤ U.nx) (_hpr : pr < U.nx) (uP : U.get pr = some (.box 27 p.cs)) (ha : asksV d g = 0) (hp : PfOf p d g n) :
    S_wordhoardlaw_SpeechLambek_C1 (fun v H' => H' = H ∧ v = .p (.bool true)) H (.ptr pr 0) U := by
  unfold S_wordhoardlaw_SpeechLambek_C1
  obtain ⟨a1, a2, a3, a4, a5⟩ := asksV_ok ha
  have hN : Pf.All Pf.Nums p := hp.nums (K := 16) (by omega) (by omega)
  obtain ⟨q1, q2, q3⟩ := hp.head
  have hdv : Dv d g := hp.dv
  obtain ⟨q, m, hq, he⟩ := prove_yes ha hdv
  have hst := hp.steps
  have hfit := hp.fit (K := 16) a1 a2 (by omega)
  have hfine : Pf.All Pf.Fine p := hfit.imp fun q hq => ⟨hq.1, hq.2.1⟩
  have hlf : p.lf 200 ≤ 16 := lf_le _ p 200 (Nat.le_refl _) (hfit.imp fun q hq => by have := hq.2.2.1; omega)
  have hasks : asksP p = 0 := by
    unfold asksP
    rw [if_neg (by omega), Pf.fine_chk hfine]
  have hcut : cutR p = .tup [q.av, iv 0] := by
    unfold cutR
    rw [if_neg (by simp [hasks]), if_neg (by simp [hp.rt]), q1, q2, he]
  simp (disch := first | omega | simp) [uP, Pf.cs_len, Pf.cs_take]
  refine ca_pure (by kernel_rfl) (c_Right hN _) ?_
  rw [hp.rt, hasks]
  simp (disch := first | omega | simp) [uP, Pf.cs_len, Pf.cs_take]
  refine ca_pure (by kernel_rfl) (c_Cutless hN _) ?_
  rw [hcut]
  have hcs : q.cs[0]? = some (.p (.int .i64 q.step)) := by rw [q.cs_pC]; rfl
  have hs0 := hq.step0
  simp (disch := first | omega | simp) [iv, bv, Pf.av, Pf.cs_len, hcs, hs0]
  exact rt_one hw (AH.le.put hw (by omega) (AH.le.put hw (by omega) (AH.le.up ul))) (by repeat (first | exact Cl.p _ | exact Cl.dsl _ _ | exact Cl.any | refine Cl.tup ?_ | refine Cl.agg ?_ | exact Clo.nil | refine Clo.cons ?_ ?_)) ⟨rfl, rfl⟩
set_option maxHeartbeats 2000000 in
theorem lam_under {H T : AH} {d : List Ty} {x z : Ty} {p : Pf} {pr : Nat} (hw : WF H) (tl : H.le T) (tn : H.nx + 3 ≤ T.nx) (hfr : ∀ j, T.nx ≤ j → T.get j = none) (tX : T.get H.nx = some (.box 24 x.cs)) (tZ : T.get (H.nx + 1) = some (.box 24 z.cs)) (hpr : pr < T.nx) (tP : T.get pr = some (.box 27 p.cs)) (hd0 : d ≠ []) (hb2 : d.length ≤ 1048576)
    (hp : p = zeroP ∨ ∃ n, asksV d (Ty.o z x) = 0 ∧ PfOf p d (Ty.o z x) n) :
    S_wordhoardlaw_SpeechLambek_C2 (.dsl 3 (d.map Ty.cs)) (fun v H' => H' = H ∧ v = .p (.bool true)) H (.ptr H.nx 0) (.ptr (H.nx + 1) 0) (.ptr pr 0) T := by
  have hml : maxLen = 9223372036854775807 := by decide
  unfold S_wordhoardlaw_SpeechLambek_C2
  simp (disch := first | omega | simp) [tX, tZ, Ty.cs_len, Ty.cs_take]
  refine ca_pure (by kernel_rfl) (c_under x z _) ?_
  refine ca_pure (by kernel_rfl) (c_Prove d (Ty.u x z) _) ?_
  obtain ⟨p1, A, e1, hA, hAp, hAz⟩ := prove_all d (Ty.u x z)
  rw [e1]
  simp (disch := first | omega | simp) [Pf.av, tX, Ty.cs_len, Ty.cs_take]
  have hVo : ∀ j, T.nx ≤ j → (T.up 12).get j = none := fun j hj => hfr j hj
  refine wrf_row rfl (hVo _ (by omega)) (es := [x.cs]) (by simp (disch := first | omega | simp)) (by simp) (.old _ _ (.dsl _)) (by simp; omega) (by simp; omega) ?_
  have hes : ([x.cs].drop 0).take 1 ++ d.map Ty.cs = (x :: d).map Ty.cs := by simp
  have hlen : 1 + (d.map Ty.cs).length = (x :: d).length := by simp; omega
  rw [hes, hlen]
  generalize hWe : AH.put _ _ _ = W
  have hWl : H.le W := by rw [← hWe]; exact AH.le.put hw (by omega) (AH.le.kill hw (by omega) (AH.le.put hw (by omega) (AH.le.up tl)))
  have hWn : W.nx = T.nx + 12 := by rw [← hWe]; simp only [put_nx, kill_nx, up_nx]
  have hWk : ∀ j, j < T.nx → W.get j = T.get j := fun j hj => by
    rw [← hWe]
    simp (disch := first | omega | simp) [put_get_ne, AH.kill]
  have hWr : W.get (T.nx + 3) = some (.row 24 3 ((x :: d).map Ty.cs)) := by rw [← hWe]; exact put_get _ _
  clear hWe
  have wP := (hWk pr hpr).trans tP
  have vZ : (T.up 12).get (H.nx + 1) = some (.box 24 z.cs) := tZ
  obtain ⟨p2, B, e2, hB, hBp, _⟩ := prove_all (x :: d) z
  simp (disch := first | omega | simp) [vZ, Ty.cs_len, Ty.cs_take, -List.length_append, -List.length_cons]
  refine can_frz (i := T.nx + 3) (t := 24) (sz := 3) (es := (x :: d).map Ty.cs) (r := proveR (x :: d) z) (by kernel_rfl) (by simp) (hVo _ (by omega)) hWr (dt_ty _) (fun H4 hle4 => ?_) ?_
  · have hf : H4.get (T.nx + 3) = some (.frz 3 ((x :: d).map Ty.cs)) := hle4 _ _ (by simp (disch := first | omega | simp))
    have hsub := Sub.frz (P := Try.prog) (off := 0) (n := (x :: d).length) hf (by simp)
    rw [List.drop_zero, List.take_of_length_le (by simp)] at hsub
    exact Tri.args (.cons hsub (.cons (.refl _) .nil)) (c_Prove (x :: d) z H4)
  rw [e2]
  simp (disch := first | omega | simp) [Pf.av]
  generalize hUe : AH.put _ _ _ = U
  have hUl : H.le U := by rw [← hUe]; exact AH.le.put hw (by omega) hWl
  have hUn : U.nx = T.nx + 12 := by rw [← hUe]; simp only [put_nx]; omega
  have uP : U.get pr = some (.box 27 p.cs) := by rw [← hUe, AH.get_put_ne (by omega)]; exact wP
  clear hUe
  have hstep : p.cs[0]? = some (.p (.int .i64 p.step)) := by rw [p.cs_pC]; rfl
  have hinv : asksV d (Ty.u x z) = 0 → asksV (x :: d) z = 0 → A = B := fun h1 h2 => by
    cases A with
    | true =>
      exact (hB.2 ⟨h2, Dv.inv_u (hA.1 rfl).2⟩).symm
    | false =>
      cases B with
      | true => exact absurd (hA.2 ⟨h1, .ur hd0 (hB.1 rfl).2⟩) (by decide)
      | false => rfl
  have hRU : (p.step = 0 → Rt Try.prog H.nx (.p (.bool true)) (fun v H' => H' = H ∧ v = .p (.bool true)) U) ∧ (¬ p.step = 0 → S_wordhoardlaw_SpeechLambek_C1 (fun v H' => H' = H ∧ v = .p (.bool true)) H (.ptr pr 0) U) :=
    ⟨fun _ => rt_one hw hUl (by repeat (first | exact Cl.p _ | exact Cl.dsl _ _ | exact Cl.any | refine Cl.tup ?_ | refine Cl.agg ?_ | exact Clo.nil | refine Clo.cons ?_ ?_)) ⟨rfl, rfl⟩, fun hs => by
      rcases hp with rfl | ⟨n, h1, h2⟩
      · exact absurd rfl hs
      · exact lam_cut hw hUl (by omega) (by omega) uP h1 h2⟩
  by_cases h1 : asksV d (Ty.u x z) = 0
  · by_cases h2 : asksV (x :: d) z = 0
    · have := hinv h1 h2
      subst this
      simp (disch := first | omega | simp) [iv, bv, h1, h2, uP, hstep]
      exact hRU
    · simp (disch := first | omega | simp) [iv, bv, h1, h2, uP, hstep]
      exact hRU
  · simp (disch := first | omega | simp) [iv, bv, h1, uP, hstep]
    exact hRU
set_option maxHeartbeats 2000000 in
theorem lam_tail {H T : AH} {d : List Ty} {x z : Ty} (hw : WF H) (tl : H.le T) (tn : H.nx + 3 ≤ T.nx) (hwT : WF T) (tX : T.get H.nx = some (.box 24 x.cs)) (tZ : T.get (H.nx + 1) = some (.box 24 z.cs)) (hd0 : d ≠ []) (hb2 : d.length ≤ 1048576) :
    S_wordhoardlaw_SpeechLambek_C3 (.dsl 3 (d.map Ty.cs)) (fun v H' => H' = H ∧ v = .p (.bool true)) H (.ptr H.nx 0) (.ptr (H.nx + 1) 0) T := by
  have hml : maxLen = 9223372036854775807 := by decide
  unfold S_wordhoardlaw_SpeechLambek_C3
  simp (disch := first | omega | simp) [tX, tZ, Ty.cs_len, Ty.cs_take]
  have hfr : ∀ j, T.nx ≤ j → T.get j = none := fun j hj => wf_none hwT hj
  refine ca_pure (by kernel_rfl) (c_over z x _) ?_
  refine ca_pure (by kernel_rfl) (c_Prove d (Ty.o z x) _) ?_
  obtain ⟨p, A, e1, hA, hAp, hAz⟩ := prove_all d (Ty.o z x)
  rw [e1]
  simp (disch := first | omega | simp) [Pf.av, Pf.cs_len]
  generalize hVe : AH.up _ 16 = V
  have hVn : V.nx = T.nx + 29 := by rw [← hVe]; rfl
  have hVk : ∀ j, j < T.nx → V.get j = T.get j := fun j hj => by rw [← hVe, up_get, AH.get_put_ne (by omega), AH.get_put_ne (by omega), up_get]
  have hVo : ∀ j, T.nx + 13 ≤ j → V.get j = none := fun j hj => by rw [← hVe, up_get, AH.get_put_ne (by omega), AH.get_put_ne (by omega), up_get]; exact hfr j (by omega)
  have hVl : H.le V := fun j o ho => by rw [hVk j (by have := (hw _ _ ho).1; omega)]; exact tl _ _ ho
  have vX := (hVk H.nx (by omega)).trans tX
  have vZ := (hVk (H.nx + 1) (by omega)).trans tZ
  have vP : V.get (T.nx + 9) = some (.box 27 p.cs) := by rw [← hVe, up_get, put_get]
  clear hVe
  refine wrf_row rfl (hVo _ (by omega)) (es := []) (by simp (disch := first | omega | simp)) (by simp) (.old _ _ (.dsl _)) (by simp; omega) (by simp; omega) ?_
  simp (disch := first | omega | simp) [vX, Ty.cs_len, Ty.cs_take]
  refine wrf_row rfl (hVo _ (by omega)) (es := d.map Ty.cs) (by simp (disch := first | omega | simp) [put_get_ne]) (by simp) (elF_whole (t := 24) (es := [x.cs]) rfl (by simp (disch := first | omega | simp)) rfl) (by simp; omega) (by simp; omega) ?_
  have hes : ((d.map Ty.cs).drop 0).take d.length ++ [x.cs] = (d ++ [x]).map Ty.cs := by
    rw [List.drop_zero, List.take_of_length_le (l := d.map Ty.cs) (by simp)]; simp
  have hlen : d.length + [x.cs].length = (d ++ [x]).length := by simp
  rw [hes, hlen]
  generalize hWe : AH.put _ _ _ = W
  have hWl : H.le W := by rw [← hWe]; exact AH.le.put hw (by omega) (AH.le.kill hw (by omega) (AH.le.put hw (by omega) (AH.le.put hw (by omega) (AH.le.kill hw (by omega) (AH.le.put hw (by omega) hVl)))))
  have hWn : W.nx = T.nx + 29 := by rw [← hWe]; simp only [put_nx, kill_nx]; omega
  have hWk : ∀ j, j < T.nx + 13 → W.get j = V.get j := fun j hj => by
    rw [← hWe]
    simp (disch := first | omega | simp) [put_get_ne, AH.kill]
  have hWo : ∀ j, T.nx + 29 ≤ j → W.get j = none := fun j hj => by
    rw [← hWe]
    simp (disch := first | omega | simp) [put_get_ne, AH.kill]
    exact hVo j (by omega)
  have hWr : W.get (T.nx + 13 + 5) = some (.row 24 3 ((d ++ [x]).map Ty.cs)) := by rw [← hWe]; exact put_get _ _
  clear hWe
  have wX := (hWk H.nx (by omega)).trans vX
  have wZ := (hWk (H.nx + 1) (by omega)).trans vZ
  have wP := (hWk (T.nx + 9) (by omega)).trans vP
  obtain ⟨p2, B, e2, hB, hBp, _⟩ := prove_all (d ++ [x]) z
  simp (disch := first | omega | simp) [vZ, Ty.cs_len, Ty.cs_take, -List.length_append, -List.length_cons]
  refine can_frz (i := T.nx + 13 + 5) (t := 24) (sz := 3) (es := (d ++ [x]).map Ty.cs) (r := proveR (d ++ [x]) z) (by kernel_rfl) (by simp) (hVo _ (by omega)) hWr (dt_ty _) (fun H4 hle4 => ?_) ?_
  · have hf : H4.get (T.nx + 13 + 5) = some (.frz 3 ((d ++ [x]).map Ty.cs)) := hle4 _ _ (by simp (disch := first | omega | simp))
    have hsub := Sub.frz (P := Try.prog) (off := 0) (n := (d ++ [x]).length) hf (by simp)
    rw [List.drop_zero, List.take_of_length_le (by simp)] at hsub
    exact Tri.args (.cons hsub (.cons (.refl _) .nil)) (c_Prove (d ++ [x]) z H4)
  rw [e2]
  simp (disch := first | omega | simp) [Pf.av, Pf.cs_len]
  refine ⟨hVo _ (by omega), ?_⟩
  generalize hUe : AH.put _ _ _ = U
  have hUl : H.le U := by rw [← hUe]; exact AH.le.put hw (by omega) (AH.le.put hw (by omega) (AH.le.put hw (by omega) hWl))
  have hUn : U.nx = T.nx + 29 := by rw [← hUe]; simp only [put_nx]; omega
  have hUk : ∀ j, j < T.nx + 13 → U.get j = W.get j := fun j hj => by rw [← hUe, AH.get_put_ne (by omega), AH.get_put_ne (by omega), AH.get_put_ne (by omega)]
  have hUo : ∀ j, T.nx + 29 ≤ j → U.get j = none := fun j hj => by
    rw [← hUe, AH.get_put_ne (by omega), AH.get_put_ne (by omega), AH.get_put_ne (by omega)]
    exact hWo j hj
  clear hUe
  have uX := (hUk H.nx (by omega)).trans wX
  have uZ := (hUk (H.nx + 1) (by omega)).trans wZ
  have uP := (hUk (T.nx + 9) (by omega)).trans wP
  generalize hC2 : S_wordhoardlaw_SpeechLambek_C2 _ _ _ _ _ _ = R
  have hRU : R U := by
    rw [← hC2]
    refine lam_under hw hUl (by omega) (fun j hj => hUo j (by omega)) uX uZ (by omega) uP hd0 hb2 ?_
    cases A with
    | false => exact .inl (hAz rfl)
    | true => obtain ⟨n, hn⟩ := hAp rfl; exact .inr ⟨n, (hA.1 rfl).1, hn⟩
  have hinv : asksV d (Ty.o z x) = 0 → asksV (d ++ [x]) z = 0 → A = B := fun h1 h2 => by
    cases A with
    | true =>
      exact (hB.2 ⟨h2, Dv.inv_o (hA.1 rfl).2⟩).symm
    | false =>
      cases B with
      | true => exact absurd (hA.2 ⟨h1, .or_ hd0 (hB.1 rfl).2⟩) (by decide)
      | false => rfl
  by_cases h1 : asksV d (Ty.o z x) = 0
  · by_cases h2 : asksV (d ++ [x]) z = 0
    · have := hinv h1 h2
      subst this
      simp (disch := first | omega | simp) [iv, bv, h1, h2]
      exact hRU
    · simp (disch := first | omega | simp) [iv, bv, h1, h2]
      exact hRU
  · simp (disch := first | omega | simp) [iv, bv, h1]
    exact hRU
set_option maxHeartbeats 2000000 in
theorem w_SpeechLambek (g d h : List Ty) (x z : Ty) (hb : g.length ≤ 1048576 ∧ d.length ≤ 1048576 ∧ h.length ≤ 1048576) : PF Try.prog 8 [tE g, tE d, tE h, x.av, z.av] (bv true) := fun H => tri_wf fun hw => tri_wordhoardlaw_SpeechLambek (by
  have hml : maxLen = 9223372036854775807 := by decide
  obtain ⟨hb1, hb2, hb3⟩ := hb
  unfold S_wordhoardlaw_SpeechLambek
  simp (disch := first | omega | simp) [Ty.av]
  refine ca_pure (by kernel_rfl) (c_begun _) ?_
  simp (disch := first | omega | simp) [bv]
  generalize hMe : AH.put _ _ _ = M
  have hMl : H.le M := by rw [← hMe]; exact (by repeat (first | with_reducible assumption | with_reducible exact AH.le.refl _ | with_reducible apply AH.le.up | (with_reducible refine AH.le.put hw ?_ ?_; · first | omega | (simp only [up_nx, put_nx, kill_nx]; done) | (simp only [up_nx, put_nx, kill_nx]; omega)) | (with_reducible refine AH.le.kill hw ?_ ?_; · first | omega | (simp only [up_nx, put_nx, kill_nx]; done) | (simp only [up_nx, put_nx, kill_nx]; omega))))
  have hMn : M.nx = H.nx + 3 := by rw [← hMe]; rfl
  have gX : M.get H.nx = some (.box 24 x.cs) := by rw [← hMe]; simp (disch := first | omega | simp) [put_get_ne]
  have gZ : M.get (H.nx + 1) = some (.box 24 z.cs) := by rw [← hMe]; simp (disch := first | omega | simp)
  have hwM : WF M := by rw [← hMe]; exact ((hw.up 3).box (by simp only [up_nx]; omega) (Ty.cl _ _)).box (by simp only [up_nx, put_nx]; omega) (Ty.cl _ _)
  clear hMe
  unfold S_wordhoardlaw_SpeechLambek_C6
  simp (disch := first | omega | simp) [gX, Ty.cs_len, Ty.cs_take]
  refine ca_pure (by kernel_rfl) (c_Prove d x _) ?_
  obtain ⟨p1, A, e1, hA, hAp, _⟩ := prove_all d x
  rw [e1]
  unfold tE
  simp (disch := first | omega | simp) [Pf.av, Pf.cs_len]
  generalize hVe : AH.up _ 18 = V
  have hVn : V.nx = M.nx + 29 := by rw [← hVe]; rfl
  have hVk : ∀ j, j < M.nx → V.get j = M.get j := fun j hj => by rw [← hVe, up_get, AH.get_put_ne (by omega), AH.get_put_ne (by omega), up_get]
  have hVo : ∀ j, M.nx + 11 ≤ j → V.get j = none := fun j hj => by rw [← hVe, up_get, AH.get_put_ne (by omega), AH.get_put_ne (by omega), up_get]; exact wf_none hwM (by omega)
  have hVl : H.le V := fun j o ho => by rw [hVk j (by have := (hw _ _ ho).1; omega)]; exact hMl _ _ ho
  have vX := (hVk H.nx (by omega)).trans gX
  have vZ := (hVk (H.nx + 1) (by omega)).trans gZ
  clear hVe
  refine wrf_row rfl (hVo _ (by omega)) (es := []) (by simp (disch := first | omega | simp)) (by simp) (.old _ _ (.dsl _)) (by simp; omega) (by simp; omega) ?_
  simp (disch := first | omega | simp) [vX, Ty.cs_len, Ty.cs_take]
  refine wrf_row rfl (hVo _ (by omega)) (es := g.map Ty.cs) (by simp (disch := first | omega | simp) [put_get_ne]) (by simp) (elF_whole (t := 24) (es := [x.cs]) rfl (by simp (disch := first | omega | simp)) rfl) (by simp; omega) (by simp; omega) ?_
  refine wrf_row rfl (hVo _ (by omega)) (es := g.map Ty.cs ++ [x.cs]) (by simp (disch := first | omega | simp); exact List.take_of_length_le (by simp)) (by simp) (.old _ _ (.dsl _)) (by simp; omega) (by simp; omega) ?_
  have hes : ((g.map Ty.cs ++ [x.cs]).drop 0).take (g.length + [x.cs].length) ++ h.map Ty.cs = (g ++ x :: h).map Ty.cs := by
    rw [List.drop_zero, List.take_of_length_le (l := g.map Ty.cs ++ [x.cs]) (by simp)]; simp
  have hlen : g.length + [x.cs].length + (h.map Ty.cs).length = (g ++ x :: h).length := by simp; omega
  rw [hes, hlen]
  generalize hWe : AH.put _ _ _ = W
  have hWl : H.le W := by rw [← hWe]; exact AH.le.put hw (by omega) (AH.le.kill hw (by omega) (AH.le.put hw (by omega) (AH.le.kill hw (by omega) (AH.le.put hw (by omega) (AH.le.put hw (by omega) (AH.le.kill hw (by omega) (AH.le.put hw (by omega) hVl)))))))
  have hWn : W.nx = M.nx + 29 := by rw [← hWe]; simp only [put_nx, kill_nx]; omega
  have hWk : ∀ j, j < M.nx → W.get j = M.get j := fun j hj => by
    rw [← hWe, ← hVk j hj]
    simp (disch := first | omega | simp) [put_get_ne, AH.kill]
  have hWr : W.get (M.nx + 11 + 7) = some (.row 24 3 ((g ++ x :: h).map Ty.cs)) := by rw [← hWe]; exact put_get _ _
  clear hWe
  have wX := (hWk H.nx (by omega)).trans gX
  have wZ := (hWk (H.nx + 1) (by omega)).trans gZ
  obtain ⟨p2, B, e2, hB, hBp, _⟩ := prove_all (g ++ x :: h) z
  simp (disch := first | omega | simp) [vZ, Ty.cs_len, Ty.cs_take, -List.length_append, -List.length_cons, -List.append_assoc]
  refine can_frz (i := M.nx + 11 + 7) (t := 24) (sz := 3) (es := (g ++ x :: h).map Ty.cs) (r := proveR (g ++ x :: h) z) (by kernel_rfl) (by simp) (hVo _ (by omega)) hWr (dt_ty _) (fun H4 hle4 => ?_) ?_
  · have hf : H4.get (M.nx + 11 + 7) = some (.frz 3 ((g ++ x :: h).map Ty.cs)) := hle4 _ _ (by simp (disch := first | omega | simp) [-List.append_assoc])
    have hsub := Sub.frz (P := Try.prog) (off := 0) (n := (g ++ x :: h).length) hf (by simp)
    rw [List.drop_zero, List.take_of_length_le (by simp)] at hsub
    have := c_Prove (g ++ x :: h) z H4
    exact Tri.args (.cons hsub (.cons (.refl _) .nil)) this
  rw [e2]
  simp (disch := first | omega | simp) [Pf.av, Pf.cs_len]
  refine ⟨hVo _ (by omega), ?_⟩
  generalize hUe : AH.put _ _ _ = U
  have hUl : H.le U := by rw [← hUe]; exact AH.le.put hw (by omega) (AH.le.put hw (by omega) (AH.le.put hw (by omega) hWl))
  have hUn : U.nx = M.nx + 29 := by rw [← hUe]; simp only [put_nx]; omega
  have uX : U.get H.nx = some (.box 24 x.cs) := by rw [← hUe, AH.get_put_ne (by omega), AH.get_put_ne (by omega), AH.get_put_ne (by omega)]; exact wX
  have uZ : U.get (H.nx + 1) = some (.box 24 z.cs) := by rw [← hUe, AH.get_put_ne (by omega), AH.get_put_ne (by omega), AH.get_put_ne (by omega)]; exact wZ
  clear hUe
  have hres : ∀ b, Rt Try.prog H.nx (.p (.bool b)) (fun v H' => H' = H ∧ v = .p (.bool b)) U := fun b => rt_one hw hUl (by repeat (first | exact Cl.p _ | exact Cl.dsl _ _ | exact Cl.any | refine Cl.tup ?_ | refine Cl.agg ?_ | exact Clo.nil | refine Clo.cons ?_ ?_)) ⟨rfl, rfl⟩
  -- behind the first question
  generalize hRest : Rg 8 _ = R
  have hRU : R U := by
    rw [← hRest]
    clear hRest hWr hWk hWl hWn wX wZ hVl hVn hVk hVo vX vZ
    simp (disch := first | omega | simp)
    refine ⟨by omega, by omega, by omega, by omega, by omega, by omega, ?_⟩
    have hes2 : List.take (g.length + d.length) (List.take g.length (g.map Ty.cs) ++ d.map Ty.cs) ++ h.map Ty.cs = (g ++ d ++ h).map Ty.cs := by
      rw [List.take_of_length_le (l := g.map Ty.cs) (by simp), List.take_of_length_le (by simp)]; simp
    rw [hes2]
    have hlen2 : g.length + d.length + h.length = (g ++ d ++ h).length := by simp; omega
    rw [hlen2]
    generalize hNe : AH.put _ _ _ = N
    have hNl : H.le N := by rw [← hNe]; exact AH.le.put hw (by omega) (AH.le.kill hw (by omega) (AH.le.put hw (by omega) (AH.le.kill hw (by omega) (AH.le.put hw (by omega) (AH.le.kill hw (by omega) (AH.le.put hw (by omega) (AH.le.up hUl)))))))
    have hNn : N.nx = U.nx + 8 := by rw [← hNe]; simp only [put_nx, kill_nx, up_nx]
    have nX : N.get H.nx = some (.box 24 x.cs) := by rw [← hNe]; simp (disch := first | omega | simp) [put_get_ne, AH.kill, uX]
    have nZ : N.get (H.nx + 1) = some (.box 24 z.cs) := by rw [← hNe]; simp (disch := first | omega | simp) [put_get_ne, AH.kill, uZ]
    have nR : N.get (U.nx + 6) = some (.row 24 3 ((g ++ d ++ h).map Ty.cs)) := by rw [← hNe]; exact put_get _ _
    clear hNe
    refine cut_wf (fun _ : Unit => []) (fun _ H' => H.le H' ∧ U.nx ≤ H'.nx ∧ H'.get H.nx = some (.box 24 x.cs) ∧ H'.get (H.nx + 1) = some (.box 24 z.cs)) (fun kk hkk => ?_) ?_
    · have hskip : kk [] N := hkk () _ _ _ (.refl (Nat.le_refl _)) ⟨hNl, by omega, nX, nZ⟩
      by_cases h1 : asksV d x = 0
      case neg =>
        simp (disch := first | omega | simp) [iv, bv, h1]
        exact hskip
      by_cases h2 : asksV (g ++ x :: h) z = 0
      case neg =>
        simp (disch := first | omega | simp) [iv, bv, h1, h2]
        exact hskip
      cases A with
      | false =>
        simp (disch := first | omega | simp) [iv, bv, h1, h2]
        exact hskip
      | true =>
      cases B with
      | false =>
        simp (disch := first | omega | simp) [iv, bv, h1, h2]
        exact hskip
      | true =>
      have hcut := cut x d g h z (hA.1 rfl).2 (hB.1 rfl).2
      have hmid := asks_mid (g := g) (d := d) (h := h) h1 h2
      simp (disch := first | omega | simp) [iv, bv, h1, h2]
      unfold S_wordhoardlaw_SpeechLambek_C5
      simp (disch := first | omega | simp) [nZ, Ty.cs_len, Ty.cs_take, -List.append_assoc, -List.length_append]
      have hsub := Sub.frz (P := Try.prog) (H := (N.up 11).put (U.nx + 6) (.frz 3 ((g ++ d ++ h).map Ty.cs))) (off := 0) (n := g.length + (d.length + h.length)) (put_get _ _) (by simp)
      rw [List.drop_zero, List.take_of_length_le (by simp)] at hsub
      refine ca_of (Q := fun r H' => H' = (N.up 11).put (U.nx + 6) (.frz 3 ((g ++ d ++ h).map Ty.cs)) ∧ r = proveR (g ++ d ++ h) z) (by kernel_rfl) (Tri.st (.freeze (by rw [up_get]; exact nR) (dt_ty _)) (Tri.args (.cons hsub (.cons (.refl _) .nil)) (c_Prove (g ++ d ++ h) z _))) ?_
      rintro _ _ ⟨rfl, rfl⟩
      obtain ⟨p3, C, e3, hC, _, _⟩ := prove_all (g ++ d ++ h) z
      rw [e3]
      have hfin : ∀ z0 z1 z2, kk [] (((((N.up 11).put (U.nx + 6) z0)).put (U.nx + 8 + 7) z1).put (U.nx + 8 + 7) z2) := fun z0 z1 z2 => by
        refine hkk () _ _ _ (.refl (by simp only [put_nx, up_nx]; omega)) ⟨AH.le.put hw (by omega) (AH.le.put hw (by omega) (AH.le.put hw (by omega) (AH.le.up hNl))), by simp only [put_nx, up_nx]; omega, ?_, ?_⟩
        · rw [AH.get_put_ne (by omega), AH.get_put_ne (by omega), AH.get_put_ne (by omega), up_get]; exact nX
        · rw [AH.get_put_ne (by omega), AH.get_put_ne (by omega), AH.get_put_ne (by omega), up_get]; exact nZ
      rcases hmid with hm | hm | hm
      · have hCt : C = true := hC.2 ⟨hm, hcut⟩
        rw [hm, hCt]
        simp (disch := first | omega | simp) [iv, bv, Pf.av, Pf.cs_len, hNn]
        exact hfin _ _ _
      · rw [hm]
        simp (disch := first | omega | simp) [iv, bv, Pf.av, Pf.cs_len, hNn]
        exact hfin _ _ _
      · rw [hm]
        simp (disch := first | omega | simp) [iv, bv, Pf.av, Pf.cs_len, hNn]
        exact hfin _ _ _
    rintro _ T hn4 hwT ⟨tl, tn, tX, tZ⟩
    unfold S_wordhoardlaw_SpeechLambek_K4
    have htrue : Rt Try.prog H.nx (.p (.bool true)) (fun v H' => H' = H ∧ v = .p (.bool true)) T := rt_one hw tl (by repeat (first | exact Cl.p _ | exact Cl.dsl _ _ | exact Cl.any | refine Cl.tup ?_ | refine Cl.agg ?_ | exact Clo.nil | refine Clo.cons ?_ ?_)) ⟨rfl, rfl⟩
    by_cases hd0 : d = []
    · simp (disch := first | omega | simp) [hd0]
      exact htrue
    simp (disch := first | omega | simp) [hd0]
    exact lam_tail hw tl (by omega) hwT tX tZ hd0 hb2
  by_cases h1 : asksV d x = 0
  · cases A with
    | true =>
      obtain ⟨a1, a2, a3, a4, a5⟩ := asksV_ok h1
      have hlev := (hA.1 rfl).2.lev
      simp (disch := first | omega | simp) [iv, bv, h1, uX, Ty.cs_len, Ty.cs_take]
      refine ca_pure (by kernel_rfl) (c_RLevel a1 a2 (by omega) _) ?_
      rw [hlev]
      simp (disch := first | omega | simp) [bv]
      exact hRU
    | false =>
      simp (disch := first | omega | simp) [iv, bv, h1]
      exact hRU
  · simp (disch := first | omega | simp) [iv, bv, h1]
    exact hRU)
section
open Go.ChangeShapes
variable {H : Type} {enc : TypeId × Value → H} {P : Program} {w : World} {base : Nat} {spare : Nat → Bool} {held : Bool}
theorem trodAll_five {t0 t1 t2 t3 t4 : TypeId} {args : Array Value} {ds : List (DataW H)} {ps : List MemPlace} (h : DataW.TrodAll enc P w base spare held [t0, t1, t2, t3, t4] args.toList ds ps) :
    ∃ v0 v1 v2 v3 v4 d0 d1 d2 d3 d4 p0 p1 p2 p3 p4, args = #[v0, v1, v2, v3, v4] ∧ ds = [d0, d1, d2, d3, d4] ∧ ps = p0 ++ p1 ++ p2 ++ p3 ++ p4 ∧ DataW.Trod enc P w base spare held t0 v0 d0 p0 ∧ DataW.Trod enc P w base spare held t1 v1 d1 p1 ∧ DataW.Trod enc P w base spare held t2 v2 d2 p2 ∧ DataW.Trod enc P w base spare held t3 v3 d3 p3 ∧ DataW.Trod enc P w base spare held t4 v4 d4 p4 := by
  obtain ⟨v0, vs0, d0, ds0, p0, q0, hargs, rfl, rfl, h0, r0⟩ := trodAll_cons h
  obtain ⟨v1, vs1, d1, ds1, p1, q1, rfl, rfl, rfl, h1, r1⟩ := trodAll_cons r0
  obtain ⟨v2, vs2, d2, ds2, p2, q2, rfl, rfl, rfl, h2, r2⟩ := trodAll_cons r1
  obtain ⟨v3, vs3, d3, ds3, p3, q3, rfl, rfl, rfl, h3, r3⟩ := trodAll_cons r2
  obtain ⟨v4, vs4, d4, ds4, p4, q4, rfl, rfl, rfl, h4, r4⟩ := trodAll_cons r3
  obtain ⟨rfl, rfl, rfl⟩ := trodAll_nil r4
  exact ⟨v0, v1, v2, v3, v4, d0, d1, d2, d3, d4, p0, p1, p2, p3, p4, by cases args; simp_all, rfl, by simp, h0, h1, h2, h3, h4⟩
end
theorem parts_len : ∀ (l : List Ty), l.length ≤ (l.map rTy.bulk).sum
  | [] => by simp
  | a :: r => by
    have := parts_len r
    have h1 : 1 ≤ rTy.bulk a := by show 1 ≤ a.size; cases a; rw [Ty.size]; omega
    rw [List.map_cons, List.sum_cons, List.length_cons]; omega
end Go.Proofs.Ytpmnlikgldacaaa

namespace Go.Proofs.Ytpmnlikgldacaaa.speechLambek
open Go.ChangeShapes Go.WideShapes Go.ChangeAt Go.RowKit
open Go.ChangeMaps (open_string shut_string)

set_option maxRecDepth 100000 in
theorem contract (H : Type) (enc : TypeId × Value → H) (W : World) (base : Nat) (args : Array Value) (ds gs : List (DataW H)) (before : List MemPlace)
    (hval : ∀ (j : Nat) t v, Try.f8.params[j]? = some t → args[j]? = some v → Value.okWide Try.prog W .any base t v)
    (hW : DataW.Whole enc Try.prog Try.f8.params.toList Rows.speechLambekSpec.vars false W args.toList ds gs before) (hk : Rows.uptoSmall H (ds ++ gs) = true) :
    Calls Try.prog 8 args W fun e W' => ∃ v, e = .returned v ∧ Rows.speechLambekSpec.post enc Try.prog Try.f8 false true false false W args v W' := by
  have hW' := hW
  obtain ⟨p, q, hA0, hV, rfl, hfz, hnd⟩ := hW
  have hA : DataW.TrodAll enc Try.prog W 0 (fun _ => true) true Try.f8.params.toList args.toList ds p := hA0
  rw [Try.params8] at hA hval
  obtain ⟨v0, v1, v2, v3, v4, d0, d1, d2, d3, d4, p0, p1, p2, p3, p4, rfl, rfl, rfl, h0, h1, h2, h3, h4⟩ := trodAll_five hA
  obtain ⟨rfl, rfl⟩ := trodVars_none hV
  obtain ⟨A0, c0, x0, rfl, hs0, hb0⟩ := arg_slice opens_parts Try.underlying22 (hval 0 22 v0 rfl rfl) h0
  obtain ⟨A1, c1, x1, rfl, hs1, hb1⟩ := arg_slice opens_parts Try.underlying22 (hval 1 22 v1 rfl rfl) h1
  obtain ⟨A2, c2, x2, rfl, hs2, hb2⟩ := arg_slice opens_parts Try.underlying22 (hval 2 22 v2 rfl rfl) h2
  obtain ⟨cs3, x3, rfl, hs3, hb3⟩ := arg_struct opens_ty Try.underlying24 (hval 3 24 v3 rfl rfl) h3
  obtain ⟨cs4, x4, rfl, hs4, hb4⟩ := arg_struct opens_ty Try.underlying24 (hval 4 24 v4 rfl rfl) h4
  have hbulk : Rows.uptoBulkAll ([d0, d1, d2, d3, d4] ++ []) ≤ 1048576 := of_decide_eq_true hk
  simp only [List.append_nil, Rows.uptoBulkAll] at hbulk
  obtain ⟨k0, r0⟩ := (avs_ty).sl (by decide) (σ' := fun _ => none) hs0
  obtain ⟨k1, r1⟩ := (avs_ty).sl (by decide) (σ' := fun _ => none) hs1
  obtain ⟨k2, r2⟩ := (avs_ty).sl (by decide) (σ' := fun _ => none) hs2
  obtain ⟨k3, r3⟩ := (avs_ty).agg (σ' := fun _ => none) hs3
  obtain ⟨k4, r4⟩ := (avs_ty).agg (σ' := fun _ => none) hs4
  have n0 := parts_len x0
  have n1 := parts_len x1
  have n2 := parts_len x2
  refine (law_calls (us := [.slice A0 x0.length c0, .slice A1 x1.length c1, .slice A2 x2.length c2, .agg cs3, .agg cs4]) (law_pf (w_SpeechLambek (x0.map id) (x1.map id) (x2.map id) x3 x4 (by simp only [List.length_map]; omega))) (.cons r0 (.cons r1 (.cons r2 (.cons r3 (.cons r4 .nil)))))).mono fun e W' ⟨he, hg⟩ => ?_
  subst he
  exact ⟨_, rfl, post_true rfl Try.underlying4 rfl laidOut (by kernel_rfl) hW' rfl hg⟩

set_option maxRecDepth 100000 in
theorem lifted (os : Os) (started : os.Started) (H : Type) (enc : TypeId × Value → H) (F : Stop.Interp) :
    ReturnsInHanded {} Try.checked os 8 .any ((Rows.OpenSpec.upto Rows.speechLambekSpec).pre6 enc Try.prog Try.f8 Rows.speechLambekUptoRow.domain false) (((Rows.OpenSpec.upto Rows.speechLambekSpec).at F).post enc Try.prog Try.f8 false true false false) := by
  refine returnsInHanded_of_cond (C := Try.checked) (s := Rows.OpenSpec.upto Rows.speechLambekSpec) (k := Rows.uptoSmall) rfl own started (by kernel_rfl) Try.func8
    (OpenSpec.witness (enc := enc) (C := Try.checked) (s := Rows.OpenSpec.upto Rows.speechLambekSpec) (k := Rows.uptoSmall) rfl false ⟨#[], #[.slice none 0 0, .slice none 0 0, .slice none 0 0, .agg #[.int .i64 0,.int .i64 0,.slice none 0 0], .agg #[.int .i64 0,.int .i64 0,.slice none 0 0]], []⟩ 8 (by kernel_rfl) (by kernel_rfl) (by kernel_rfl)
      (x := ([.nil, .nil, .nil, .agg [.lit (.int .i64 0), .lit (.int .i64 0), .nil], .agg [.lit (.int .i64 0), .lit (.int .i64 0), .nil]], [], [])) (by kernel_rfl) rfl (by kernel_rfl)) ?_
  intro W base args ds gs before hval hW _ hk _
  exact contract H enc W base args ds gs before hval hW hk

theorem proved : Rows.SpeechLambekUptoSaid :=
  OpenClaim.holds_of_cond 8 Try.f8 rfl rfl rfl rfl rfl rfl rfl ⟨rfl, rfl, rfl, rfl, rfl⟩ rfl rfl rfl rfl rfl (by kernel_rfl) Try.func8 (by kernel_rfl)
    (of_decide_eq_true (by kernel_rfl)) (by unfold Func.isWrapper; first | (rw [if_pos (by decide +kernel)]; kernel_rfl) | (rw [if_neg (by decide +kernel)]; exact ⟨rfl, rfl⟩))
    (fun os started H enc _ F => lifted os started H enc F)
end Go.Proofs.Ytpmnlikgldacaaa.speechLambek
