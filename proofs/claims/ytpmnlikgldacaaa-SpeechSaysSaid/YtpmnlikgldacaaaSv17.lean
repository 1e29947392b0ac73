/- Texts that the proof rests on, part 17: what each holds stands at its head. -/
import Derived.Test.YtpmnlikgldacaaaSv16

/- Is a proof right: both programs. -/
namespace Go.Proofs.Ytpmnlikgldacaaa
open Go.RowKit Go.Maps
mutual
def Pf.rt : Pf → Bool
  | ⟨st, l, g, a, n, ks⟩ => decide (0 < l.length) && (Pf.rts ks && stepB ⟨st, l, g, a, n, ks⟩)
def Pf.rts : List Pf → Bool
  | [] => true
  | k :: r => Pf.rt k && Pf.rts r
end
theorem Pf.rt_eq (p : Pf) : p.rt = (decide (0 < p.left.length) && (Pf.rts p.kids && stepB p)) := by cases p; rw [Pf.rt]
theorem c_Rsays (p : Pf) (l : List Ty) (g : Ty) : PF Try.prog 60 [p.av, tE l, g.av] (bv (Ty.sameL p.left l && p.goal.same g)) := fun H => tri_wf fun hw => tri_wordhoardref_says (by
  unfold S_wordhoardref_says Pf.av
  rw [Pf.cs_pC]
  unfold pC
  have hsa : p.goal.av = .agg [iv p.goal.kind, iv p.goal.num, .dsl 3 (List.map Ty.cs p.goal.kids)] := (goal_av p).symm
  simp (disch := first | omega | simp) [put_get_ne, Ty.av]
  refine ca_pure (by kernel_rfl) (c_RSameParts p.left l _) ?_
  cases h : Ty.sameL p.left l with
  | false =>
    simp (disch := first | omega | simp) [bv]
    exact rt_one hw (by repeat (first | with_reducible assumption | with_reducible exact AH.le.refl _ | with_reducible apply AH.le.up | (with_reducible refine AH.le.put hw ?_ ?_; · first | omega | (simp only [up_nx, put_nx, kill_nx]; done) | (simp only [up_nx, put_nx, kill_nx]; omega)) | (with_reducible refine AH.le.kill hw ?_ ?_; · first | omega | (simp only [up_nx, put_nx, kill_nx]; done) | (simp only [up_nx, put_nx, kill_nx]; omega)))) (by repeat (first | exact Cl.p _ | exact Cl.dsl _ _ | exact Cl.any | refine Cl.tup ?_ | refine Cl.agg ?_ | exact Clo.nil | refine Clo.cons ?_ ?_)) ⟨rfl, rfl⟩
  | true =>
    simp (disch := first | omega | simp) [bv, put_get_ne, Ty.cs_len, Ty.cs_take]
    refine ca_pure (by kernel_rfl) (by have := c_RSamePart p.goal g; rw [hsa] at this; exact this _) ?_
    simp (disch := first | omega | simp) [bv]
    exact rt_one hw (by repeat (first | with_reducible assumption | with_reducible exact AH.le.refl _ | with_reducible apply AH.le.up | (with_reducible refine AH.le.put hw ?_ ?_; · first | omega | (simp only [up_nx, put_nx, kill_nx]; done) | (simp only [up_nx, put_nx, kill_nx]; omega)) | (with_reducible refine AH.le.kill hw ?_ ?_; · first | omega | (simp only [up_nx, put_nx, kill_nx]; done) | (simp only [up_nx, put_nx, kill_nx]; omega)))) (by repeat (first | exact Cl.p _ | exact Cl.dsl _ _ | exact Cl.any | refine Cl.tup ?_ | refine Cl.agg ?_ | exact Clo.nil | refine Clo.cons ?_ ?_)) ⟨rfl, rfl⟩)
section
variable {H M : AH} {p a b : Pf} {Q : AV → AH → Prop}
set_option maxHeartbeats 1000000 in
/-- the last part of the document's answer -/
theorem rr_tail {v1 v10 v11 : Nat} {x y : Ty} {g h : List Ty} {z : Bool} (hw : WF M) (h1 : M.get v1 = some (.box 27 (pcG p))) (hk : p.kids = [a, b]) (h10 : M.get v10 = some (.box 24 x.cs)) (h11 : M.get v11 = some (.box 24 y.cs))
    (hgl : g.length + h.length ≤ 20) (hz : z = (y.same a.goal && (b.goal.same p.goal && (Ty.sameL a.left (pD p) && Ty.sameL b.left (g ++ x :: h))))) (hQ : ∀ M', M.le M' → M.nx ≤ M'.nx → Rt Try.prog H.nx (bv z) Q M') :
    S_wordhoardref_RightProof_K4 Q H (.ptr v1 0) (tE (pD p)) (.ptr v10 0) (.ptr v11 0) [.dsl 3 (g.map Ty.cs)] [.dsl 3 (h.map Ty.cs)] M := by
  have hml : maxLen = 9223372036854775807 := by decide
  have n1 := (hw _ _ h1).1
  have n10 := (hw _ _ h10).1
  have n11 := (hw _ _ h11).1
  have hsa : p.goal.av = .agg [iv p.goal.kind, iv p.goal.num, .dsl 3 (List.map Ty.cs p.goal.kids)] := (goal_av p).symm
  unfold iv at hsa
  have hz' : z = ((Ty.sameL a.left (pD p) && a.goal.same y) && (Ty.sameL b.left (g ++ x :: h) && b.goal.same p.goal)) := by
    rw [hz, Ty.same_comm y]
    cases a.goal.same y <;> cases b.goal.same p.goal <;> cases Ty.sameL a.left (pD p) <;> simp
  unfold S_wordhoardref_RightProof_K4
  unfold pcG pC at h1
  rw [hk] at h1
  simp (disch := first | omega | simp) [iv, h1, h11, Pf.cs_len, Pf.cs_take, Ty.cs_len, Ty.cs_take]
  refine cav_pure (by kernel_rfl) (fun H3 _ => c_Rsays a (pD p) y H3) ?_
  cases hs : (Ty.sameL a.left (pD p) && a.goal.same y) with
  | false =>
    simp (disch := first | omega | simp) [bv]
    have := hQ (M.up 23) (by repeat (first | with_reducible assumption | with_reducible exact AH.le.refl _ | with_reducible apply AH.le.up | (with_reducible refine AH.le.put hw ?_ ?_; · first | omega | (simp only [up_nx, put_nx, kill_nx]; done) | (simp only [up_nx, put_nx, kill_nx]; omega)) | (with_reducible refine AH.le.kill hw ?_ ?_; · first | omega | (simp only [up_nx, put_nx, kill_nx]; done) | (simp only [up_nx, put_nx, kill_nx]; omega)))) (by simp only [up_nx]; omega)
    rw [hz', hs] at this
    exact this
  | true =>
    simp (disch := first | omega | simp) [bv, iv, h1, h10, Pf.cs_len, Pf.cs_take, Ty.cs_len, Ty.cs_take]
    refine can_pure (by kernel_rfl) (fun H2 hle2 => c_join [g, [x], h] (three_parts_m (q := M.nx + 14) (hle2 _ _ (by simp (disch := first | omega | simp) [put_get_ne])) (hle2 _ _ (by simp (disch := first | omega | simp) [put_get_ne]))) (by simp; omega) (by simp)) ?_
    simp (disch := first | omega | simp) [iv, h1]
    rw [← hsa]
    refine cav_pure (by kernel_rfl) (fun H3 _ => by have := c_Rsays b (g ++ x :: h) p.goal H3; unfold Pf.av at this; exact this) ?_
    simp (disch := first | omega | simp) [bv]
    have := hQ (((M.up 23).put (M.nx + 14) (.row 24 3 [x.cs])).put (M.nx + 16) (.row 22 1 [[.dsl 3 (g.map Ty.cs)], [.osl (M.nx + 14) 3 0 1], [.dsl 3 (h.map Ty.cs)]])) (by repeat (first | with_reducible assumption | with_reducible exact AH.le.refl _ | with_reducible apply AH.le.up | (with_reducible refine AH.le.put hw ?_ ?_; · first | omega | (simp only [up_nx, put_nx, kill_nx]; done) | (simp only [up_nx, put_nx, kill_nx]; omega)) | (with_reducible refine AH.le.kill hw ?_ ?_; · first | omega | (simp only [up_nx, put_nx, kill_nx]; done) | (simp only [up_nx, put_nx, kill_nx]; omega)))) (by simp only [put_nx, up_nx]; omega)
    rw [hz', hs] at this
    exact this
theorem tE_take (l : List Ty) (n : Nat) : AV.dsl 3 ((l.map Ty.cs).take n) = tE (l.take n) := by unfold tE; rw [List.map_take]
theorem tE_drop (l : List Ty) (n : Nat) : AV.dsl 3 ((l.map Ty.cs).drop n) = tE (l.drop n) := by unfold tE; rw [List.map_drop]
set_option maxHeartbeats 2000000 in
/-- a step with two proofs -/
theorem rr_two {v1 : Nat} {v29 : AV} (hw : WF M) (h1 : M.get v1 = some (.box 27 (pcG p))) (hv29 : v29 = iv p.left.length) (hst : p.step = 4 ∨ p.step = 5 ∨ p.step = 6) (hlen : p.left.length ≤ 20) (hgs : Goods p.left) (hn : I64 p.at_) (hm : I64 p.num)
    (hQ : ∀ M', M.le M' → M.nx ≤ M'.nx → Rt Try.prog H.nx (bv (stepB p)) Q M') : S_wordhoardref_RightProof_C9 Q H (.ptr v1 0) v29 M := by
  have hml : maxLen = 9223372036854775807 := by decide
  subst hv29
  have n1 := (hw _ _ h1).1
  have hz : rng p = false → stepB p = false := fun h => by
    unfold stepB
    rcases hst with e | e | e
    all_goals
      match hk : p.kids with
      | [] => simp [e]
      | [a] => simp [e]
      | [a, b] => simp [e, h]
      | a :: b :: c :: r => simp [e]
  unfold S_wordhoardref_RightProof_C9
  have h1' := h1
  unfold pcG pC tE at h1
  unfold I64 at hn hm
  have hq := hQ M (.refl _) (Nat.le_refl _)
  by_cases hk2 : p.kids.length = 2
  rotate_left
  · have hk2' : ¬ (p.kids.length : Int) = 2 := by omega
    rw [stepB_kids2 hst hk2] at hq
    simp (disch := first | omega | simp) [iv, h1, hk2']
    exact hq
  have hno : (¬ (0 ≤ p.at_ ∧ 1 ≤ p.num ∧ p.at_ + p.num ≤ p.left.length)) → Rt Try.prog H.nx (.p (.bool false)) Q M := fun h => by
    have hf : rng p = false := by cases h2 : rng p with
      | false => rfl
      | true => exact absurd (rng_iff.1 h2) h
    rw [hz hf] at hq
    exact hq
  have hk2' : (p.kids.length : Int) = 2 := by omega
  by_cases ha : p.at_ < 0
  · simp (disch := first | omega | simp) [iv, h1, hk2, ha]
    exact hno (by omega)
  by_cases hb : p.num < 1
  · simp (disch := first | omega | simp) [iv, h1, hk2, ha, hb]
    exact hno (by omega)
  by_cases hc : (p.left.length : Int) < p.at_
  · simp (disch := first | omega | simp) [iv, h1, hk2, ha, hb, hc]
    exact hno (by omega)
  have hw1 : IntKind.i64.wrap ((p.left.length : Int) - p.at_) = (p.left.length : Int) - p.at_ := wrapI (by omega) (by omega)
  by_cases hd : (p.left.length : Int) - p.at_ < p.num
  · simp (disch := first | omega | simp) [iv, h1, hk2, ha, hb, hc, hw1, hd]
    exact hno (by omega)
  clear hno
  obtain ⟨a, b, hk⟩ : ∃ a b, p.kids = [a, b] := by
    match hkk : p.kids, hk2 with
    | [a, b], _ => exact ⟨a, b, rfl⟩
  rw [hk] at h1
  have hrt : rng p = true := rng_iff.2 ⟨by omega, by omega, by omega⟩
  have hw2 : IntKind.i64.wrap (p.at_ + p.num) = p.at_ + p.num := wrapI (by omega) (by omega)
  have e1 : 0 ≤ p.at_ := by omega
  have e2 : p.at_ ≤ p.left.length := by omega
  have e3 : 0 ≤ p.at_ + p.num := by omega
  have e4 : p.at_ + p.num ≤ p.left.length := by omega
  have e5 : p.at_ ≤ p.at_ + p.num := by omega
  have e6 : ((p.at_ + p.num).toNat - p.at_.toNat) = p.num.toNat := by omega
  simp (disch := first | omega | simp) [iv, h1, ha, hb, hc, hw1, hd]
  unfold S_wordhoardref_RightProof_C8
  simp (disch := first | omega | simp) [iv, h1, put_get_ne, hw2, e1, e2, e3, e4, e5, e6, Pf.cs_len, Pf.cs_goal]
  refine ⟨wf_none hw (by omega), Ty.cs_len _, wf_none hw (by omega), Ty.cs_len _, ?_⟩
  rw [tE_take, tE_drop]
  have hpd : AV.dsl 3 (List.take p.num.toNat (List.drop p.at_.toNat (List.map Ty.cs p.left))) = tE (pD p) := by unfold tE pD; rw [List.map_take, List.map_drop]
  rw [hpd]
  change CutA _ _ _ (S_wordhoardref_RightProof_K6 Q H (.ptr v1 0) (tE (pD p)) _ _ _) _
  generalize hM2 : AH.put _ _ _ = M2
  have hMl : M.le M2 := by rw [← hM2]; exact (by repeat (first | with_reducible assumption | with_reducible exact AH.le.refl _ | with_reducible apply AH.le.up | (with_reducible refine AH.le.put hw ?_ ?_; · first | omega | (simp only [up_nx, put_nx, kill_nx]; done) | (simp only [up_nx, put_nx, kill_nx]; omega)) | (with_reducible refine AH.le.kill hw ?_ ?_; · first | omega | (simp only [up_nx, put_nx, kill_nx]; done) | (simp only [up_nx, put_nx, kill_nx]; omega))))
  have hMn : M2.nx = M.nx + 14 := by rw [← hM2]; rfl
  have hg10 : M2.get (M.nx + 10) = some (.box 24 a.goal.cs) := by rw [← hM2]; simp (disch := first | omega | simp) [put_get_ne]
  have hg11 : M2.get (M.nx + 11) = some (.box 24 a.goal.cs) := by rw [← hM2]; simp (disch := first | omega | simp)
  have hg1 := hMl _ _ h1'
  clear hM2
  have hg1' := hg1
  unfold pcG pC at hg1'
  have hto : (p.at_ + p.num).toNat = p.at_.toNat + p.num.toNat := by omega
  rw [hto]
  refine cut_wf (fun s : List Ty × Ty × Ty => [tE s.1]) (fun s M' => M2.nx ≤ M'.nx ∧ (∀ j, j ≠ M.nx + 10 → j ≠ M.nx + 11 → j < M2.nx → M'.get j = M2.get j) ∧ M'.get (M.nx + 10) = some (.box 24 s.2.1.cs) ∧ M'.get (M.nx + 11) = some (.box 24 s.2.2.cs) ∧ s.1.length ≤ p.at_.toNat ∧
    (p.step = 5 → s = (p.left.take p.at_.toNat, a.goal, a.goal)) ∧ (p.step ≠ 5 → stepB p = (s.2.2.same a.goal && (b.goal.same p.goal && (Ty.sameL a.left (pD p) && Ty.sameL b.left (s.1 ++ s.2.1 :: p.left.drop (p.at_.toNat + p.num.toNat))))))) (fun k hkk => ?_) (fun s M' hn' hwM' ⟨q1, q2, q3, q4, q5, q6, q7⟩ => ?_)
  · by_cases s4 : p.step = 4
    · simp (disch := first | omega | simp) [iv, hg1', s4]
      unfold S_wordhoardref_RightProof_C7 tE
      have hz4 : stepB p = (match p.left[p.at_.toNat - 1]? with | some f => decide (0 < p.at_) && (decide (f.kind = 2) && tailB p a b f.k0 f.k1 (p.left.take (p.at_.toNat - 1)) (p.left.drop (p.at_.toNat + p.num.toNat))) | none => false) := by
        unfold stepB; rw [hk]; simp [s4, hrt]; rfl
      have hqn := hQ M2 hMl (by omega)
      by_cases ha0 : p.at_ = 0
      · have : stepB p = false := by rw [hz4, ha0]; cases p.left[(0 : Int).toNat - 1]? <;> simp
        rw [this] at hqn
        simp (disch := first | omega | simp) [ha0]
        exact hqn
      obtain ⟨n, hn⟩ : ∃ n : Nat, p.at_.toNat = n + 1 := ⟨p.at_.toNat - 1, by omega⟩
      have ht1 : p.at_.toNat - 1 = n := by omega
      rw [ht1] at hz4
      have hap : 0 < p.at_ := by omega
      have hnl : n + 1 ≤ p.left.length := by omega
      have hf : p.left[n]? = some p.left[n] := List.getElem?_eq_getElem (by omega)
      generalize p.left[n] = f at hf
      have hfg := hgs _ (List.mem_of_getElem? hf)
      rw [hf] at hz4
      simp only [decide_eq_true hap, Bool.true_and] at hz4
      rw [hn]
      have hft : ((p.left.take (n + 1)).map Ty.cs)[n]? = some f.cs := by rw [List.getElem?_map, List.getElem?_take, if_pos (by omega), hf]; rfl
      obtain ⟨hfi1, hfi2⟩ := List.getElem?_eq_some_iff.1 hft
      have hAt : ((p.left.take (n + 1)).map Ty.cs).take n = (p.left.take n).map Ty.cs := by rw [← List.map_take, List.take_take, Nat.min_eq_left (by omega)]
      have hAl : ((p.left.take (n + 1)).map Ty.cs).length = n + 1 := by rw [List.length_map, List.length_take]; omega
      generalize hA : (p.left.take (n + 1)).map Ty.cs = A at *
      have f1 : ¬ (A.length : Int) = 0 := by omega
      have f2 : IntKind.i64.wrap ((A.length : Int) - 1) = (n : Int) := by rw [show (A.length : Int) - 1 = (n : Int) by omega]; exact wrapI (by omega) (by omega)
      have f3 : (n : Int) < A.length := by omega
      have f4 : (n : Int) ≤ A.length := by omega
      have f5 : ¬ A = [] := fun e => by rw [e] at hAl; simp at hAl
      have f6 : n ≤ A.length := by omega
      have f7 : n < A.length := by omega
      rcases hfg.cases with ⟨m, e, _⟩ | ⟨x', y', e, _⟩ | ⟨y', x', e, _⟩
      · have hk2 : f.kind ≠ 2 := by rw [e]; show (1 : Int) ≠ 2; decide
        rw [hz4, decide_eq_false hk2] at hqn
        simp (disch := first | omega | simp) [iv, f2, f3, f5, hfi2, Ty.cs_g0, hk2]
        exact hqn
      · subst e
        rw [Ty.kind_o, k0_o, k1_o, decide_eq_true rfl, Bool.true_and] at hz4
        simp (disch := first | omega | simp) [iv, f2, f3, f5, hfi2, Ty.cs_o]
        refine ⟨[M.nx + 10], ?_⟩
        simp (disch := first | omega | simp) [f2, f4, Ty.cs_len, Ty.cs_take, hAt, del_get_ne]
        refine wro_st (t := 24) (by omega) (by simp) (by simp (disch := first | omega | simp) [put_get_ne, hg10]; rfl) rfl (Ty.cs_len _) (by rw [Ty.cs_len]; omega) ?_
        simp (disch := first | omega | simp) [put_get_ne, hg11, Ty.cs_len, Ty.cs_drop3]
        rw [tE_take]
        refine hkk (p.left.take n, x', y') _ _ _ (.refl (by simp only [put_nx, up_nx]; omega)) ⟨by simp only [put_nx, up_nx]; omega, fun j j1 j2 j3 => by simp (disch := first | omega | simp) [put_get_ne], by simp (disch := first | omega | simp) [put_get_ne], by simp (disch := first | omega | simp), by simp; omega, fun h => by omega, fun _ => ?_⟩
        dsimp only
        rw [hz4]; rfl
      · have hk2 : f.kind ≠ 2 := by rw [e, Ty.kind_u]; decide
        rw [hz4, decide_eq_false hk2] at hqn
        simp (disch := first | omega | simp) [iv, f2, f3, f5, hfi2, Ty.cs_g0, hk2]
        exact hqn
    · simp (disch := first | omega | simp) [iv, hg1', s4]
      refine hkk (p.left.take p.at_.toNat, a.goal, a.goal) M2 _ M2 (.refl (Nat.le_refl _)) ⟨Nat.le_refl _, fun _ _ _ _ => rfl, hg10, hg11, by simp; omega, fun _ => rfl, fun h5 => ?_⟩
      have s6 : p.step = 6 := by omega
      unfold stepB
      rw [hk]
      simp [s6, hrt, tailB]
  · have hM'g := (q2 v1 (by omega) (by omega) (by omega)).trans hg1
    have hM'g' := hM'g
    unfold pcG pC at hM'g'
    unfold S_wordhoardref_RightProof_K6
    refine cut_wf (fun s : List Ty × Ty × Ty => [tE s.1]) (fun r M3 => M'.nx ≤ M3.nx ∧ (∀ j, j ≠ M.nx + 10 → j ≠ M.nx + 11 → j < M2.nx → M3.get j = M2.get j) ∧ M3.get (M.nx + 10) = some (.box 24 r.2.1.cs) ∧ M3.get (M.nx + 11) = some (.box 24 r.2.2.cs) ∧ r.1.length ≤ p.left.length - (p.at_.toNat + p.num.toNat) ∧
      stepB p = (r.2.2.same a.goal && (b.goal.same p.goal && (Ty.sameL a.left (pD p) && Ty.sameL b.left (s.1 ++ r.2.1 :: r.1))))) (fun k hkk => ?_) (fun r M3 hn3 hw3 ⟨t1, t2, t3, t4, t5, t6⟩ => ?_)
    · by_cases s5 : p.step = 5
      · simp (disch := first | omega | simp) [iv, hM'g', s5]
        unfold S_wordhoardref_RightProof_C5 tE
        have hz5 : stepB p = (match p.left[p.at_.toNat + p.num.toNat]? with | some f => decide (f.kind = 3) && tailB p a b f.k1 f.k0 (p.left.take p.at_.toNat) (p.left.drop (p.at_.toNat + p.num.toNat + 1)) | none => false) := by
          unfold stepB; rw [hk]; simp [s5, hrt]; rfl
        have hqn := hQ M' (fun j o ho => (q2 j (by have := (hw _ _ ho).1; omega) (by have := (hw _ _ ho).1; omega) (by have := (hw _ _ ho).1; omega)).trans (hMl _ _ ho)) (by omega)
        generalize p.at_.toNat + p.num.toNat = n at *
        by_cases hnl : n < p.left.length
        rotate_left
        · have hA : p.left.drop n = [] := List.drop_eq_nil_iff.2 (by omega)
          rw [hz5, List.getElem?_eq_none (by omega)] at hqn
          rw [hA]
          simp (disch := first | omega | simp)
          exact hqn
        have hf : p.left[n]? = some p.left[n] := List.getElem?_eq_getElem hnl
        generalize p.left[n] = f at hf
        have hfg := hgs _ (List.mem_of_getElem? hf)
        rw [hf] at hz5
        dsimp only at hz5
        have hft : ((p.left.drop n).map Ty.cs)[0]? = some f.cs := by rw [List.getElem?_map, List.getElem?_drop, Nat.add_zero, hf]; rfl
        have hAt : ((p.left.drop n).map Ty.cs).drop 1 = (p.left.drop (n + 1)).map Ty.cs := by rw [← List.map_drop, List.drop_drop]
        have hAl : ((p.left.drop n).map Ty.cs).length = p.left.length - n := by rw [List.length_map, List.length_drop]
        generalize hA : (p.left.drop n).map Ty.cs = A at *
        obtain ⟨hfi1, hfi2⟩ := List.getElem?_eq_some_iff.1 hft
        have e5 : ¬ (A.length : Int) = 0 := by omega
        have e6 : (0 : Int) < A.length := by omega
        have e7 : (1 : Int) ≤ A.length := by omega
        have e8 : 0 < A.length := by omega
        have e9 : 1 ≤ A.length := by omega
        have e10 : ¬ A = [] := fun e => by rw [e] at e8; exact absurd e8 (by simp)
        rcases hfg.cases with ⟨m, e, _⟩ | ⟨x', y', e, _⟩ | ⟨y', x', e, _⟩
        · have hk2 : f.kind ≠ 3 := by rw [e]; show (1 : Int) ≠ 3; decide
          rw [hz5, decide_eq_false hk2] at hqn
          simp (disch := first | omega | simp) [iv, e8, e10, hfi2, Ty.cs_g0, hk2]
          exact hqn
        · have hk2 : f.kind ≠ 3 := by rw [e, Ty.kind_o]; decide
          rw [hz5, decide_eq_false hk2] at hqn
          simp (disch := first | omega | simp) [iv, e8, e10, hfi2, Ty.cs_g0, hk2]
          exact hqn
        · subst e
          rw [Ty.kind_u, k0_u, k1_u, decide_eq_true rfl, Bool.true_and] at hz5
          simp (disch := first | omega | simp) [iv, e8, e10, hfi2, Ty.cs_u]
          refine ⟨[M.nx + 10], ?_⟩
          simp (disch := first | omega | simp) [iv, e7, e8, hfi2, hAt, Ty.cs_len, Ty.cs_take, Ty.cs_u]
          refine wro_st (t := 24) (by omega) (by simp) (by simp (disch := first | omega | simp) [q3]; rfl) rfl (Ty.cs_len _) (by rw [Ty.cs_len]; omega) ?_
          simp (disch := first | omega | simp) [put_get_ne, q4, Ty.cs_len, Ty.cs_drop3]
          rw [tE_drop]
          refine hkk (p.left.drop (n + 1), x', y') _ _ _ (.refl (by simp only [put_nx, up_nx]; omega)) ⟨by simp only [put_nx, up_nx]; omega, fun j j1 j2 j3 => ?_, by simp (disch := first | omega | simp) [put_get_ne], by simp (disch := first | omega | simp), by simp; omega, ?_⟩
          · rw [AH.get_put_ne j2, AH.get_put_ne j1]; exact q2 j j1 j2 j3
          · have h6 := q6 s5
            subst h6
            dsimp only
            rw [hz5]; rfl
      · simp (disch := first | omega | simp) [iv, hM'g', s5]
        exact hkk (p.left.drop (p.at_.toNat + p.num.toNat), s.2.1, s.2.2) M' _ M' (.refl (Nat.le_refl _)) ⟨Nat.le_refl _, q2, q3, q4, by simp, q7 s5⟩
    · refine rr_tail hw3 ((t2 v1 (by omega) (by omega) (by omega)).trans hg1) hk t3 t4 (by omega) t6 fun M4 l4 n4 => hQ M4 (fun j o ho => l4 _ _ ((t2 j (by have := (hw _ _ ho).1; omega) (by have := (hw _ _ ho).1; omega) (by have := (hw _ _ ho).1; omega)).trans (hMl _ _ ho))) (by omega)
set_option maxHeartbeats 2000000 in
/-- a step with one proof -/
theorem rr_one {v1 : Nat} (hw : WF M) (h1 : M.get v1 = some (.box 27 (pcG p))) (hk : p.kids = [a]) (hst : p.step = 2 ∨ p.step = 3) (ha : p.at_ = 0) (hn : p.num = 0) (hlen : p.left.length ≤ 20) (hg : Good p.goal) (hgk : p.goal.kind = p.step)
    (hQ : ∀ M', M.le M' → M.nx ≤ M'.nx → Rt Try.prog H.nx (bv (stepB p)) Q M') : S_wordhoardref_RightProof_C2 Q H (.ptr v1 0) M := by
  have hml : maxLen = 9223372036854775807 := by decide
  have n1 := (hw _ _ h1).1
  unfold S_wordhoardref_RightProof_C2
  unfold pcG pC tE at h1
  rw [hk] at h1
  have hfr : ∀ j, M.nx ≤ j → M.get j = none := fun j hj => wf_none hw hj
  rcases hg.cases with ⟨m, e, _⟩ | ⟨x, y, e, _⟩ | ⟨y, x, e, _⟩
  · have h1' : p.goal.kind = 1 := by rw [e]
    omega
  · have s2 : p.step = 2 := by rw [← hgk, e]; rfl
    have hk0 : p.goal.kids = [x, y] := by rw [e]; rfl
    have hz : stepB p = (Ty.sameL a.left (p.left ++ [y]) && a.goal.same x) := by
      unfold stepB; rw [hk]
      have e1 : p.goal.k0 = x := by rw [e]; rfl
      have e2 : p.goal.k1 = y := by rw [e]; rfl
      have e3 : p.goal.kind = 2 := by rw [e]; rfl
      simp [s2, ha, hn, e1, e2, e3, Bool.and_comm]
    simp (disch := first | omega | simp) [iv, h1, hk0, Ty.cs_len, Ty.cs_take, put_get_ne, hfr, s2]
    simp (disch := first | omega | simp) [Pf.cs_len, Pf.cs_take]
    refine can_pure (by kernel_rfl) (fun H2 hle2 => c_join [p.left, [y]] (two_parts_o (q := M.nx + 14 + 7) (hle2 _ _ (by simp (disch := first | omega | simp) [put_get_ne])) (hle2 _ _ (by simp (disch := first | omega | simp) [put_get_ne]))) (by simp; omega) (by simp)) ?_
    simp (disch := first | omega | simp) [put_get_ne, Ty.cs_len, Ty.cs_take]
    refine cav_pure (by kernel_rfl) (fun H3 _ => by have := c_Rsays a (p.left ++ [y]) x H3; unfold Pf.av at this; exact this) ?_
    rw [← hz]
    exact hQ _ (by repeat (first | with_reducible assumption | with_reducible exact AH.le.refl _ | with_reducible apply AH.le.up | (with_reducible refine AH.le.put hw ?_ ?_; · first | omega | (simp only [up_nx, put_nx, kill_nx]; done) | (simp only [up_nx, put_nx, kill_nx]; omega)) | (with_reducible refine AH.le.kill hw ?_ ?_; · first | omega | (simp only [up_nx, put_nx, kill_nx]; done) | (simp only [up_nx, put_nx, kill_nx]; omega)))) (by simp only [put_nx, up_nx]; omega)
  · have s2 : p.step = 3 := by rw [← hgk, e]; rfl
    have hk0 : p.goal.kids = [y, x] := by rw [e]; rfl
    have hz : stepB p = (Ty.sameL a.left (y :: p.left) && a.goal.same x) := by
      unfold stepB; rw [hk]
      have e1 : p.goal.k0 = y := by rw [e]; rfl
      have e2 : p.goal.k1 = x := by rw [e]; rfl
      have e3 : p.goal.kind = 3 := by rw [e]; rfl
      simp [s2, ha, hn, e1, e2, e3, Bool.and_comm]
    simp (disch := first | omega | simp) [iv, h1, hk0, Ty.cs_len, Ty.cs_take, put_get_ne, hfr, s2]
    simp (disch := first | omega | simp) [Pf.cs_len, Pf.cs_take]
    refine can_pure (by kernel_rfl) (fun H2 hle2 => c_join [[y], p.left] (two_parts_u (q := M.nx + 14 + 5) (hle2 _ _ (by simp (disch := first | omega | simp) [put_get_ne])) (hle2 _ _ (by simp (disch := first | omega | simp) [put_get_ne]))) (by simp; omega) (by simp)) ?_
    simp (disch := first | omega | simp) [Ty.cs_len, Ty.cs_take]
    refine cav_pure (by kernel_rfl) (fun H3 _ => by have := c_Rsays a (y :: p.left) x H3; unfold Pf.av at this; exact this) ?_
    rw [← hz]
    exact hQ _ (by repeat (first | with_reducible assumption | with_reducible exact AH.le.refl _ | with_reducible apply AH.le.up | (with_reducible refine AH.le.put hw ?_ ?_; · first | omega | (simp only [up_nx, put_nx, kill_nx]; done) | (simp only [up_nx, put_nx, kill_nx]; omega)) | (with_reducible refine AH.le.kill hw ?_ ?_; · first | omega | (simp only [up_nx, put_nx, kill_nx]; done) | (simp only [up_nx, put_nx, kill_nx]; omega)))) (by simp only [put_nx, up_nx]; omega)
end
end Go.Proofs.Ytpmnlikgldacaaa

/- Abstract walks of functions, written by a program (wip/aw/aw.py): each equation is checked by the kernel. -/
namespace Go.Proofs.Ytpmnlikgldacaaa
open Go.RowKit

/-! wordhoard/wordhoardlaw.SpeechProves -/
/-! wordhoard/wordhoardlaw.speechBegun -/
def ac_wordhoardlaw_speechBegun : AC := (.seq (.reg 0) (.seq (.reg 1) (.seq (.reg 2) .ret)))
def S_wordhoardlaw_speechBegun (Q : AV → AH → Prop) (H : AH) : Prop := (
 Rg 18 fun b =>
 Ca Try.prog (.fn (.func 38) [] []) [(.p (.int .i64 0))] fun v5 =>
 Ca Try.prog (.fn (.func 38) [] []) [(.p (.int .i64 0))] fun v6 =>
 Ca Try.prog (.fn (.func 38) [] []) [(.p (.int .i64 1))] fun v7 =>
 Ca Try.prog (.fn (.func 32) [] []) [v6, v7] fun v8 =>
 Ca Try.prog (.fn (.func 38) [] []) [(.p (.int .i64 0))] fun v9 =>
 Ca Try.prog (.fn (.func 31) [] []) [v8, v9] fun v10 =>
 Ca Try.prog (.fn (.func 38) [] []) [(.p (.int .i64 0))] fun v11 =>
 Al (b + 7) (.bs 24 3 3 [.p (.int .i64 0), .p (.int .i64 0), .p (.slice none 0 0)] [(0, 3), (3, 3), (6, 3)]) [v5, v10, v11] fun v12 =>
 Ca Try.prog (.fn (.func 38) [] []) [(.p (.int .i64 1))] fun v13 =>
 Ca Try.prog (.fn (.func 9) [] []) [v12, v13] fun v14 =>
 Pu Try.prog (.ext 0) [v14] fun v15 =>
 Pu Try.prog (.ext 1) [v14] fun v16 =>
 Pu Try.prog (.ext 2) [v14] fun v17 =>
 Al (b + 14) (.nw 27 [.p (.int .i64 0), .p (.slice none 0 0), .p (.int .i64 0), .p (.int .i64 0), .p (.slice none 0 0), .p (.int .i64 0), .p (.int .i64 0), .p (.slice none 0 0)]) [] fun v1 =>
 WrS Try.prog (b + 15) (.st 8) [v1, v15] fun _ =>
 Pu Try.prog (.bin .eql 28) [v17, (.p (.int .i64 0))] fun v19 =>
 Gd v19 true (fun k => k v16) fun v21 =>
 Pu Try.prog .pick [v19, v21, (.p (.bool false))] fun v22 =>
 Rt Try.prog H.nx v22 Q
 ) H
theorem eq_wordhoardlaw_speechBegun (Q : AV → AH → Prop) (H : AH) : FnA Try.prog 23 (regsF Try.f11) ac_wordhoardlaw_speechBegun [.tm 0] [] H Q = S_wordhoardlaw_speechBegun Q H := by kernel_rfl
theorem tri_wordhoardlaw_speechBegun {H : AH} {Q : AV → AH → Prop} (h : S_wordhoardlaw_speechBegun Q H) : Tri Try.prog 11 [] H Q :=
  tri_of (Ms := [#[], #[], #[]]) mixed Try.func11 rfl (by kernel_rfl) (by kernel_rfl) rfl (of_decide_eq_true rfl : 0 ≤ 23) (by rw [eq_wordhoardlaw_speechBegun Q H]; exact h : FnA Try.prog 23 (regsF Try.f11) ac_wordhoardlaw_speechBegun [.tm 0] [] H Q)

/-! wordhoard/wordhoardlaw.noProof -/
/-! wordhoard/wordhoardlaw.shows -/
/-! wordhoard/wordhoardlaw.over -/
def ac_wordhoardlaw_over : AC := (.seq (.reg 0) (.seq (.reg 1) .ret))
def S_wordhoardlaw_over (a0 a1 : AV) (Q : AV → AH → Prop) (H : AH) : Prop := (
 Rg 3 fun b =>
 Al (b + 0) (.bx 24) [a0] fun v2 =>
 Al (b + 1) (.bx 24) [a1] fun v3 =>
 Al (b + 2) (.nw 24 [.p (.int .i64 0), .p (.int .i64 0), .p (.slice none 0 0)]) [] fun v4 =>
 Rg 5 fun b_5 =>
 RdS Try.prog (.ld 3 true) [v2] fun v5 =>
 RdS Try.prog (.ld 3 true) [v3] fun v6 =>
 Al (b_5 + 2) (.bs 24 3 2 [.p (.int .i64 0), .p (.int .i64 0), .p (.slice none 0 0)] [(0, 3), (3, 3)]) [v5, v6] fun v7 =>
 Pu Try.prog (.bld [.p (.int .i64 0), .p (.int .i64 0), .p (.slice none 0 0)] [(0, 1), (2, 1)]) [(.p (.int .i64 2)), v7] fun v8 =>
 WrS Try.prog (b_5 + 4) (.st 3) [v4, v8] fun _ =>
 RdS Try.prog (.ld 3 true) [v4] fun r4 =>
 Rt Try.prog H.nx r4 Q
 ) H
theorem eq_wordhoardlaw_over (a0 a1 : AV) (Q : AV → AH → Prop) (H : AH) : FnA Try.prog 9 (regsF Try.f31) ac_wordhoardlaw_over [.ce 4 24] [a0, a1] H Q = S_wordhoardlaw_over a0 a1 Q H := by kernel_rfl
theorem tri_wordhoardlaw_over {a0 a1 : AV} {H : AH} {Q : AV → AH → Prop} (h : S_wordhoardlaw_over a0 a1 Q H) : Tri Try.prog 31 [a0, a1] H Q :=
  tri_of (Ms := [#[], #[]]) mixed Try.func31 rfl (by kernel_rfl) (by kernel_rfl) rfl (of_decide_eq_true rfl : 2 ≤ 9) (by rw [eq_wordhoardlaw_over a0 a1 Q H]; exact h : FnA Try.prog 9 (regsF Try.f31) ac_wordhoardlaw_over [.ce 4 24] [a0, a1] H Q)

/-! wordhoard/wordhoardlaw.under -/
def ac_wordhoardlaw_under : AC := (.seq (.reg 0) (.seq (.reg 1) .ret))
def S_wordhoardlaw_under (a0 a1 : AV) (Q : AV → AH → Prop) (H : AH) : Prop := (
 Rg 3 fun b =>
 Al (b + 0) (.bx 24) [a0] fun v2 =>
 Al (b + 1) (.bx 24) [a1] fun v3 =>
 Al (b + 2) (.nw 24 [.p (.int .i64 0), .p (.int .i64 0), .p (.slice none 0 0)]) [] fun v4 =>
 Rg 5 fun b_5 =>
 RdS Try.prog (.ld 3 true) [v2] fun v5 =>
 RdS Try.prog (.ld 3 true) [v3] fun v6 =>
 Al (b_5 + 2) (.bs 24 3 2 [.p (.int .i64 0), .p (.int .i64 0), .p (.slice none 0 0)] [(0, 3), (3, 3)]) [v5, v6] fun v7 =>
 Pu Try.prog (.bld [.p (.int .i64 0), .p (.int .i64 0), .p (.slice none 0 0)] [(0, 1), (2, 1)]) [(.p (.int .i64 3)), v7] fun v8 =>
 WrS Try.prog (b_5 + 4) (.st 3) [v4, v8] fun _ =>
 RdS Try.prog (.ld 3 true) [v4] fun r4 =>
 Rt Try.prog H.nx r4 Q
 ) H
theorem eq_wordhoardlaw_under (a0 a1 : AV) (Q : AV → AH → Prop) (H : AH) : FnA Try.prog 9 (regsF Try.f32) ac_wordhoardlaw_under [.ce 4 24] [a0, a1] H Q = S_wordhoardlaw_under a0 a1 Q H := by kernel_rfl
theorem tri_wordhoardlaw_under {a0 a1 : AV} {H : AH} {Q : AV → AH → Prop} (h : S_wordhoardlaw_under a0 a1 Q H) : Tri Try.prog 32 [a0, a1] H Q :=
  tri_of (Ms := [#[], #[]]) mixed Try.func32 rfl (by kernel_rfl) (by kernel_rfl) rfl (of_decide_eq_true rfl : 2 ≤ 9) (by rw [eq_wordhoardlaw_under a0 a1 Q H]; exact h : FnA Try.prog 9 (regsF Try.f32) ac_wordhoardlaw_under [.ce 4 24] [a0, a1] H Q)

/-! wordhoard/wordhoardlaw.base -/
def ac_wordhoardlaw_base : AC := (.seq (.reg 0) (.seq (.reg 1) .ret))
def S_wordhoardlaw_base (a0 : AV) (Q : AV → AH → Prop) (H : AH) : Prop := (
 Rg 1 fun b =>
 Al (b + 0) (.nw 24 [.p (.int .i64 0), .p (.int .i64 0), .p (.slice none 0 0)]) [] fun v2 =>
 Rg 3 fun b_3 =>
 Pu Try.prog (.bld [.p (.int .i64 0), .p (.int .i64 0), .p (.slice none 0 0)] [(0, 1), (1, 1)]) [(.p (.int .i64 1)), a0] fun v4 =>
 WrS Try.prog (b_3 + 2) (.st 3) [v2, v4] fun _ =>
 RdS Try.prog (.ld 3 true) [v2] fun r2 =>
 Rt Try.prog H.nx r2 Q
 ) H
theorem eq_wordhoardlaw_base (a0 : AV) (Q : AV → AH → Prop) (H : AH) : FnA Try.prog 5 (regsF Try.f38) ac_wordhoardlaw_base [.ce 2 24] [a0] H Q = S_wordhoardlaw_base a0 Q H := by kernel_rfl
theorem tri_wordhoardlaw_base {a0 : AV} {H : AH} {Q : AV → AH → Prop} (h : S_wordhoardlaw_base a0 Q H) : Tri Try.prog 38 [a0] H Q :=
  tri_of (Ms := [#[], #[]]) mixed Try.func38 rfl (by kernel_rfl) (by kernel_rfl) rfl (of_decide_eq_true rfl : 1 ≤ 5) (by rw [eq_wordhoardlaw_base a0 Q H]; exact h : FnA Try.prog 5 (regsF Try.f38) ac_wordhoardlaw_base [.ce 2 24] [a0] H Q)
end Go.Proofs.Ytpmnlikgldacaaa

/- What the statements about proofs are made of. -/
namespace Go.Proofs.Ytpmnlikgldacaaa
open Go.RowKit Go.Maps
theorem drop_mid {α : Type} (G t : List α) (x : α) : (G ++ x :: t).drop (G.length + 1) = t := by
  rw [show G.length + 1 = (G ++ [x]).length by simp, show G ++ x :: t = (G ++ [x]) ++ t by simp, List.drop_left]
/-- a derivation's proof is right -/
theorem PfOf.rt {p : Pf} {l : List Ty} {g : Ty} {n : Nat} (h : PfOf p l g n) : p.rt = true := by
  have hs : ∀ t : List Ty, Ty.sameL t t = true := fun t => by unfold Ty.sameL; rw [Ty.sames_self]; simp
  induction h with
  | ax g => rw [Pf.rt_eq]; simp [Pf.rts, stepB, Ty.same_self]
  | @o a l x y n hl ha ih =>
    obtain ⟨e1, e2, _⟩ := ha.head
    have h0 := List.length_pos_iff.2 hl
    rw [Pf.rt_eq]
    simp [Pf.rts, stepB, ih, h0, e1, e2, Ty.kind_o, k0_o, k1_o, Ty.same_self, hs]
  | @u a l x y n hl ha ih =>
    obtain ⟨e1, e2, _⟩ := ha.head
    have h0 := List.length_pos_iff.2 hl
    rw [Pf.rt_eq]
    simp [Pf.rts, stepB, ih, h0, e1, e2, Ty.kind_u, k0_u, k1_u, Ty.same_self, hs]
  | @ol a b G d h x y z n m hd ha hb ih1 ih2 =>
    obtain ⟨e1, e2, _⟩ := ha.head
    obtain ⟨f1, f2, _⟩ := hb.head
    have hdp := List.length_pos_iff.2 hd
    rw [Pf.rt_eq]
    have hrng : rng ⟨4, G ++ Ty.o x y :: (d ++ h), z, ((G.length + 1 : Nat) : Int), (d.length : Int), [a, b]⟩ = true := rng_iff.2 ⟨by simp; omega, by simp; omega, by simp; omega⟩
    have hpd : pD ⟨4, G ++ Ty.o x y :: (d ++ h), z, ((G.length + 1 : Nat) : Int), (d.length : Int), [a, b]⟩ = d := by unfold pD; simp only [Int.toNat_natCast, drop_mid]; simp
    have hz : stepB ⟨4, G ++ Ty.o x y :: (d ++ h), z, ((G.length + 1 : Nat) : Int), (d.length : Int), [a, b]⟩ = true := by
      unfold stepB tailB
      have hp1 : (0 : Int) < ((G.length + 1 : Nat) : Int) := by omega
      simp only [hrng, hpd, Int.toNat_natCast, Nat.add_sub_cancel, hp1]
      have hdr : List.drop (G.length + 1 + d.length) (G ++ Ty.o x y :: (d ++ h)) = h := by rw [← List.drop_drop, drop_mid]; simp
      simp [Ty.kind_o, k0_o, k1_o, e1, e2, f1, f2, Ty.same_self, hs, hdr]
    rw [hz]
    have hp : ∀ k : Nat, decide (0 < k + 1) = true := fun k => by simp
    simp only [Pf.rts, ih1, ih2, Bool.and_self, Bool.and_true, decide_eq_true_eq, List.length_append, List.length_cons]; omega
  | @ul a b G d h x y z n m hd ha hb ih1 ih2 =>
    obtain ⟨e1, e2, _⟩ := ha.head
    obtain ⟨f1, f2, _⟩ := hb.head
    have hdp := List.length_pos_iff.2 hd
    rw [Pf.rt_eq]
    have hrng : rng ⟨5, G ++ (d ++ Ty.u y x :: h), z, (G.length : Int), (d.length : Int), [a, b]⟩ = true := rng_iff.2 ⟨by simp, by simp; omega, by simp; omega⟩
    have hpd : pD ⟨5, G ++ (d ++ Ty.u y x :: h), z, (G.length : Int), (d.length : Int), [a, b]⟩ = d := by unfold pD; simp
    have hz : stepB ⟨5, G ++ (d ++ Ty.u y x :: h), z, (G.length : Int), (d.length : Int), [a, b]⟩ = true := by
      unfold stepB tailB
      simp only [hrng, hpd, Int.toNat_natCast]
      have hg : (G ++ (d ++ Ty.u y x :: h))[G.length + d.length]? = some (Ty.u y x) := by rw [← List.append_assoc, List.getElem?_append_right (by simp)]; simp
      have hdr : List.drop (G.length + d.length + 1) (G ++ (d ++ Ty.u y x :: h)) = h := by
        rw [show G ++ (d ++ Ty.u y x :: h) = (G ++ d) ++ Ty.u y x :: h by simp, show G.length + d.length + 1 = (G ++ d).length + 1 by simp, List.drop_append]; simp
      simp [Ty.kind_u, k0_u, k1_u, e1, e2, f1, f2, Ty.same_self, hs, hdr]
    rw [hz]
    have hp : ∀ k : Nat, decide (0 < k + 1) = true := fun k => by simp
    simp only [Pf.rts, ih1, ih2, Bool.and_self, Bool.and_true, decide_eq_true_eq, List.length_append, List.length_cons]; omega
end Go.Proofs.Ytpmnlikgldacaaa

/- What is right is derived; the laws of proofs. -/
namespace Go.Proofs.Ytpmnlikgldacaaa
open Go.RowKit Go.Maps
end Go.Proofs.Ytpmnlikgldacaaa

/- The statements about proofs: the walks. -/
namespace Go.Proofs.Ytpmnlikgldacaaa
open Go.RowKit Go.Maps
theorem c_base (n : Int) : PF Try.prog 38 [iv n] (Ty.av ⟨1, n, []⟩) := fun H => tri_wf fun hw => tri_wordhoardlaw_base (by
  unfold S_wordhoardlaw_base
  simp (disch := first | omega | simp) [iv]
  refine rt_sub hw (by repeat (first | with_reducible assumption | with_reducible exact AH.le.refl _ | with_reducible apply AH.le.up | (with_reducible refine AH.le.put hw ?_ ?_; · first | omega | (simp only [up_nx, put_nx, kill_nx]; done) | (simp only [up_nx, put_nx, kill_nx]; omega)) | (with_reducible refine AH.le.kill hw ?_ ?_; · first | omega | (simp only [up_nx, put_nx, kill_nx]; done) | (simp only [up_nx, put_nx, kill_nx]; omega)))) (by first | omega | (simp only [up_nx, put_nx]; done) | (simp only [up_nx, put_nx]; omega)) (v' := Ty.av ⟨1, n, []⟩) ?_ (.agg (Ty.cl _ _)) ⟨rfl, rfl⟩
  unfold Ty.av
  rw [Ty.cs_b]
  exact .agg (.cons (.refl _) (.cons (.refl _) (.cons (Sub.nil 3 0 (Nat.zero_le _)) .nil))))
theorem kids_row {H H1 : AH} {r : Nat} {x y : Ty} {k : Int} {Q : AV → AH → Prop} (hw : WF H) (hle : H.le H1) (hn : H.nx ≤ H1.nx) (hr : H.nx ≤ r) (hrow : H1.get r = some (.row 24 3 [x.cs, y.cs])) (hq : Q (.agg [.p (.int .i64 k), .p (.int .i64 0), .dsl 3 [x.cs, y.cs]]) H) :
    Rt Try.prog H.nx (.agg [.p (.int .i64 k), .p (.int .i64 0), .osl r 3 0 2]) Q H1 := by
  have hs : Sub Try.prog (H1.put r (.frz 3 [x.cs, y.cs])) (.osl r 3 0 2) (.dsl 3 [x.cs, y.cs]) := by
    have := Sub.frz (P := Try.prog) (H := H1.put r (.frz 3 [x.cs, y.cs])) (r := r) (off := 0) (n := 2) (put_get _ _) (by simp)
    exact this
  exact rt_row (n := 0) hw hn hr hle hrow (dt_ty [x, y]) (.agg (.cons (.refl _) (.cons (.refl _) (.cons hs .nil)))) (by repeat (first | exact Cl.p _ | exact Cl.dsl _ _ | exact Cl.any | refine Cl.tup ?_ | refine Cl.agg ?_ | exact Clo.nil | refine Clo.cons ?_ ?_)) hq
theorem c_over (x y : Ty) : PF Try.prog 31 [x.av, y.av] (Ty.o x y).av := fun H => tri_wf fun hw => tri_wordhoardlaw_over (by
  unfold S_wordhoardlaw_over
  simp (disch := first | omega | simp) [put_get_ne, Ty.av, Ty.cs_len, Ty.cs_take]
  refine kids_row (x := x) (y := y) hw (by repeat (first | with_reducible assumption | with_reducible exact AH.le.refl _ | with_reducible apply AH.le.up | (with_reducible refine AH.le.put hw ?_ ?_; · first | omega | (simp only [up_nx, put_nx, kill_nx]; done) | (simp only [up_nx, put_nx, kill_nx]; omega)) | (with_reducible refine AH.le.kill hw ?_ ?_; · first | omega | (simp only [up_nx, put_nx, kill_nx]; done) | (simp only [up_nx, put_nx, kill_nx]; omega)))) (by first | omega | (simp only [up_nx, put_nx]; done) | (simp only [up_nx, put_nx]; omega)) (by omega) (by simp (disch := first | omega | simp) [put_get_ne]; rw [Ty.cs_eq x, Ty.cs_eq y]; exact ⟨rfl, rfl⟩) ?_
  rw [Ty.cs_o]
  exact ⟨rfl, rfl⟩)
theorem c_under (y x : Ty) : PF Try.prog 32 [y.av, x.av] (Ty.u y x).av := fun H => tri_wf fun hw => tri_wordhoardlaw_under (by
  unfold S_wordhoardlaw_under
  simp (disch := first | omega | simp) [put_get_ne, Ty.av, Ty.cs_len, Ty.cs_take]
  refine kids_row (x := y) (y := x) hw (by repeat (first | with_reducible assumption | with_reducible exact AH.le.refl _ | with_reducible apply AH.le.up | (with_reducible refine AH.le.put hw ?_ ?_; · first | omega | (simp only [up_nx, put_nx, kill_nx]; done) | (simp only [up_nx, put_nx, kill_nx]; omega)) | (with_reducible refine AH.le.kill hw ?_ ?_; · first | omega | (simp only [up_nx, put_nx, kill_nx]; done) | (simp only [up_nx, put_nx, kill_nx]; omega)))) (by first | omega | (simp only [up_nx, put_nx]; done) | (simp only [up_nx, put_nx]; omega)) (by omega) (by simp (disch := first | omega | simp) [put_get_ne]; rw [Ty.cs_eq x, Ty.cs_eq y]; exact ⟨rfl, rfl⟩) ?_
  rw [Ty.cs_u]
  exact ⟨rfl, rfl⟩)
def b0 : Ty := ⟨1, 0, []⟩
def b1 : Ty := ⟨1, 1, []⟩
def lB : List Ty := [b0, Ty.o (Ty.u b0 b1) b0, b0]
theorem dvB_begun : Dv lB b1 := by
  have h1 : Dv ([] ++ ([b0] ++ Ty.u b0 b1 :: [])) b1 := .ul (by simp) (.ax b0) (.ax b1)
  have h2 : Dv ([b0] ++ Ty.o (Ty.u b0 b1) b0 :: ([b0] ++ [])) b1 := .ol (by simp) (.ax b0) (by simpa using h1)
  simpa [lB] using h2
theorem asks_begun : asksV lB b1 = 0 := by
  have g0 : Good b0 := by unfold Good Ty.check b0; simp [Ty.size, Ty.sizes, Ty.wrong, Ty.head, Ty.wrongs]
  have g1 : Good b1 := by unfold Good Ty.check b1; simp [Ty.size, Ty.sizes, Ty.wrong, Ty.head, Ty.wrongs]
  have gu : Good (Ty.o (Ty.u b0 b1) b0) := by unfold Good Ty.check b1 b0 Ty.o Ty.u; simp [Ty.size, Ty.sizes, Ty.wrong, Ty.head, Ty.wrongs]
  have hg : Goods (lB ++ [b1]) := .cons g0 (.cons gu (.cons g0 (.cons g1 .nil)))
  unfold asksV
  rw [if_neg (by simp [lB]), if_neg (by rw [chkL_ok hg]; simp), if_neg ?_]
  have h0 : b0.sl = 0 := by unfold b0; rw [Ty.sl]; simp
  have h1 : b1.sl = 0 := by unfold b1; rw [Ty.sl]; simp
  simp [lB, Ty.sls_cons, Ty.sls_nil, Ty.sl_o, Ty.sl_u, h0, h1]
theorem prove_yes {l : List Ty} {g : Ty} (ha : asksV l g = 0) (hd : Dv l g) : ∃ p n, PfOf p l g n ∧ proveR l g = .tup [p.av, bv true, iv 0] := by
  rcases proved_R l g with ⟨h, _⟩ | ⟨_, h, _⟩ | ⟨_, _, h⟩
  · exact absurd ha h
  · exact absurd hd h
  · exact h
set_option maxHeartbeats 1000000 in
theorem c_begun : PF Try.prog 11 [] (bv true) := fun H => tri_wf fun hw => tri_wordhoardlaw_speechBegun (by
  unfold S_wordhoardlaw_speechBegun
  simp (disch := first | omega | simp) []
  refine ca_pure (by kernel_rfl) (c_base 0 _) ?_
  refine ca_pure (by kernel_rfl) (c_base 0 _) ?_
  refine ca_pure (by kernel_rfl) (c_base 1 _) ?_
  refine ca_pure (by kernel_rfl) (c_under b0 b1 _) ?_
  refine ca_pure (by kernel_rfl) (c_base 0 _) ?_
  refine ca_pure (by kernel_rfl) (c_over (Ty.u b0 b1) b0 _) ?_
  refine ca_pure (by kernel_rfl) (c_base 0 _) ?_
  simp (disch := first | omega | simp) [Ty.av, Ty.cs_len]
  refine ca_pure (by kernel_rfl) (c_base 1 _) ?_
  have hrow : ∀ M : AH, (M.put (H.nx + 7) (.row 24 3 [b0.cs, (Ty.o (Ty.u b0 b1) b0).cs, b0.cs])).get (H.nx + 7) = some (.row 24 3 [b0.cs, (Ty.o (Ty.u b0 b1) b0).cs, b0.cs]) := fun M => put_get _ _
  refine ca_of (by kernel_rfl) (Tri.st (.freeze (hrow _) (dt_ty [b0, Ty.o (Ty.u b0 b1) b0, b0])) (Tri.args (.cons (Sub.frz (put_get _ _) (by simp)) (.cons (.refl _) .nil)) (c_Prove lB b1 _))) ?_
  rintro _ _ ⟨rfl, rfl⟩
  obtain ⟨p, n, hp, hr⟩ := prove_yes asks_begun dvB_begun
  rw [hr]
  simp (disch := first | omega | simp) [Pf.av, bv, iv, Pf.cs_len]
  exact rt_one hw (by repeat (first | with_reducible assumption | with_reducible exact AH.le.refl _ | with_reducible apply AH.le.up | (with_reducible refine AH.le.put hw ?_ ?_; · first | omega | (simp only [up_nx, put_nx, kill_nx]; done) | (simp only [up_nx, put_nx, kill_nx]; omega)) | (with_reducible refine AH.le.kill hw ?_ ?_; · first | omega | (simp only [up_nx, put_nx, kill_nx]; done) | (simp only [up_nx, put_nx, kill_nx]; omega)))) (by repeat (first | exact Cl.p _ | exact Cl.dsl _ _ | exact Cl.any | refine Cl.tup ?_ | refine Cl.agg ?_ | exact Clo.nil | refine Clo.cons ?_ ?_)) ⟨rfl, rfl⟩)
end Go.Proofs.Ytpmnlikgldacaaa
