/- Texts that the proof rests on, part 14: what each holds stands at its head. -/
import Derived.Test.YtpmnlikgldacaaaSv13

/- The document's answer whether a sequent has a proof. -/
namespace Go.Proofs.Ytpmnlikgldacaaa
open Go.RowKit Go.Maps
open Classical in
noncomputable def dvB (l : List Ty) (g : Ty) : Bool := decide (Dv l g)
open Classical in
theorem dvB_iff {l : List Ty} {g : Ty} : dvB l g = true ↔ Dv l g := by unfold dvB; exact decide_eq_true_iff
theorem dvB_no {l : List Ty} {g : Ty} (h : ¬ Dv l g) : dvB l g = false := by
  cases hb : dvB l g with
  | false => rfl
  | true => exact absurd (dvB_iff.1 hb) h
theorem dvB_yes {l : List Ty} {g : Ty} (h : Dv l g) : dvB l g = true := dvB_iff.2 h
def RPc (N : Nat) : Prop := ∀ (l : List Ty) (g : Ty) (H : AH), Goods l → Good g → Ty.sls l + g.sl < N → l.length + (Ty.sls l + g.sl) ≤ 16 →
  Tri Try.prog 12 [tE l, g.av] H (fun r H' => H' = H ∧ r = bv (dvB l g))
noncomputable def cB (c : Cand) (g : Ty) : Bool := dvB c.d c.x && dvB c.rest g
set_option maxHeartbeats 2000000 in
theorem rp_over {N : Nat} (hP : RPc N) {M : AH} {b3 b6 i : Nat} {kk : Nat} {l : List Ty} {g x y : Ty} {Q : AV → AH → Prop} {H : AH} {k : List AV → AH → Prop} (hw : WF M) (hg3 : M.get b3 = some (.box 24 g.cs)) (hg6 : M.get b6 = some (.box 24 (Ty.o x y).cs)) (_hl : Goods l) (hg : Good g) (hi : i + 2 ≤ kk) (hk : kk ≤ l.length) (hc : CandIn l (candO l i (Ty.o x y) kk)) (hN : Ty.sls l + g.sl ≤ N) (hK : l.length + (Ty.sls l + g.sl) ≤ 16)
    (h1 : cB (candO l i (Ty.o x y) kk) g = true → ∀ M', M.le M' → M.nx ≤ M'.nx → Rt Try.prog H.nx (bv true) Q M') (h0 : cB (candO l i (Ty.o x y) kk) g = false → ∀ M', M.le M' → M.nx ≤ M'.nx → k [iv ((kk + 1 : Nat) : Int)] M') :
    S_wordhoardref_Proves_C2 (tE l) Q H (.ptr b3 0) [iv i] (.ptr b6 0) k [iv kk] M := by
  have hml : maxLen = 9223372036854775807 := by decide
  have hiv := ivn (i := i) (by omega)
  have hkv := ivn (i := kk) (by omega)
  have e1 : ((i + 1 : Nat) : Int) < kk := by omega
  have e2 : (0 : Int) ≤ (i : Int) + 1 := by omega
  have e3 : (i : Int) + 1 ≤ kk := by omega
  have e4 : ((i : Int) + 1).toNat = i + 1 := by omega
  have e5 : i ≤ l.length := by omega
  have e6 : (i : Int) + 1 < kk := by omega
  have hb3 := (hw _ _ hg3).1
  have hb6 := (hw _ _ hg6).1
  have hfl : [l.take i, [x], l.drop kk].flatten = (candO l i (Ty.o x y) kk).rest := by simp [candO, Ty.o]
  have hdl : (l.drop (i + 1)).take (kk - (i + 1)) = (candO l i (Ty.o x y) kk).d := rfl
  have hcx : (candO l i (Ty.o x y) kk).x = y := rfl
  obtain ⟨c1, c2, c3, c4, c5, _, _⟩ := hc
  unfold S_wordhoardref_Proves_C2 tE
  simp (disch := first | omega | simp) [iv, hiv, hg6, Ty.cs_len, Ty.cs_take, Ty.cs_o, e2, e3, e4, e6, hk]
  rw [← List.map_drop, ← List.map_take, hdl]
  generalize (candO l i (Ty.o x y) kk) = c at *
  subst hcx
  refine cav_pure (by kernel_rfl) (fun H3 _ => hP c.d c.x H3 c1 c2 (by omega) (by omega)) ?_
  cases hd : dvB c.d c.x with
  | false =>
    have hc0 : cB c g = false := by unfold cB; rw [hd]; rfl
    unfold S_wordhoardref_Proves_C1
    simp (disch := first | omega | simp) [bv, hg6, Ty.cs_o, iv, hkv]
    exact h0 hc0 _ (by repeat (first | with_reducible assumption | with_reducible exact AH.le.refl _ | with_reducible apply AH.le.up | (with_reducible refine AH.le.put hw ?_ ?_; · first | omega | (simp only [up_nx, put_nx, kill_nx]; done) | (simp only [up_nx, put_nx, kill_nx]; omega)) | (with_reducible refine AH.le.kill hw ?_ ?_; · first | omega | (simp only [up_nx, put_nx, kill_nx]; done) | (simp only [up_nx, put_nx, kill_nx]; omega)))) (by first | omega | (simp only [up_nx]; done) | (simp only [up_nx]; omega))
  | true =>
    simp (disch := first | omega | simp) [bv, hg6, Ty.cs_o, e5, hk]
    simp only [← List.map_take, ← List.map_drop]
    refine can_pure (by kernel_rfl) (fun H2 hle => c_join [l.take i, [x], l.drop kk] (three_parts (hle _ _ (by simp (disch := first | omega | simp)))) (by rw [hfl]; omega) (by simp)) ?_
    rw [hfl]
    simp (disch := first | omega | simp) [hg3, Ty.cs_len, Ty.cs_take]
    refine cav_pure (by kernel_rfl) (fun H3 _ => hP c.rest g H3 c3 hg (by omega) (by omega)) ?_
    cases hd2 : dvB c.rest g with
    | false =>
      have hc0 : cB c g = false := by unfold cB; rw [hd, hd2]; rfl
      unfold S_wordhoardref_Proves_C1
      simp (disch := first | omega | simp) [bv, hg6, put_get_ne, Ty.cs_o, iv, hkv]
      exact h0 hc0 _ (by repeat (first | with_reducible assumption | with_reducible exact AH.le.refl _ | with_reducible apply AH.le.up | (with_reducible refine AH.le.put hw ?_ ?_; · first | omega | (simp only [up_nx, put_nx, kill_nx]; done) | (simp only [up_nx, put_nx, kill_nx]; omega)) | (with_reducible refine AH.le.kill hw ?_ ?_; · first | omega | (simp only [up_nx, put_nx, kill_nx]; done) | (simp only [up_nx, put_nx, kill_nx]; omega)))) (by first | omega | (simp only [up_nx, put_nx]; done) | (simp only [up_nx, put_nx]; omega))
    | true =>
      have hc0 : cB c g = true := by unfold cB; rw [hd, hd2]; rfl
      simp (disch := first | omega | simp) [bv]
      exact h1 hc0 _ (by repeat (first | with_reducible assumption | with_reducible exact AH.le.refl _ | with_reducible apply AH.le.up | (with_reducible refine AH.le.put hw ?_ ?_; · first | omega | (simp only [up_nx, put_nx, kill_nx]; done) | (simp only [up_nx, put_nx, kill_nx]; omega)) | (with_reducible refine AH.le.kill hw ?_ ?_; · first | omega | (simp only [up_nx, put_nx, kill_nx]; done) | (simp only [up_nx, put_nx, kill_nx]; omega)))) (by first | omega | (simp only [up_nx, put_nx]; done) | (simp only [up_nx, put_nx]; omega))
set_option maxHeartbeats 2000000 in
theorem rp_under {N : Nat} (hP : RPc N) {M : AH} {b3 b6 i : Nat} {kk : Nat} {l : List Ty} {g x y : Ty} {Q : AV → AH → Prop} {H : AH} {k : List AV → AH → Prop} (hw : WF M) (hg3 : M.get b3 = some (.box 24 g.cs)) (hg6 : M.get b6 = some (.box 24 (Ty.u y x).cs)) (_hl : Goods l) (hg : Good g) (hi : kk < i) (hil : i < l.length) (hc : CandIn l (candU l i (Ty.u y x) kk)) (hN : Ty.sls l + g.sl ≤ N) (hK : l.length + (Ty.sls l + g.sl) ≤ 16)
    (h1 : cB (candU l i (Ty.u y x) kk) g = true → ∀ M', M.le M' → M.nx ≤ M'.nx → Rt Try.prog H.nx (bv true) Q M') (h0 : cB (candU l i (Ty.u y x) kk) g = false → ∀ M', M.le M' → M.nx ≤ M'.nx → k [iv ((kk + 1 : Nat) : Int)] M') :
    S_wordhoardref_Proves_C2 (tE l) Q H (.ptr b3 0) [iv i] (.ptr b6 0) k [iv kk] M := by
  have hml : maxLen = 9223372036854775807 := by decide
  have hiv := ivn (i := i) (by omega)
  have hkv := ivn (i := kk) (by omega)
  have e1 : (kk : Int) < i := by omega
  have e2 : (0 : Int) ≤ (i : Int) + 1 := by omega
  have e3 : (kk : Int) ≤ i := by omega
  have e4 : ((i : Int) + 1).toNat = i + 1 := by omega
  have e5 : (i : Int) ≤ l.length := by omega
  have e6 : (i : Int) + 1 ≤ l.length := by omega
  have hk : kk ≤ l.length := by omega
  have hb3 := (hw _ _ hg3).1
  have hb6 := (hw _ _ hg6).1
  have hfl : [l.take kk, [x], l.drop (i + 1)].flatten = (candU l i (Ty.u y x) kk).rest := by simp [candU, Ty.u]
  have hdl : (l.drop kk).take (i - kk) = (candU l i (Ty.u y x) kk).d := rfl
  have hcx : (candU l i (Ty.u y x) kk).x = y := rfl
  obtain ⟨c1, c2, c3, c4, c5, _, _⟩ := hc
  unfold S_wordhoardref_Proves_C2 S_wordhoardref_Proves_C1 tE
  simp (disch := first | omega | simp) [iv, hg6, Ty.cs_len, Ty.cs_take, Ty.cs_u, e1, e3, e5]
  rw [← List.map_drop, ← List.map_take, hdl]
  generalize (candU l i (Ty.u y x) kk) = c at *
  subst hcx
  refine cav_pure (by kernel_rfl) (fun H3 _ => hP c.d c.x H3 c1 c2 (by omega) (by omega)) ?_
  cases hd : dvB c.d c.x with
  | false =>
    have hc0 : cB c g = false := by unfold cB; rw [hd]; rfl
    simp (disch := first | omega | simp) [bv, hkv]
    exact h0 hc0 _ (by repeat (first | with_reducible assumption | with_reducible exact AH.le.refl _ | with_reducible apply AH.le.up | (with_reducible refine AH.le.put hw ?_ ?_; · first | omega | (simp only [up_nx, put_nx, kill_nx]; done) | (simp only [up_nx, put_nx, kill_nx]; omega)) | (with_reducible refine AH.le.kill hw ?_ ?_; · first | omega | (simp only [up_nx, put_nx, kill_nx]; done) | (simp only [up_nx, put_nx, kill_nx]; omega)))) (by first | omega | (simp only [up_nx]; done) | (simp only [up_nx]; omega))
  | true =>
    simp (disch := first | omega | simp) [bv, hiv, hg6, Ty.cs_u, e2, e4, e6, hk]
    simp only [← List.map_take, ← List.map_drop]
    refine can_pure (by kernel_rfl) (fun H2 hle => c_join [l.take kk, [x], l.drop (i + 1)] (three_parts (hle _ _ (by simp (disch := first | omega | simp)))) (by rw [hfl]; omega) (by simp)) ?_
    rw [hfl]
    simp (disch := first | omega | simp) [hg3, Ty.cs_len, Ty.cs_take]
    refine cav_pure (by kernel_rfl) (fun H3 _ => hP c.rest g H3 c3 hg (by omega) (by omega)) ?_
    cases hd2 : dvB c.rest g with
    | false =>
      have hc0 : cB c g = false := by unfold cB; rw [hd, hd2]; rfl
      simp (disch := first | omega | simp) [bv, hkv]
      exact h0 hc0 _ (by repeat (first | with_reducible assumption | with_reducible exact AH.le.refl _ | with_reducible apply AH.le.up | (with_reducible refine AH.le.put hw ?_ ?_; · first | omega | (simp only [up_nx, put_nx, kill_nx]; done) | (simp only [up_nx, put_nx, kill_nx]; omega)) | (with_reducible refine AH.le.kill hw ?_ ?_; · first | omega | (simp only [up_nx, put_nx, kill_nx]; done) | (simp only [up_nx, put_nx, kill_nx]; omega)))) (by first | omega | (simp only [up_nx, put_nx]; done) | (simp only [up_nx, put_nx]; omega))
    | true =>
      have hc0 : cB c g = true := by unfold cB; rw [hd, hd2]; rfl
      simp (disch := first | omega | simp) [bv]
      exact h1 hc0 _ (by repeat (first | with_reducible assumption | with_reducible exact AH.le.refl _ | with_reducible apply AH.le.up | (with_reducible refine AH.le.put hw ?_ ?_; · first | omega | (simp only [up_nx, put_nx, kill_nx]; done) | (simp only [up_nx, put_nx, kill_nx]; omega)) | (with_reducible refine AH.le.kill hw ?_ ?_; · first | omega | (simp only [up_nx, put_nx, kill_nx]; done) | (simp only [up_nx, put_nx, kill_nx]; omega)))) (by first | omega | (simp only [up_nx, put_nx]; done) | (simp only [up_nx, put_nx]; omega))
theorem rp_skip {M : AH} {b3 b6 i : Nat} {kk : Nat} {l : List Ty} {f : Ty} {Q : AV → AH → Prop} {H : AH} {k : List AV → AH → Prop} (hw : WF M) (hg6 : M.get b6 = some (.box 24 f.cs)) (hi : i < l.length) (hk : kk ≤ l.length) (hll : l.length ≤ 16)
    (h2 : f.kind = 2 → kk < i + 2) (h3 : f.kind = 3 → i ≤ kk) (h0 : ∀ M', M.le M' → M.nx ≤ M'.nx → k [iv ((kk + 1 : Nat) : Int)] M') :
    S_wordhoardref_Proves_C2 (tE l) Q H (.ptr b3 0) [iv i] (.ptr b6 0) k [iv kk] M := by
  have hiv := ivn (i := i) (by omega)
  have hkv := ivn (i := kk) (by omega)
  have hb6 := (hw _ _ hg6).1
  unfold S_wordhoardref_Proves_C2 S_wordhoardref_Proves_C1
  by_cases k2 : f.kind = 2
  · have e1 : ¬ (i : Int) + 1 < kk := by have := h2 k2; omega
    simp (disch := first | omega | simp) [iv, hiv, hkv, hg6, Ty.cs_g0, k2, e1]
    exact h0 _ (by repeat (first | with_reducible assumption | with_reducible exact AH.le.refl _ | with_reducible apply AH.le.up | (with_reducible refine AH.le.put hw ?_ ?_; · first | omega | (simp only [up_nx, put_nx, kill_nx]; done) | (simp only [up_nx, put_nx, kill_nx]; omega)) | (with_reducible refine AH.le.kill hw ?_ ?_; · first | omega | (simp only [up_nx, put_nx, kill_nx]; done) | (simp only [up_nx, put_nx, kill_nx]; omega)))) (by first | omega | (simp only [up_nx]; done) | (simp only [up_nx]; omega))
  · by_cases k3 : f.kind = 3
    · have e1 : ¬ (kk : Int) < i := by have := h3 k3; omega
      simp (disch := first | omega | simp) [iv, hkv, hg6, Ty.cs_g0, k3, e1]
      exact h0 _ (by repeat (first | with_reducible assumption | with_reducible exact AH.le.refl _ | with_reducible apply AH.le.up | (with_reducible refine AH.le.put hw ?_ ?_; · first | omega | (simp only [up_nx, put_nx, kill_nx]; done) | (simp only [up_nx, put_nx, kill_nx]; omega)) | (with_reducible refine AH.le.kill hw ?_ ?_; · first | omega | (simp only [up_nx, put_nx, kill_nx]; done) | (simp only [up_nx, put_nx, kill_nx]; omega)))) (by first | omega | (simp only [up_nx]; done) | (simp only [up_nx]; omega))
    · simp (disch := first | omega | simp) [iv, hkv, hg6, Ty.cs_g0, k2, k3]
      exact h0 _ (by repeat (first | with_reducible assumption | with_reducible exact AH.le.refl _ | with_reducible apply AH.le.up | (with_reducible refine AH.le.put hw ?_ ?_; · first | omega | (simp only [up_nx, put_nx, kill_nx]; done) | (simp only [up_nx, put_nx, kill_nx]; omega)) | (with_reducible refine AH.le.kill hw ?_ ?_; · first | omega | (simp only [up_nx, put_nx, kill_nx]; done) | (simp only [up_nx, put_nx, kill_nx]; omega)))) (by first | omega | (simp only [up_nx]; done) | (simp only [up_nx]; omega))
/-- what is found by the parts on the left that were looked at: nothing -/
def NoC (l : List Ty) (g : Ty) (i : Nat) : Prop := ∀ j, j < i → ∀ c ∈ candsAt l j, cB c g = false
theorem rp_inner {N : Nat} (hP : RPc N) {M : AH} {b3 b6 i : Nat} {l : List Ty} {g f : Ty} {Q : AV → AH → Prop} {H : AH} {k : List AV → AH → Prop} (hw : WF M) (hg3 : M.get b3 = some (.box 24 g.cs)) (hg6 : M.get b6 = some (.box 24 f.cs)) (hl : Goods l) (hg : Good g) (hf : l[i]? = some f) (hN : Ty.sls l + g.sl ≤ N) (hK : l.length + (Ty.sls l + g.sl) ≤ 16)
    (h1 : ∀ c ∈ candsAt l i, cB c g = true → ∀ M', M.le M' → M.nx ≤ M'.nx → Rt Try.prog H.nx (bv true) Q M') (h0 : (∀ c ∈ candsAt l i, cB c g = false) → k [iv ((i + 1 : Nat) : Int)] M) :
    LoopA Try.prog 1 (S_wordhoardref_Proves_L3 (tE l) Q H (.ptr b3 0) k [iv i] (.ptr b6 0)) [iv 0] M := by
  have hil := (List.getElem?_eq_some_iff.1 hf).1
  have hiv := ivn (i := i) (by omega)
  have hca : candsAt l i = if f.kind = 2 then oversFrom l i f (i + 2) else if f.kind = 3 then undersFrom l i f 0 else [] := by unfold candsAt; rw [hf]
  refine loop_st (fun kk : Nat => [iv kk]) (fun kk M1 => M = M1 ∧ kk ≤ l.length + 1 ∧ (f.kind = 2 → ∀ to, i + 2 ≤ to → to < kk → cB (candO l i f to) g = false) ∧ (f.kind = 3 → ∀ fr, fr < kk → fr < i → cB (candU l i f fr) g = false)) (fun kk => l.length + 1 - kk) 0 (.refl (Nat.le_refl _)) ⟨rfl, Nat.zero_le _, fun _ to h1 h2 => absurd h2 (Nat.not_lt_zero _), fun _ fr h1 _ => absurd h1 (Nat.not_lt_zero _)⟩ ?_
  rintro kk _ _ ⟨rfl, hk1, hk2, hk3⟩ k1 hk
  unfold S_wordhoardref_Proves_L3
  by_cases hkl : kk ≤ l.length
  · unfold tE
    simp (disch := first | omega | simp) [iv, hkl]
    have hnext : (f.kind = 2 → i + 2 ≤ kk → cB (candO l i f kk) g = false) → (f.kind = 3 → kk < i → cB (candU l i f kk) g = false) → ∀ M', M.le M' → M.nx ≤ M'.nx → k1 [iv ((kk + 1 : Nat) : Int)] M' := fun q2 q3 M' hle hn => by
      refine hk (kk + 1) M _ M' (.back hw hle (by repeat (first | exact Cl.p _ | exact Cl.dsl _ _ | exact Cl.any | refine Cl.tup ?_ | refine Cl.agg ?_ | exact Clo.nil | refine Clo.cons ?_ ?_))) ⟨rfl, by omega, fun e to t1 t2 => ?_, fun e fr t1 t2 => ?_⟩ (by show l.length + 1 - (kk + 1) < l.length + 1 - kk; omega)
      · rcases Nat.lt_or_ge to kk with h | h
        · exact hk2 e to t1 h
        · have : to = kk := by omega
          subst this; exact q2 e t1
      · rcases Nat.lt_or_ge fr kk with h | h
        · exact hk3 e fr h t2
        · have : fr = kk := by omega
          subst this; exact q3 e t2
    rcases (hl _ (List.mem_of_getElem? hf)).cases with ⟨n, e, _⟩ | ⟨x, y, e, _⟩ | ⟨y, x, e, _⟩
    · have n2 : f.kind ≠ 2 := by rw [e]; show (1 : Int) ≠ 2; decide
      have n3 : f.kind ≠ 3 := by rw [e]; show (1 : Int) ≠ 3; decide
      exact rp_skip hw hg6 hil hkl (by omega) (fun h => absurd h n2) (fun h => absurd h n3) (hnext (fun h => absurd h n2) (fun h => absurd h n3))
    · have n3 : f.kind ≠ 3 := by rw [e, Ty.kind_o]; decide
      have e2 : f.kind = 2 := by rw [e, Ty.kind_o]
      by_cases h2 : i + 2 ≤ kk
      · have hm : candO l i f kk ∈ candsAt l i := by rw [hca, if_pos e2]; exact List.mem_map.2 ⟨kk, List.mem_range'_1.2 ⟨h2, by omega⟩, rfl⟩
        rw [e] at hg6 hf hm hnext
        exact rp_over hP hw hg3 hg6 hl hg h2 hkl (candO_in hl hf h2 hkl) hN hK (h1 _ hm) fun hc => hnext (fun _ _ => hc) (fun h => by rw [Ty.kind_o] at h; exact absurd h (by decide))
      · exact rp_skip hw hg6 hil hkl (by omega) (fun _ => by omega) (fun h => absurd h n3) (hnext (fun _ h => absurd h h2) (fun h => absurd h n3))
    · have n2 : f.kind ≠ 2 := by rw [e, Ty.kind_u]; decide
      have e3 : f.kind = 3 := by rw [e, Ty.kind_u]
      by_cases h2 : kk < i
      · have hm : candU l i f kk ∈ candsAt l i := by rw [hca, if_neg n2, if_pos e3]; exact List.mem_map.2 ⟨kk, List.mem_range'_1.2 ⟨Nat.zero_le _, by omega⟩, rfl⟩
        rw [e] at hg6 hf hm hnext
        exact rp_under hP hw hg3 hg6 hl hg h2 hil (candU_in hl hf h2) hN hK (h1 _ hm) fun hc => hnext (fun h => by rw [Ty.kind_u] at h; exact absurd h (by decide)) (fun _ _ => hc)
      · exact rp_skip hw hg6 hil hkl (by omega) (fun h => absurd h n2) (fun _ => by omega) (hnext (fun h => absurd h n2) (fun _ h => absurd h h2))
  · unfold tE
    simp (disch := first | omega | simp) [iv, hkl, hiv]
    refine h0 fun c hc => ?_
    rw [hca] at hc
    split at hc
    · rename_i e2
      obtain ⟨to, q1, rfl⟩ := List.mem_map.1 hc
      rw [List.mem_range'_1] at q1
      exact hk2 e2 to q1.1 (by omega)
    · split at hc
      · rename_i e3
        obtain ⟨fr, q1, rfl⟩ := List.mem_map.1 hc
        rw [List.mem_range'_1] at q1
        exact hk3 e3 fr (by omega) (by omega)
      · cases hc
theorem rp_outer {N : Nat} (hP : RPc N) {M : AH} {b3 : Nat} {l : List Ty} {g : Ty} {Q : AV → AH → Prop} {H : AH} (hw : WF M) (hg3 : M.get b3 = some (.box 24 g.cs)) (hl : Goods l) (hg : Good g) (hN : Ty.sls l + g.sl ≤ N) (hK : l.length + (Ty.sls l + g.sl) ≤ 16)
    (h1 : ∀ c ∈ candsFrom l 0, cB c g = true → ∀ M', M.le M' → M.nx ≤ M'.nx → Rt Try.prog H.nx (bv true) Q M') (h0 : (∀ c ∈ candsFrom l 0, cB c g = false) → Rt Try.prog H.nx (bv false) Q M) :
    LoopA Try.prog 1 (S_wordhoardref_Proves_L4 (tE l) Q H (.ptr b3 0)) [iv 0] M := by
  have hb3 := (hw _ _ hg3).1
  refine loop_st (fun i : Nat => [iv i]) (fun i M1 => M = M1 ∧ i ≤ l.length ∧ NoC l g i) (fun i => l.length + 1 - i) 0 (.refl (Nat.le_refl _)) ⟨rfl, Nat.zero_le _, fun j h => absurd h (Nat.not_lt_zero _)⟩ ?_
  rintro i _ _ ⟨rfl, hi, hno⟩ k hk
  unfold S_wordhoardref_Proves_L4
  by_cases hil : i < l.length
  · have hf : l[i]? = some l[i] := List.getElem?_eq_getElem hil
    have hmem : ∀ c ∈ candsAt l i, c ∈ candsFrom l 0 := fun c hc => (candsFrom_mem l.length 0 (by omega)).2 ⟨i, Nat.zero_le _, hil, hc⟩
    generalize hfe : l[i] = f at hf
    have hin := rp_inner (Q := Q) (H := H) (k := k) hP (M := ((M.up 6).put (M.nx + 4) (.box 24 [iv 0, iv 0, .p (.slice none 0 0)])).put (M.nx + 4) (.box 24 f.cs)) (b3 := b3) (b6 := M.nx + 4) (((hw.up 6).box (by simp only [up_nx]; omega) (by repeat (first | exact Cl.p _ | exact Cl.dsl _ _ | exact Cl.any | refine Cl.tup ?_ | refine Cl.agg ?_ | exact Clo.nil | refine Clo.cons ?_ ?_))).box (by simp only [put_nx, up_nx]; omega) (Ty.cl f _)) (by simp (disch := first | omega | simp) [put_get_ne, hg3]) (put_get _ _) hl hg hf hN hK
      (fun c hc h M' hle hn => h1 c (hmem c hc) h M' (AH.le.trans (AH.le.put hw (by omega) (AH.le.put hw (by omega) (AH.le.up (.refl _)))) hle) (by simp only [put_nx, up_nx] at hn; omega))
      (fun hc => hk (i + 1) M _ _ (.back hw (AH.le.put hw (by omega) (AH.le.put hw (by omega) (AH.le.up (.refl _)))) (by repeat (first | exact Cl.p _ | exact Cl.dsl _ _ | exact Cl.any | refine Cl.tup ?_ | refine Cl.agg ?_ | exact Clo.nil | refine Clo.cons ?_ ?_))) ⟨rfl, hil, fun j hj c hcj => by
        rcases Nat.lt_or_ge j i with h | h
        · exact hno j h c hcj
        · have : j = i := by omega
          subst this; exact hc c hcj⟩ (by show l.length + 1 - (i + 1) < l.length + 1 - i; omega))
    unfold tE at hin ⊢
    simp (disch := first | omega | simp) [iv, hil, hfe, Ty.cs_len, Ty.cs_take]
    exact hin
  · unfold tE
    simp (disch := first | omega | simp) [iv, hil]
    refine h0 fun c hc => ?_
    obtain ⟨j, _, hj, hcj⟩ := (candsFrom_mem l.length 0 (by omega)).1 hc
    exact hno j (by omega) c hcj
theorem row_clo {B : Nat} {t : TypeId} {sz : Nat} {es : List (List AV)} (h : ∀ e ∈ es, Clo B e) : ClO B (.row t sz es) := h
theorem two_parts_o {H : AH} {r q : Nat} {a : List Ty} {y : Ty} (h : H.get r = some (.row 22 1 [[.dsl 3 (a.map Ty.cs)], [.osl q 3 0 1]])) (h2 : H.get q = some (.row 24 3 [y.cs])) : PartsAt H (.osl r 1 0 2) [a, [y]] := by
  refine ⟨[.dsl 3 (a.map Ty.cs), .osl q 3 0 1], by simp [h], rfl, fun i r hr => ?_⟩
  match i with
  | 0 => simp at hr; subst hr; exact ⟨_, rfl, by simp⟩
  | 1 => simp at hr; subst hr; exact ⟨_, rfl, by simp [h2]⟩
  | i + 2 => simp at hr
theorem two_parts_u {H : AH} {r q : Nat} {a : List Ty} {y : Ty} (h : H.get r = some (.row 22 1 [[.osl q 3 0 1], [.dsl 3 (a.map Ty.cs)]])) (h2 : H.get q = some (.row 24 3 [y.cs])) : PartsAt H (.osl r 1 0 2) [[y], a] := by
  refine ⟨[.osl q 3 0 1, .dsl 3 (a.map Ty.cs)], by simp [h], rfl, fun i r hr => ?_⟩
  match i with
  | 0 => simp at hr; subst hr; exact ⟨_, rfl, by simp [h2]⟩
  | 1 => simp at hr; subst hr; exact ⟨_, rfl, by simp⟩
  | i + 2 => simp at hr
/-- no candidate, no other step: no proof -/
theorem no_dv {l : List Ty} {g : Ty} (h1 : l ≠ [g]) (hc : ∀ c ∈ candsFrom l 0, cB c g = false) (ho : ∀ x y, g = Ty.o x y → ¬ Dv (l ++ [y]) x) (hu : ∀ y x, g = Ty.u y x → ¬ Dv (y :: l) x) : ¬ Dv l g := fun h => by
  have nc : ∀ c, CandOf l c → ¬ (Dv c.d c.x ∧ Dv c.rest g) := fun c k ⟨q1, q2⟩ => by
    have := hc c (cand_in k)
    unfold cB at this
    rw [dvB_yes q1, dvB_yes q2] at this
    cases this
  cases h with
  | ax => exact h1 rfl
  | or_ _ q => exact ho _ _ rfl q
  | ur _ q => exact hu _ _ rfl q
  | ol hd p q => exact nc _ (.o _ _ _ _ _ rfl hd) ⟨p, q⟩
  | ul hd p q => exact nc _ (.u _ _ _ _ _ rfl hd) ⟨p, q⟩
set_option maxHeartbeats 2000000 in
theorem rp_step {N : Nat} (hP : RPc N) : RPc (N + 1) := by
  intro l g H hl hg hN hK
  refine tri_wf fun hw => tri_wordhoardref_Proves ?_
  have hml : maxLen = 9223372036854775807 := by decide
  unfold S_wordhoardref_Proves
  by_cases h0 : l = []
  · subst h0
    unfold tE
    simp (disch := first | omega | simp) [Ty.av]
    exact rt_one hw (by repeat (first | with_reducible assumption | with_reducible exact AH.le.refl _ | with_reducible apply AH.le.up | (with_reducible refine AH.le.put hw ?_ ?_; · first | omega | (simp only [up_nx, put_nx, kill_nx]; done) | (simp only [up_nx, put_nx, kill_nx]; omega)) | (with_reducible refine AH.le.kill hw ?_ ?_; · first | omega | (simp only [up_nx, put_nx, kill_nx]; done) | (simp only [up_nx, put_nx, kill_nx]; omega)))) (by repeat (first | exact Cl.p _ | exact Cl.dsl _ _ | exact Cl.any | refine Cl.tup ?_ | refine Cl.agg ?_ | exact Clo.nil | refine Clo.cons ?_ ?_)) ⟨rfl, by rw [dvB_no (fun h => h.ne rfl)]; rfl⟩
  have hpos : 0 < l.length := List.length_pos_iff.2 h0
  have h0' : ¬ l.length = 0 := by omega
  have h0'' : ¬ (l.length : Int) = 0 := by omega
  unfold tE
  simp (disch := first | omega | simp) [Ty.av, Ty.cs_len, Ty.cs_take, h0']
  refine ca_pure (by kernel_rfl) (c_RLevel hl hg (by omega) _) ?_
  cases hlev : levelB l g with
  | false =>
    simp (disch := first | omega | simp) [bv]
    exact rt_one hw (by repeat (first | with_reducible assumption | with_reducible exact AH.le.refl _ | with_reducible apply AH.le.up | (with_reducible refine AH.le.put hw ?_ ?_; · first | omega | (simp only [up_nx, put_nx, kill_nx]; done) | (simp only [up_nx, put_nx, kill_nx]; omega)) | (with_reducible refine AH.le.kill hw ?_ ?_; · first | omega | (simp only [up_nx, put_nx, kill_nx]; done) | (simp only [up_nx, put_nx, kill_nx]; omega)))) (by repeat (first | exact Cl.p _ | exact Cl.dsl _ _ | exact Cl.any | refine Cl.tup ?_ | refine Cl.agg ?_ | exact Clo.nil | refine Clo.cons ?_ ?_)) ⟨rfl, by rw [dvB_no (fun h => by rw [h.lev] at hlev; cases hlev)]⟩
  | true =>
    by_cases h1 : l = [g]
    · simp (disch := first | omega | simp) [bv, h1, Ty.cs_len, Ty.cs_take]
      refine cav_pure (by kernel_rfl) (fun H3 _ => c_RSamePart g g H3) ?_
      rw [Ty.same_self]
      simp (disch := first | omega | simp) [bv]
      exact rt_one hw (by repeat (first | with_reducible assumption | with_reducible exact AH.le.refl _ | with_reducible apply AH.le.up | (with_reducible refine AH.le.put hw ?_ ?_; · first | omega | (simp only [up_nx, put_nx, kill_nx]; done) | (simp only [up_nx, put_nx, kill_nx]; omega)) | (with_reducible refine AH.le.kill hw ?_ ?_; · first | omega | (simp only [up_nx, put_nx, kill_nx]; done) | (simp only [up_nx, put_nx, kill_nx]; omega)))) (by repeat (first | exact Cl.p _ | exact Cl.dsl _ _ | exact Cl.any | refine Cl.tup ?_ | refine Cl.agg ?_ | exact Clo.nil | refine Clo.cons ?_ ?_)) ⟨rfl, by rw [dvB_yes (.ax g)]⟩
    have hsame : ∀ x, l = [x] → x.same g = false := fun x hx => by
      cases hq : x.same g with
      | false => rfl
      | true => exact absurd (by rw [hx, Ty.same_eq_of _ _ hq]) h1
    have hmain : ∀ M : AH, H.le M → H.nx ≤ M.nx → WF M → (∃ b3, b3 = H.nx ∧ M.get b3 = some (.box 24 g.cs)) → S_wordhoardref_Proves_C5 (tE l) (fun r H' => H' = H ∧ r = bv (dvB l g)) H (.ptr H.nx 0) M := by
      rintro M hle hn hwM ⟨_, rfl, hg3⟩
      have hb3 := (hwM _ _ hg3).1
      unfold S_wordhoardref_Proves_C5
      have hends : ∀ M' : AH, M.le M' → M.nx ≤ M'.nx → WF M' → (∀ x y, g = Ty.o x y → ¬ Dv (l ++ [y]) x) → (∀ y x, g = Ty.u y x → ¬ Dv (y :: l) x) → LoopA Try.prog 1 (S_wordhoardref_Proves_L4 (tE l) (fun r H' => H' = H ∧ r = bv (dvB l g)) H (.ptr H.nx 0)) [iv 0] M' := fun M' hle' hn' hwM' ho hu => by
        refine rp_outer hP hwM' (hle' _ _ hg3) hl hg (by omega) hK (fun c hc hcb M2 l2 n2 => ?_) fun hc => ?_
        · unfold cB at hcb
          rw [Bool.and_eq_true, dvB_iff, dvB_iff] at hcb
          refine rt_one hw (hle.trans (hle'.trans l2)) (by repeat (first | exact Cl.p _ | exact Cl.dsl _ _ | exact Cl.any | refine Cl.tup ?_ | refine Cl.agg ?_ | exact Clo.nil | refine Clo.cons ?_ ?_)) ⟨rfl, by rw [dvB_yes ((cand_of hl hc).in_ hl |>.dv _ hcb.1 hcb.2)]⟩
        · exact rt_one hw (hle.trans hle') (by repeat (first | exact Cl.p _ | exact Cl.dsl _ _ | exact Cl.any | refine Cl.tup ?_ | refine Cl.agg ?_ | exact Clo.nil | refine Clo.cons ?_ ?_)) ⟨rfl, by rw [dvB_no (no_dv h1 hc ho hu)]⟩
      rcases hg.cases with ⟨n, rfl, _⟩ | ⟨x, y, rfl, hx, hy⟩ | ⟨y, x, rfl, hy, hx⟩
      · unfold tE at hends ⊢
        simp (disch := first | omega | simp) [iv, Ty.cs_g0, hg3]
        exact hends _ (.up (.refl _)) (by simp only [up_nx]; omega) (hwM.up _) (fun x y e => absurd (congrArg Ty.kind e) (show ¬ (1 : Int) = 2 by decide)) (fun y x e => absurd (congrArg Ty.kind e) (show ¬ (1 : Int) = 3 by decide))
      · unfold tE at hends ⊢
        simp (disch := first | omega | simp) [iv, Ty.cs_len, Ty.cs_take, hg3, Ty.cs_o]
        have hsl := Ty.sl_o x y
        refine can_pure (by kernel_rfl) (fun H2 hle2 => c_join [l, [y]] (two_parts_o (q := M.nx + 9) (hle2 _ _ (by simp (disch := first | omega | simp) [put_get_ne])) (hle2 _ _ (by simp (disch := first | omega | simp) [put_get_ne]))) (by simp; omega) (by simp)) ?_
        simp (disch := first | omega | simp) [iv, Ty.cs_len, Ty.cs_take, hg3, Ty.cs_o]
        refine cav_pure (by kernel_rfl) (fun H3 _ => hP (l ++ [y]) x H3 (hl.app (.cons hy .nil)) hx (by rw [Ty.sls_app, Ty.sls_cons, Ty.sls_nil]; omega) (by rw [Ty.sls_app, Ty.sls_cons, Ty.sls_nil, List.length_append]; simp only [List.length_singleton]; omega)) ?_
        cases hd : dvB (l ++ [y]) x with
        | true =>
          simp (disch := first | omega | simp) [bv]
          exact rt_one hw (by repeat (first | with_reducible assumption | with_reducible exact AH.le.refl _ | with_reducible apply AH.le.up | (with_reducible refine AH.le.put hw ?_ ?_; · first | omega | (simp only [up_nx, put_nx, kill_nx]; done) | (simp only [up_nx, put_nx, kill_nx]; omega)) | (with_reducible refine AH.le.kill hw ?_ ?_; · first | omega | (simp only [up_nx, put_nx, kill_nx]; done) | (simp only [up_nx, put_nx, kill_nx]; omega)))) (by repeat (first | exact Cl.p _ | exact Cl.dsl _ _ | exact Cl.any | refine Cl.tup ?_ | refine Cl.agg ?_ | exact Clo.nil | refine Clo.cons ?_ ?_)) ⟨rfl, by rw [dvB_yes (.or_ h0 (dvB_iff.1 hd))]⟩
        | false =>
          simp (disch := first | omega | simp) [bv, iv, hg3, Ty.cs_o]
          refine hends _ (AH.le.put hwM (by omega) (AH.le.put hwM (by omega) (AH.le.up (.refl _)))) (by simp only [put_nx, up_nx]; omega) (((hwM.up 38).put (by simp only [up_nx]; omega) (row_clo (fun e he => by simp at he; subst he; exact Ty.cl _ _))).put (by simp only [put_nx, up_nx]; omega) (row_clo (fun e he => by simp at he; rcases he with rfl | rfl <;> first | exact Clo.one (Cl.dsl _ _) | exact Clo.one (Cl.osl (by simp only [put_nx, up_nx]; omega))))) (fun x1 y1 e => ?_) (fun y1 x1 e => ?_)
          · obtain ⟨e1, e2⟩ := Ty.o_inj e
            subst e1; subst e2
            exact fun h => by rw [dvB_yes h] at hd; cases hd
          · exact absurd e Ty.ne_ou
      · unfold tE at hends ⊢
        simp (disch := first | omega | simp) [iv, Ty.cs_len, Ty.cs_take, hg3, Ty.cs_u]
        have hsl := Ty.sl_u y x
        refine can_pure (by kernel_rfl) (fun H2 hle2 => c_join [[y], l] (two_parts_u (q := M.nx + 27) (hle2 _ _ (by simp (disch := first | omega | simp) [put_get_ne])) (hle2 _ _ (by simp (disch := first | omega | simp) [put_get_ne]))) (by simp; omega) (by simp)) ?_
        simp (disch := first | omega | simp) [iv, Ty.cs_len, Ty.cs_take, hg3, Ty.cs_u]
        refine cav_pure (by kernel_rfl) (fun H3 _ => hP (y :: l) x H3 (.cons hy hl) hx (by rw [Ty.sls_cons]; omega) (by rw [Ty.sls_cons, List.length_cons]; omega)) ?_
        cases hd : dvB (y :: l) x with
        | true =>
          simp (disch := first | omega | simp) [bv]
          exact rt_one hw (by repeat (first | with_reducible assumption | with_reducible exact AH.le.refl _ | with_reducible apply AH.le.up | (with_reducible refine AH.le.put hw ?_ ?_; · first | omega | (simp only [up_nx, put_nx, kill_nx]; done) | (simp only [up_nx, put_nx, kill_nx]; omega)) | (with_reducible refine AH.le.kill hw ?_ ?_; · first | omega | (simp only [up_nx, put_nx, kill_nx]; done) | (simp only [up_nx, put_nx, kill_nx]; omega)))) (by repeat (first | exact Cl.p _ | exact Cl.dsl _ _ | exact Cl.any | refine Cl.tup ?_ | refine Cl.agg ?_ | exact Clo.nil | refine Clo.cons ?_ ?_)) ⟨rfl, by rw [dvB_yes (.ur h0 (dvB_iff.1 hd))]⟩
        | false =>
          simp (disch := first | omega | simp) [bv]
          refine hends _ (AH.le.put hwM (by omega) (AH.le.put hwM (by omega) (AH.le.up (.refl _)))) (by simp only [put_nx, up_nx]; omega) (((hwM.up 38).put (by simp only [up_nx]; omega) (row_clo (fun e he => by simp at he; subst he; exact Ty.cl _ _))).put (by simp only [put_nx, up_nx]; omega) (row_clo (fun e he => by simp at he; rcases he with rfl | rfl <;> first | exact Clo.one (Cl.dsl _ _) | exact Clo.one (Cl.osl (by simp only [put_nx, up_nx]; omega))))) (fun x1 y1 e => ?_) (fun y1 x1 e => ?_)
          · exact absurd e.symm Ty.ne_ou
          · obtain ⟨e1, e2⟩ := Ty.u_inj e
            subst e1; subst e2
            exact fun h => by rw [dvB_yes h] at hd; cases hd
    by_cases h2 : l.length = 1
    · obtain ⟨x, rfl⟩ : ∃ x, l = [x] := by
        match l, h2 with
        | [x], _ => exact ⟨x, rfl⟩
      simp (disch := first | omega | simp) [bv, Ty.cs_len, Ty.cs_take]
      refine cav_pure (by kernel_rfl) (fun H3 _ => c_RSamePart x g H3) ?_
      rw [hsame x rfl]
      simp (disch := first | omega | simp) [bv]
      have := hmain ((H.up 2).put H.nx (.box 24 g.cs)) (by repeat (first | with_reducible assumption | with_reducible exact AH.le.refl _ | with_reducible apply AH.le.up | (with_reducible refine AH.le.put hw ?_ ?_; · first | omega | (simp only [up_nx, put_nx, kill_nx]; done) | (simp only [up_nx, put_nx, kill_nx]; omega)) | (with_reducible refine AH.le.kill hw ?_ ?_; · first | omega | (simp only [up_nx, put_nx, kill_nx]; done) | (simp only [up_nx, put_nx, kill_nx]; omega)))) (by simp only [put_nx, up_nx]; omega) ((hw.up 2).box (by simp only [up_nx]; omega) (Ty.cl g _)) ⟨_, rfl, put_get _ _⟩
      exact this
    · have h2' : ¬ (l.length : Int) = 1 := by omega
      simp (disch := first | omega | simp) [bv, h2']
      have := hmain ((H.up 2).put H.nx (.box 24 g.cs)) (by repeat (first | with_reducible assumption | with_reducible exact AH.le.refl _ | with_reducible apply AH.le.up | (with_reducible refine AH.le.put hw ?_ ?_; · first | omega | (simp only [up_nx, put_nx, kill_nx]; done) | (simp only [up_nx, put_nx, kill_nx]; omega)) | (with_reducible refine AH.le.kill hw ?_ ?_; · first | omega | (simp only [up_nx, put_nx, kill_nx]; done) | (simp only [up_nx, put_nx, kill_nx]; omega)))) (by simp only [put_nx, up_nx]; omega) ((hw.up 2).box (by simp only [up_nx]; omega) (Ty.cl g _)) ⟨_, rfl, put_get _ _⟩
      exact this
theorem c_RProvesN : ∀ N, RPc N
  | 0 => fun _l _g _H _ _ hN => absurd hN (Nat.not_lt_zero _)
  | N + 1 => rp_step (c_RProvesN N)
theorem c_RProves {l : List Ty} {g : Ty} (hl : Goods l) (hg : Good g) (hK : l.length + (Ty.sls l + g.sl) ≤ 16) : PF Try.prog 12 [tE l, g.av] (bv (dvB l g)) := fun H => c_RProvesN _ l g H hl hg (Nat.lt_succ_self _) hK
end Go.Proofs.Ytpmnlikgldacaaa
