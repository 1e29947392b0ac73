/- Texts that the proof rests on, part 18: what each holds stands at its head. -/
import Derived.Test.YtgkkilbeingleaaMt17

/- The constant machine: its cost is 3. -/
namespace Go.Proofs.Ytgkkilbeingleaa
open Go.RowKit Go.Maps
theorem c_sp1 (x : Int) : PF Try.prog 55 [iv x] (bv (!(decide (1 ≤ x) && decide (x ≤ 60)))) := fun H => tri_wf fun hw => tri_machine_spoken_fn1 (by
  unfold S_machine_spoken_fn1
  by_cases h1 : x < 1
  · simp (disch := first | omega | simp) [iv, h1]
    exact rt_refl ⟨rfl, by have : ¬ 1 ≤ x := by omega
                           simp [bv, this]⟩ (Nat.le_refl _)
  · by_cases h2 : 60 < x
    · simp (disch := first | omega | simp) [iv, h1, h2]
      exact rt_refl ⟨rfl, by have : ¬ x ≤ 60 := by omega
                             simp [bv, this]⟩ (Nat.le_refl _)
    · simp (disch := first | omega | simp) [iv, h1, h2]
      exact rt_refl ⟨rfl, by have : x ≤ 60 := by omega
                             have : 1 ≤ x := by omega
                             simp [bv, *]⟩ (Nat.le_refl _))
theorem c_spokenIx (l : List Int) {H : AH} : Tri Try.prog 57 [.dsl 1 (nE l), .fn (.func 55) [] []] H (fun r H' => H' = H ∧ ∃ i : Int, r = iv i ∧ ((i < 0 ∧ symB l = true) ∨ (0 ≤ i ∧ symB l = false))) := tri_wf fun hw => tri_len 0 rfl fun hl _ => tri_slices_IndexFunc_s_int_int (by
  have hml : maxLen = 9223372036854775807 := by decide
  rw [nE_len] at hl
  unfold S_slices_IndexFunc_s_int_int
  simp (disch := first | omega | simp) []
  refine loop_st (fun i : Nat => [iv i]) (fun i H' => H = H' ∧ i ≤ l.length ∧ symB l = symB (l.drop i)) (fun i => l.length - i) 0 (.refl (Nat.le_refl _)) ⟨rfl, Nat.zero_le _, by rw [List.drop_zero]⟩ ?_
  rintro i _ _ ⟨rfl, hi, hc⟩ k hk
  unfold S_slices_IndexFunc_s_int_int_L1
  by_cases hil : i < l.length
  · obtain ⟨x, hx⟩ : ∃ x, l[i]? = some x := ⟨_, List.getElem?_eq_getElem hil⟩
    have hil' : (i : Int) < (l.length : Int) := by omega
    have hxe := nE_get hx
    have hiv := ivn (i := i) (by omega)
    unfold symB at hc
    rw [all_at hx] at hc
    unfold iv at hxe
    simp (disch := first | omega | simp) [iv, hil', hxe]
    refine ca_pure (by kernel_rfl) (c_sp1 x _) ?_
    cases q : (decide (1 ≤ x) && decide (x ≤ 60)) with
    | true =>
      rw [q, Bool.true_and] at hc
      simp (disch := first | omega | simp) [bv, hiv]
      exact hk (i + 1) _ _ _ (.refl (Nat.le_refl _)) ⟨rfl, hil, hc⟩ (by omega)
    | false =>
      rw [q, Bool.false_and] at hc
      simp (disch := first | omega | simp) [bv]
      exact rt_refl ⟨rfl, i, rfl, .inr ⟨by omega, hc⟩⟩ (Nat.le_refl _)
  · have hil' : ¬ (i : Int) < (l.length : Int) := by omega
    simp (disch := first | omega | simp) [iv, hil']
    exact rt_refl ⟨rfl, -1, rfl, .inl ⟨by omega, by rw [hc, List.drop_eq_nil_iff.2 (by omega)]; rfl⟩⟩ (Nat.le_refl _))
theorem c_spoken (l : List Int) : PF Try.prog 35 [.dsl 1 (nE l)] (bv (symB l)) := fun H => tri_wf fun hw => tri_machine_spoken (by
  unfold S_machine_spoken
  refine ca_of (Q := fun r H' => H' = H ∧ r = bv (!symB l)) (by kernel_rfl) (tri_slices_ContainsFunc_s_int_int (by
    unfold S_slices_ContainsFunc_s_int_int
    refine ca_of (by kernel_rfl) (c_spokenIx l) ?_
    rintro _ _ ⟨rfl, i, rfl, h | h⟩
    · have : ¬ 0 ≤ i := by omega
      simp (disch := first | omega | simp) [iv, this]
      exact rt_refl ⟨rfl, by rw [h.2]; rfl⟩ (Nat.le_refl _)
    · have : 0 ≤ i := by omega
      simp (disch := first | omega | simp) [iv, this]
      exact rt_refl ⟨rfl, by rw [h.2]; rfl⟩ (Nat.le_refl _))) ?_
  rintro _ _ ⟨rfl, rfl⟩
  simp (disch := first | omega | simp) [bv]
  exact rt_refl ⟨rfl, by simp⟩ (Nat.le_refl _))
def from1 : List (List AV) := [[.dsl 5 (oneM.arcs.map Arc.cs)], [.dsl 5 []]]
set_option maxHeartbeats 1000000 in
theorem c_from1 : PF Try.prog 36 [oneM.av] (.dsl 1 from1) := fun H => tri_wf fun hw => tri_machine_from (by
  have hml : maxLen = 9223372036854775807 := by decide
  unfold S_machine_from Mac.av oneM Mac.cs
  simp (disch := first | omega | simp) [iv, Arc.cs, Fin_.cs, put_get_ne]
  refine ⟨by omega, ?_⟩
  obtain ⟨R, hR⟩ : ∃ R, R = H.nx + 2 + 2 := ⟨_, rfl⟩
  rw [← hR]
  generalize hMe : AH.put _ _ _ = M
  have hMl : H.le M := by rw [← hMe]; exact (by repeat (first | with_reducible assumption | with_reducible exact AH.le.refl _ | with_reducible apply AH.le.up | (with_reducible refine AH.le.put hw ?_ ?_; · first | omega | (simp only [up_nx, put_nx, kill_nx]; done) | (simp only [up_nx, put_nx, kill_nx]; omega)) | (with_reducible refine AH.le.kill hw ?_ ?_; · first | omega | (simp only [up_nx, put_nx, kill_nx]; done) | (simp only [up_nx, put_nx, kill_nx]; omega))))
  have hMn : M.nx = H.nx + 6 := by rw [← hMe]; rfl
  have hMR : M.get R = some (.row 22 1 [[.p (.slice none 0 0)], [.p (.slice none 0 0)]]) := by rw [← hMe, put_get]
  clear hMe
  refine loop_wf (fun i : Nat => [iv i]) (fun i H' => H.le H' ∧ M.nx ≤ H'.nx ∧ ((i = 0 ∧ H'.get R = some (.row 22 1 [[.p (.slice none 0 0)], [.p (.slice none 0 0)]])) ∨ (i = 1 ∧ ∃ r, H.nx ≤ r ∧ r ≠ R ∧ H'.get R = some (.row 22 1 [[.osl r 5 0 1], [.p (.slice none 0 0)]]) ∧ H'.get r = some (.row 53 5 (oneM.arcs.map Arc.cs))))) (fun i => 1 - i) 0 (.refl (Nat.le_refl _)) ⟨hMl, Nat.le_refl _, .inl ⟨rfl, hMR⟩⟩ ?_
  rintro i H1 hn1 hw1 ⟨hle, hnx, ⟨rfl, hr⟩ | ⟨rfl, r, h1, h2, h3, h4⟩⟩ k hk
  · unfold S_machine_from_L1
    simp (disch := first | omega | simp) [iv]
    refine ⟨[], ?_⟩
    have hRl : R < H1.nx := by omega
    simp (disch := first | omega | simp) [put_get_ne, hr]
    refine wro_nil (elF_whole (t := 53) (es := oneM.arcs.map Arc.cs) rfl (by simp (disch := first | omega | simp); rfl) rfl) (by simp [oneM]; omega) (by simp [oneM]) ?_
    have hz : IntKind.i64.wrap ((0 : Int) + 1) = 1 := by decide
    simp (disch := first | omega | simp) [put_get_ne, hr]
    refine hk 1 _ _ _ (.refl (by first | omega | (simp only [up_nx, put_nx]; done) | (simp only [up_nx, put_nx]; omega))) ⟨?_, (by first | omega | (simp only [up_nx, put_nx]; done) | (simp only [up_nx, put_nx]; omega)), .inr ⟨rfl, H1.nx + 4 + 10, by omega, by omega, put_get _ _, by simp (disch := first | omega | simp) [put_get_ne]⟩⟩ (by omega)
    exact AH.le.put hw (by omega) (AH.le.put hw (by omega) (AH.le.put hw (by omega) (AH.le.up (AH.le.put hw (by omega) (AH.le.put hw (by omega) (AH.le.up hle))))))
  · unfold S_machine_from_L1
    simp (disch := first | omega | simp) [iv]
    have dA : DtR (oneM.arcs.map Arc.cs) := dt_arcs _
    refine rt_st (.freeze h4 dA) (by first | omega | (simp only [up_nx, put_nx, kill_nx]; done) | (simp only [up_nx, put_nx, kill_nx]; omega)) ?_
    have h3' : (H1.put r (.frz 5 (oneM.arcs.map Arc.cs))).get R = some (.row 22 1 [[.osl r 5 0 1], [.p (.slice none 0 0)]]) := by rw [AH.get_put_ne (Ne.symm h2)]; exact h3
    refine rt_st (.resub (es' := from1) h3' rfl ?_) (by first | omega | (simp only [put_nx]; done) | (simp only [put_nx]; omega)) ?_
    · rintro i e e' he he'
      match i with
      | 0 => injection he with he; injection he' with he'; subst he he'; exact .cons (.frz (es := oneM.arcs.map Arc.cs) (off := 0) (n := 1) (put_get _ _) (Nat.le_refl _)) .nil
      | 1 => injection he with he; injection he' with he'; subst he he'; exact .cons (.nil _ _ (Nat.zero_le _)) .nil
      | i + 2 => cases he
    refine rt_st (.freeze (put_get _ _) ?_) (by first | omega | (simp only [put_nx]; done) | (simp only [put_nx]; omega)) ?_
    · intro e he x hx
      simp only [from1, List.mem_cons, List.not_mem_nil, or_false] at he
      rcases he with rfl | rfl <;> (simp only [List.mem_singleton] at hx; subst hx; exact Dt.dsl _ _)
    refine rt_sub (v' := .dsl 1 from1) hw (by repeat (first | with_reducible assumption | with_reducible exact AH.le.refl _ | with_reducible apply AH.le.up | (with_reducible refine AH.le.put hw ?_ ?_; · first | omega | (simp only [up_nx, put_nx, kill_nx]; done) | (simp only [up_nx, put_nx, kill_nx]; omega)) | (with_reducible refine AH.le.kill hw ?_ ?_; · first | omega | (simp only [up_nx, put_nx, kill_nx]; done) | (simp only [up_nx, put_nx, kill_nx]; omega)))) (by first | omega | (simp only [put_nx]; done) | (simp only [put_nx]; omega)) ?_ (by repeat (first | exact Cl.p _ | exact Cl.dsl _ _ | exact Cl.any | refine Cl.tup ?_ | refine Cl.agg ?_ | exact Clo.nil | refine Clo.cons ?_ ?_)) ⟨rfl, rfl⟩
    exact .frz (es := from1) (off := 0) (n := 2) (put_get _ _) (Nat.le_refl _))
/-- a place as a key -/
def pv (a b c : Int) : Value := .agg #[.int .i64 a, .int .i64 b, .int .i64 c]
theorem laid : laidOutB Try.prog = true := by kernel_rfl
theorem lawPl : Keyed Try.prog 62 := Keyed.of_law (deep_law_laid laid (m := 3) (by omega) (of_decide_eq_true (by kernel_rfl)) (by kernel_rfl) (by kernel_rfl))
theorem fuel3 : ∃ d, Try.prog.types.size + 1 = d + 3 := ⟨Try.prog.types.size - 2, by
  have : 3 ≤ Try.prog.types.size := of_decide_eq_true (by kernel_rfl)
  omega⟩
theorem cellsInt : Try.prog.cellsOf 3 = 1 := by kernel_rfl
theorem cellsPl : Try.prog.cellsOf 62 = 3 := by kernel_rfl
theorem typePl : Try.prog.keyType 62 = true := by kernel_rfl
theorem keyPl {a b c : Int} (h1 : I64 a) (h2 : I64 b) (h3 : I64 c) : (keyOf Try.prog 62 (pv a b c)).isSome = true := by
  obtain ⟨d, hd⟩ := fuel3
  have w1 := h1.wf; have w2 := h2.wf; have w3 := h3.wf
  unfold keyOf pv
  rw [Try.underlying62, hd]
  simp [typePl, Value.formed, Value.cells, Program.keyLits, Try.underlying62, Try.underlying3, cellsPl, cellsInt, w1, w2, w3]
theorem sm {z : Int} (h : 0 ≤ z) (h2 : z ≤ 100) : I64 z := by unfold I64; omega
noncomputable def best0 : Value → Option AV := putA (fun _ => none) (pv 0 0 0) (iv 0)
noncomputable def best1 : Value → Option AV := putA best0 (pv 1 1 1) (iv 3)
theorem best00 : best0 (pv 0 0 0) = some (iv 0) := putA_same _ _ _
theorem best01 : best0 (pv 1 1 1) = none := by unfold best0; rw [putA_other _ _ (by unfold pv; simp)]
theorem best11 : best1 (pv 1 1 1) = some (iv 3) := putA_same _ _ _
set_option maxHeartbeats 1000000 in
theorem c_Cost1 : PF Try.prog 11 [oneM.av, .dsl 1 (nE [1]), .dsl 1 (nE [2])] (.tup [iv 3, bv true, iv 0]) := fun H => tri_wf fun hw => tri_machine_Cost (by
  have hml : maxLen = 9223372036854775807 := by decide
  have hchk : oneM.chk = 0 := Mac.chk_ok.2 (by
    refine ⟨by decide, by decide, by decide, by decide, fun a ha => ?_, fun f hf => ?_, by decide⟩
    · have := List.mem_singleton.1 (show a ∈ [⟨0, 1, 1, 2, 3⟩] from ha); subst this; decide
    · have := List.mem_singleton.1 (show f ∈ [⟨1, 0⟩] from hf); subst this; decide)
  unfold S_machine_Cost
  have hav : oneM.av = .agg [.p (.int .i64 2), .dsl 5 (oneM.arcs.map Arc.cs), .dsl 2 (oneM.fins.map Fin_.cs)] := rfl
  rw [hav]
  simp (disch := first | omega | simp)
  refine ca_pure (by kernel_rfl) (c_Check oneM _) ?_
  rw [hchk]
  simp (disch := first | omega | simp) [iv]
  unfold S_machine_Cost_C10
  simp (disch := first | omega | simp)
  refine ca_pure (by kernel_rfl) (c_spoken [1] _) ?_
  have hs1 : symB [1] = true := by decide
  have hs2 : symB [2] = true := by decide
  rw [hs1]
  simp (disch := first | omega | simp) [bv]
  refine ca_pure (by kernel_rfl) (c_spoken [2] _) ?_
  rw [hs2]
  simp (disch := first | omega | simp) [bv]
  refine ca_pure (by kernel_rfl) (c_from1 _) ?_
  have hk0 : (keyOf Try.prog 62 (pv 0 0 0)).isSome = true := keyPl (sm (by decide) (by decide)) (sm (by decide) (by decide)) (sm (by decide) (by decide))
  have hk1 : (keyOf Try.prog 62 (pv 1 1 1)).isSome = true := keyPl (sm (by decide) (by decide)) (sm (by decide) (by decide)) (sm (by decide) (by decide))
  unfold pv at hk0 hk1
  simp (disch := first | omega | simp) [lawPl, hk0]
  refine ⟨by omega, ?_⟩
  have b00 := best00
  have b01 := best01
  have b11 := best11
  unfold pv at b00 b01 b11
  unfold iv at b00 b11
  obtain ⟨mp, hmp⟩ : ∃ mp, mp = H.nx + 4 := ⟨_, rfl⟩
  obtain ⟨r0, hr0⟩ : ∃ r0, r0 = H.nx + 4 + 5 + 1 := ⟨_, rfl⟩
  rw [← hr0, ← hmp]
  generalize hMe : AH.put _ _ _ = M
  have hMl : H.le M := by rw [← hMe]; exact (by repeat (first | with_reducible assumption | with_reducible exact AH.le.refl _ | with_reducible apply AH.le.up | (with_reducible refine AH.le.put hw ?_ ?_; · first | omega | (simp only [up_nx, put_nx, kill_nx]; done) | (simp only [up_nx, put_nx, kill_nx]; omega)) | (with_reducible refine AH.le.kill hw ?_ ?_; · first | omega | (simp only [up_nx, put_nx, kill_nx]; done) | (simp only [up_nx, put_nx, kill_nx]; omega))))
  have hMn : M.nx = H.nx + 12 := by rw [← hMe]; rfl
  have hM0 : M.get H.nx = some (.box 25 oneM.cs) := by rw [← hMe]; simp (disch := first | omega | simp) [put_get_ne]; rfl
  have hMm : M.get mp = some (.map 62 1 best0) := by rw [← hMe]; simp (disch := first | omega | simp) [put_get_ne]; rfl
  have hMr : M.get r0 = some (.row 62 3 [[iv 0, iv 0, iv 0]]) := by rw [← hMe, put_get]; rfl
  clear hMe
  have hz : IntKind.i64.wrap ((0 : Int) + 1) = 1 := by decide
  have h33 : IntKind.i64.wrap ((0 : Int) + 3) = 3 := by decide
  have h30 : IntKind.i64.wrap ((3 : Int) + 0) = 3 := by decide
  refine loop_wf (fun x : Nat × AV => [x.2]) (fun x H' => H.le H' ∧ M.nx ≤ H'.nx ∧ H'.get H.nx = some (.box 25 oneM.cs) ∧
    ((x.1 = 0 ∧ x.2 = .osl r0 3 0 1 ∧ H'.get r0 = some (.row 62 3 [[iv 0, iv 0, iv 0]]) ∧ H'.get mp = some (.map 62 1 best0)) ∨
     (x.1 = 1 ∧ ∃ r, mp < r ∧ x.2 = .osl r 3 0 1 ∧ H'.get r = some (.row 62 3 [[iv 1, iv 1, iv 1]]) ∧ H'.get mp = some (.map 62 2 best1)) ∨
     (x.1 = 2 ∧ ∃ r, mp < r ∧ x.2 = .osl r 3 1 0 ∧ H'.get mp = some (.map 62 2 best1)))) (fun x => 2 - x.1) (0, .osl r0 3 0 1) (.refl (Nat.le_refl _)) ⟨hMl, Nat.le_refl _, hM0, .inl ⟨rfl, rfl, hMr, hMm⟩⟩ ?_
  rintro ⟨ph, v⟩ H1 hn1 hw1 ⟨hle, hnx, hb, h | h | h⟩ k hk
  · obtain ⟨rfl, rfl, hr, hm⟩ := h
    dsimp only at hr hm hk ⊢
    unfold S_machine_Cost_L9
    unfold iv at hr
    have hf : from1 = [[.dsl 5 (oneM.arcs.map Arc.cs)], [.dsl 5 []]] := rfl
    have ha : oneM.arcs.map Arc.cs = [[.p (.int .i64 0), .p (.int .i64 1), .p (.int .i64 1), .p (.int .i64 2), .p (.int .i64 3)]] := rfl
    simp (disch := first | omega | simp) [hr, hf, ha]
    generalize hM2e : AH.put _ _ _ = M2
    have hM2n : M2.nx = H1.nx + 5 := by rw [← hM2e]; rfl
    have hM2k : ∀ j, j < H1.nx → M2.get j = H1.get j := fun j hj => by rw [← hM2e, AH.get_put_ne (by omega), AH.get_put_ne (by omega), up_get]
    have hM2l : H.le M2 := fun j o ho => by rw [hM2k j (by have := (hw _ _ ho).1; omega)]; exact hle _ _ ho
    have hM2p : M2.get (H1.nx + 3) = some (.box 62 [.p (.int .i64 0), .p (.int .i64 0), .p (.int .i64 0)]) := by rw [← hM2e, put_get]
    clear hM2e
    have hr0l := (hw1 _ _ hr).1
    have hmpl := (hw1 _ _ hm).1
    refine loop_wf (fun x : Nat × AV => [x.2, iv (x.1 : Int)]) (fun x H' => H.le H' ∧ M2.nx ≤ H'.nx ∧ H'.get H.nx = some (.box 25 oneM.cs) ∧ ((x.1 = 0 ∧ x.2 = .osl r0 3 1 0 ∧ (∀ j, j < M2.nx → H'.get j = M2.get j)) ∨ (x.1 = 1 ∧ ∃ r, mp < r ∧ x.2 = .osl r 3 0 1 ∧ H'.get r = some (.row 62 3 [[iv 1, iv 1, iv 1]]) ∧ H'.get mp = some (.map 62 2 best1)))) (fun x => 1 - x.1) (0, .osl r0 3 1 0) (.refl (Nat.le_refl _)) ⟨hM2l, Nat.le_refl _, by rw [hM2k _ (by omega)]; exact hb, .inl ⟨rfl, rfl, fun _ _ => rfl⟩⟩ ?_
    rintro ⟨i, v⟩ H3 hn3 hw3 ⟨hle3, hnx3, hb3, h | h⟩ k3 hk3
    · obtain ⟨rfl, rfl, hsm⟩ := h
      dsimp only at hk3 ⊢
      have q1 : H3.get r0 = _ := (hsm r0 (by omega)).trans ((hM2k r0 hr0l).trans hr)
      have q2 : H3.get mp = _ := (hsm mp (by omega)).trans ((hM2k mp hmpl).trans hm)
      have q3 : H3.get (H1.nx + 3) = _ := (hsm _ (by omega)).trans hM2p
      unfold S_machine_Cost_L6
      simp (disch := first | omega | simp) [iv]
      unfold S_machine_Cost_C5
      simp (disch := first | omega | simp) [put_get_ne, q3]
      obtain ⟨A, hA⟩ : ∃ A, A = H3.nx + 2 := ⟨_, rfl⟩
      obtain ⟨B, hB⟩ : ∃ B, B = H3.nx + 4 + 7 := ⟨_, rfl⟩
      obtain ⟨C, hC⟩ : ∃ C, C = H1.nx + 3 := ⟨_, rfl⟩
      rw [← hA, ← hB, ← hC]
      rw [← hC] at q3
      generalize hM4e : AH.put _ _ _ = M4
      have hM4n : M4.nx = H3.nx + 13 := by rw [← hM4e]; rfl
      have hM4k : ∀ j, j < H3.nx → M4.get j = H3.get j := fun j hj => by rw [← hM4e, AH.get_put_ne (by omega), AH.get_put_ne (by omega), up_get, AH.get_put_ne (by omega), AH.get_put_ne (by omega), up_get]
      have hM4l : H.le M4 := fun j o ho => by rw [hM4k j (by have := (hw _ _ ho).1; omega)]; exact hle3 _ _ ho
      have gA : M4.get A = some (.box 53 [.p (.int .i64 0), .p (.int .i64 1), .p (.int .i64 1), .p (.int .i64 2), .p (.int .i64 3)]) := by rw [← hM4e]; simp (disch := first | omega | simp) [put_get_ne, hA, hB]
      have gB : M4.get B = some (.box 62 [.p (.int .i64 1), .p (.int .i64 0), .p (.int .i64 0)]) := by rw [← hM4e, put_get]
      clear hM4e
      have gC := (hM4k C (by omega)).trans q3
      have gr := (hM4k r0 (by omega)).trans q1
      have gm := (hM4k mp (by omega)).trans q2
      have gH := (hM4k H.nx (by omega)).trans hb3
      have hAB : A ≠ B := by omega
      have hCB : C ≠ B := by omega
      have hrB : r0 ≠ B := by omega
      have hmB : mp ≠ B := by omega
      have hHB : H.nx ≠ B := by omega
      have e1 : nE [1] = [[.p (.int .i64 1)]] := rfl
      have e2 : nE [2] = [[.p (.int .i64 2)]] := rfl
      refine cut_st (fun _ : Unit => []) (fun _ H' => ((M4.up 5).put B (.box 62 [.p (.int .i64 1), .p (.int .i64 1), .p (.int .i64 0)])) = H') (fun kk hkk => ?_) ?_
      · simp (disch := first | omega | simp) [gA]
        unfold S_machine_Cost_C4
        simp (disch := first | omega | simp) [gA, gB, gC, e1]
        exact hkk () _ _ _ (.refl (by simp only [put_nx, up_nx]; omega)) rfl
      rintro _ _ _ rfl
      unfold S_machine_Cost_K3
      have fC := fun z : AO => (AH.get_put_ne (H := M4.up 5) (o := z) hCB).trans gC
      have fA := fun z : AO => (AH.get_put_ne (H := M4.up 5) (o := z) hAB).trans gA
      generalize hM5e : AH.put _ _ _ = M5
      have hM5n : M5.nx = M4.nx + 5 := by rw [← hM5e]; rfl
      have kA : M5.get A = some (.box 53 [.p (.int .i64 0), .p (.int .i64 1), .p (.int .i64 1), .p (.int .i64 2), .p (.int .i64 3)]) := by rw [← hM5e]; exact fA _
      have kB : M5.get B = some (.box 62 [.p (.int .i64 1), .p (.int .i64 1), .p (.int .i64 0)]) := by rw [← hM5e, put_get]
      have kC : M5.get C = some (.box 62 [.p (.int .i64 0), .p (.int .i64 0), .p (.int .i64 0)]) := by rw [← hM5e]; exact fC _
      have hM5l : H.le M5 := by rw [← hM5e]; exact AH.le.put hw (by omega) (AH.le.up hM4l)
      have hkr : M5.get r0 = some (.row 62 3 [[.p (.int .i64 0), .p (.int .i64 0), .p (.int .i64 0)]]) := by rw [← hM5e, AH.get_put_ne hrB]; exact gr
      have hkm : M5.get mp = some (.map 62 1 best0) := by rw [← hM5e, AH.get_put_ne hmB]; exact gm
      have hkH : M5.get H.nx = some (.box 25 oneM.cs) := by rw [← hM5e, AH.get_put_ne hHB]; exact gH
      clear hM5e fC fA
      refine cut_st (fun _ : Unit => []) (fun _ H' => ((M5.up 5).put B (.box 62 [.p (.int .i64 1), .p (.int .i64 1), .p (.int .i64 1)])) = H') (fun kk hkk => ?_) ?_
      · simp (disch := first | omega | simp) [kA]
        unfold S_machine_Cost_C2
        simp (disch := first | omega | simp) [kA, kB, kC, e2]
        exact hkk () _ _ _ (.refl (by simp only [put_nx, up_nx]; omega)) rfl
      rintro _ _ _ rfl
      unfold S_machine_Cost_K1
      generalize hM6e : AH.put _ _ _ = M6
      have hM6n : M6.nx = M5.nx + 5 := by rw [← hM6e]; rfl
      have lA : M6.get A = some (.box 53 [.p (.int .i64 0), .p (.int .i64 1), .p (.int .i64 1), .p (.int .i64 2), .p (.int .i64 3)]) := by rw [← hM6e, AH.get_put_ne hAB]; exact kA
      have lB : M6.get B = some (.box 62 [.p (.int .i64 1), .p (.int .i64 1), .p (.int .i64 1)]) := by rw [← hM6e, put_get]
      have lC : M6.get C = some (.box 62 [.p (.int .i64 0), .p (.int .i64 0), .p (.int .i64 0)]) := by rw [← hM6e, AH.get_put_ne hCB]; exact kC
      have hM6l : H.le M6 := by rw [← hM6e]; exact AH.le.put hw (by omega) (AH.le.up hM5l)
      have lr : M6.get r0 = some (.row 62 3 [[.p (.int .i64 0), .p (.int .i64 0), .p (.int .i64 0)]]) := by rw [← hM6e, AH.get_put_ne hrB]; exact hkr
      have lm : M6.get mp = some (.map 62 1 best0) := by rw [← hM6e, AH.get_put_ne hmB]; exact hkm
      have lH : M6.get H.nx = some (.box 25 oneM.cs) := by rw [← hM6e, AH.get_put_ne hHB]; exact hkH
      clear hM6e
      have hrm : r0 ≠ mp := by omega
      have hBm : B ≠ mp := by omega
      simp (disch := first | omega | simp) [lA, lB, lC, lm, lawPl, hk0, hk1, b00, b01, put_get_ne, lr]
      refine ⟨by omega, by omega, ?_⟩
      have hrH : H.nx ≠ r0 := by omega
      have hmH : H.nx ≠ mp := by omega
      refine hk3 (1, .osl (M6.nx + 4 + 3) 3 0 1) _ _ _ (.refl (by first | omega | (simp only [up_nx, put_nx, kill_nx]; done) | (simp only [up_nx, put_nx, kill_nx]; omega))) ⟨AH.le.put hw (by omega) (AH.le.kill hw (by omega) (AH.le.put hw (by omega) (AH.le.up (AH.le.put hw (by omega) (AH.le.up hM6l))))), (by first | omega | (simp only [up_nx, put_nx, kill_nx]; done) | (simp only [up_nx, put_nx, kill_nx]; omega)), ?_, .inr ⟨rfl, M6.nx + 4 + 3, by omega, rfl, put_get _ _, ?_⟩⟩ (by dsimp only; omega)
      · rw [AH.get_put_ne (by omega), AH.kill, AH.get_put_ne hrH, AH.get_put_ne (by omega), up_get, AH.get_put_ne hmH, up_get]; exact lH
      · rw [AH.get_put_ne (by omega), AH.kill, AH.get_put_ne (Ne.symm hrm), AH.get_put_ne (by omega), up_get, put_get]; rfl
    · obtain ⟨rfl, r, hrm, rfl, h1, h2⟩ := h
      dsimp only at hk3 ⊢
      unfold S_machine_Cost_L6
      simp (disch := first | omega | simp) [iv]
      exact hk (1, .osl r 3 0 1) _ _ _ (.refl (by omega)) ⟨hle3, by omega, hb3, .inr (.inl ⟨rfl, r, hrm, rfl, h1, h2⟩)⟩ (by dsimp only; omega)
  · obtain ⟨rfl, r, hrm, rfl, hr, hm⟩ := h
    dsimp only at hr hm hk ⊢
    unfold S_machine_Cost_L9
    unfold iv at hr
    have hf : from1 = [[.dsl 5 (oneM.arcs.map Arc.cs)], [.dsl 5 []]] := rfl
    simp (disch := first | omega | simp) [hr, hf]
    generalize hM2e : AH.put _ _ _ = M2
    have hM2n : M2.nx = H1.nx + 5 := by rw [← hM2e]; rfl
    have hM2k : ∀ j, j < H1.nx → M2.get j = H1.get j := fun j hj => by rw [← hM2e, AH.get_put_ne (by omega), AH.get_put_ne (by omega), up_get]
    have hM2l : H.le M2 := fun j o ho => by rw [hM2k j (by have := (hw _ _ ho).1; omega)]; exact hle _ _ ho
    clear hM2e
    have hmpl := (hw1 _ _ hm).1
    refine loop_st (fun _ : Unit => [.osl r 3 1 0, iv 0]) (fun _ H' => M2 = H') (fun _ => 0) () (.refl (Nat.le_refl _)) rfl ?_
    rintro _ _ _ rfl k3 hk3
    unfold S_machine_Cost_L6
    simp (disch := first | omega | simp) [iv]
    exact hk (2, .osl r 3 1 0) _ _ _ (.refl (by omega)) ⟨hM2l, by omega, by rw [hM2k _ (by omega)]; exact hb, .inr (.inr ⟨rfl, r, hrm, rfl, by rw [hM2k _ hmpl]; exact hm⟩)⟩ (by dsimp only; omega)
  · obtain ⟨rfl, r, hrm, rfl, hm⟩ := h
    dsimp only at hm hk ⊢
    unfold S_machine_Cost_L9
    have hcs : oneM.cs = [.p (.int .i64 2), .dsl 5 (oneM.arcs.map Arc.cs), .dsl 2 [[.p (.int .i64 1), .p (.int .i64 0)]]] := rfl
    rw [hcs] at hb
    simp (disch := first | omega | simp) [hb]
    have hmpl := (hw1 _ _ hm).1
    refine loop_wf (fun i : Nat => if i = 0 then [iv 0, bv false, iv 0] else [iv 3, bv true, iv 1]) (fun i H' => H.le H' ∧ H1.nx ≤ H'.nx ∧ i ≤ 1 ∧ H'.get mp = some (.map 62 2 best1)) (fun i => 1 - i) 0 (by rw [if_pos rfl]; exact .refl (Nat.le_refl _)) ⟨hle, Nat.le_refl _, by omega, hm⟩ ?_
    rintro i H3 hn3 hw3 ⟨hle3, hnx3, hi, hm3⟩ k3 hk3
    unfold S_machine_Cost_L8
    by_cases h0 : i = 0
    · subst h0
      rw [if_pos rfl]
      simp (disch := first | omega | simp) [iv]
      unfold S_machine_Cost_C7
      simp (disch := first | omega | simp) [bv, put_get_ne, hm3, lawPl, hk1, b11]
      exact hk3 1 _ _ _ (by rw [if_neg (by decide)]; exact .refl (by first | omega | (simp only [up_nx, put_nx]; done) | (simp only [up_nx, put_nx]; omega))) ⟨AH.le.put hw (by omega) (AH.le.put hw (by omega) (AH.le.up hle3)), (by first | omega | (simp only [up_nx, put_nx]; done) | (simp only [up_nx, put_nx]; omega)), Nat.le_refl _, by rw [AH.get_put_ne (by omega), AH.get_put_ne (by omega)]; exact hm3⟩ (by omega)
    · have : i = 1 := by omega
      subst this
      rw [if_neg (by decide)]
      simp (disch := first | omega | simp) [iv, bv]
      exact rt_one hw hle3 (by repeat (first | exact Cl.p _ | exact Cl.dsl _ _ | exact Cl.any | refine Cl.tup ?_ | refine Cl.agg ?_ | exact Clo.nil | refine Clo.cons ?_ ?_)) ⟨rfl, rfl⟩)
theorem c_begun : PF Try.prog 7 [] (bv true) := fun H => tri_wf fun hw => tri_wordhoardlaw_machineBegun (by
  unfold S_wordhoardlaw_machineBegun
  simp (disch := first | omega | simp) []
  refine ca_pure (by kernel_rfl) (c_one _) ?_
  simp (disch := first | omega | simp)
  generalize hMe : AH.put _ _ _ = M
  have hMl : H.le M := by rw [← hMe]; exact (by repeat (first | with_reducible assumption | with_reducible exact AH.le.refl _ | with_reducible apply AH.le.up | (with_reducible refine AH.le.put hw ?_ ?_; · first | omega | (simp only [up_nx, put_nx, kill_nx]; done) | (simp only [up_nx, put_nx, kill_nx]; omega)) | (with_reducible refine AH.le.kill hw ?_ ?_; · first | omega | (simp only [up_nx, put_nx, kill_nx]; done) | (simp only [up_nx, put_nx, kill_nx]; omega))))
  have hMn : M.nx = H.nx + 11 := by rw [← hMe]; rfl
  have g1 : M.get (H.nx + 1) = some (.row 3 1 (nE [1])) := by rw [← hMe]; simp (disch := first | omega | simp) [put_get_ne]; rfl
  have g2 : M.get (H.nx + 2) = some (.row 3 1 (nE [2])) := by rw [← hMe]; simp (disch := first | omega | simp); rfl
  clear hMe
  have d1 : ∀ x : Int, DtR (nE [x]) := fun x e he a ha => by
    simp only [nE, List.map_cons, List.map_nil, List.mem_singleton] at he
    subst he
    simp only [List.mem_singleton] at ha
    subst ha; exact Dt.p _
  have g2' : (M.put (H.nx + 1) (.frz 1 (nE [1]))).get (H.nx + 2) = some (.row 3 1 (nE [2])) := by rw [AH.get_put_ne (by omega)]; exact g2
  refine ca_of (Q := fun r H' => H' = (M.put (H.nx + 1) (.frz 1 (nE [1]))).put (H.nx + 2) (.frz 1 (nE [2])) ∧ r = .tup [iv 3, bv true, iv 0]) (by kernel_rfl) (Tri.st (.freeze g1 (d1 1)) (Tri.st (.freeze g2' (d1 2)) (Tri.args (.cons (.refl _) (.cons (.frz (es := nE [1]) (off := 0) (n := 1) (by rw [AH.get_put_ne (by omega)]; exact put_get _ _) (Nat.le_refl _)) (.cons (.frz (es := nE [2]) (off := 0) (n := 1) (put_get _ _) (Nat.le_refl _)) .nil))) (c_Cost1 _)))) ?_
  rintro _ _ ⟨rfl, rfl⟩
  simp (disch := first | omega | simp) [iv, bv]
  exact rt_one hw (AH.le.put hw (by omega) (AH.le.put hw (by omega) hMl)) (by repeat (first | exact Cl.p _ | exact Cl.dsl _ _ | exact Cl.any | refine Cl.tup ?_ | refine Cl.agg ?_ | exact Clo.nil | refine Clo.cons ?_ ?_)) ⟨rfl, rfl⟩)
end Go.Proofs.Ytgkkilbeingleaa

/- What is right; the law of makers. -/
namespace Go.Proofs.Ytgkkilbeingleaa
open Go.RowKit Go.Maps
theorem sym_len {l : List Int} (h : Sym l) : l.length ≤ 60 := h.1
theorem c_right {x : Mac} {w : Int} (small : Bool) {I O : List Int} (hI : I.length ≤ 60) (hO : O.length ≤ 60) {want : Int} (hx : w = 0 → x.Ok ∧ costOf x true I O = want) (hw3 : I64 w) :
    PF Try.prog 16 [(if w = 0 then x else zeroM).av, iv w, iv w, bv small, .dsl 1 (nE I), .dsl 1 (nE O), iv want] (bv true) := fun H => tri_wf fun hw => tri_wordhoardlaw_right (by
  unfold S_wordhoardlaw_right
  by_cases h0 : w = 0
  · obtain ⟨hok, hc⟩ := hx h0
    subst h0
    rw [if_pos rfl]
    unfold Mac.av
    simp (disch := first | omega | simp) [iv]
    unfold S_wordhoardlaw_right_C1
    simp (disch := first | omega | simp) [iv, Mac.cs]
    refine ca_pure (by kernel_rfl) (c_CheckR x _) ?_
    rw [Mac.chk_ok.2 hok]
    simp (disch := first | omega | simp) [iv]
    refine ca_pure (by kernel_rfl) (c_Cost hok true hI hO _) ?_
    rw [hc]
    simp (disch := first | omega | simp) [iv]
    exact rt_one hw (by repeat (first | with_reducible assumption | with_reducible exact AH.le.refl _ | with_reducible apply AH.le.up | (with_reducible refine AH.le.put hw ?_ ?_; · first | omega | (simp only [up_nx, put_nx, kill_nx]; done) | (simp only [up_nx, put_nx, kill_nx]; omega)) | (with_reducible refine AH.le.kill hw ?_ ?_; · first | omega | (simp only [up_nx, put_nx, kill_nx]; done) | (simp only [up_nx, put_nx, kill_nx]; omega)))) (by repeat (first | exact Cl.p _ | exact Cl.dsl _ _ | exact Cl.any | refine Cl.tup ?_ | refine Cl.agg ?_ | exact Clo.nil | refine Clo.cons ?_ ?_)) ⟨rfl, rfl⟩
  · rw [if_neg h0]
    unfold Mac.av zeroM Mac.cs
    have hz : IntKind.i64.wrap ((0 : Int) + 0) = 0 := by decide
    simp (disch := first | omega | simp) [iv, h0]
    exact rt_one hw (by repeat (first | with_reducible assumption | with_reducible exact AH.le.refl _ | with_reducible apply AH.le.up | (with_reducible refine AH.le.put hw ?_ ?_; · first | omega | (simp only [up_nx, put_nx, kill_nx]; done) | (simp only [up_nx, put_nx, kill_nx]; omega)) | (with_reducible refine AH.le.kill hw ?_ ?_; · first | omega | (simp only [up_nx, put_nx, kill_nx]; done) | (simp only [up_nx, put_nx, kill_nx]; omega)))) (by repeat (first | exact Cl.p _ | exact Cl.dsl _ _ | exact Cl.any | refine Cl.tup ?_ | refine Cl.agg ?_ | exact Clo.nil | refine Clo.cons ?_ ?_)) ⟨rfl, rfl⟩)
theorem chk_I (m : Mac) : I64 m.chk := by
  rcases chk_I64 m with h | h | h | h <;> (rw [h]; unfold I64; omega)
theorem both_I (a b : Mac) : I64 (bothE a b) := by unfold bothE; split; exact chk_I b; exact chk_I a
theorem both_ok {a b : Mac} (h : bothE a b = 0) : a.Ok ∧ b.Ok := by
  have hca : a.chk = 0 := by unfold bothE at h; split at h <;> assumption
  have hcb : b.chk = 0 := by unfold bothE at h; rw [if_pos hca] at h; exact h
  exact ⟨Mac.chk_ok.1 hca, Mac.chk_ok.1 hcb⟩
set_option maxHeartbeats 2000000 in
theorem w_MachineMakes (a b : Mac) (I O : List Int) : PF Try.prog 5 [a.av, b.av, .dsl 1 (nE I), .dsl 1 (nE O)] (bv true) := fun H => tri_wf fun hw => tri_wordhoardlaw_MachineMakes (by
  have hml : maxLen = 9223372036854775807 := by decide
  unfold S_wordhoardlaw_MachineMakes
  have hava : a.av = .agg a.cs := rfl
  have havb : b.av = .agg b.cs := rfl
  rw [hava, havb]
  have hla : a.cs.length = 3 := rfl
  have hlb : b.cs.length = 3 := rfl
  simp (disch := first | omega | simp)
  refine ca_pure (by kernel_rfl) (c_begun _) ?_
  simp (disch := first | omega | simp) [bv]
  generalize hMe : AH.put _ _ _ = M
  have hMl : H.le M := by rw [← hMe]; exact (by repeat (first | with_reducible assumption | with_reducible exact AH.le.refl _ | with_reducible apply AH.le.up | (with_reducible refine AH.le.put hw ?_ ?_; · first | omega | (simp only [up_nx, put_nx, kill_nx]; done) | (simp only [up_nx, put_nx, kill_nx]; omega)) | (with_reducible refine AH.le.kill hw ?_ ?_; · first | omega | (simp only [up_nx, put_nx, kill_nx]; done) | (simp only [up_nx, put_nx, kill_nx]; omega))))
  have hMn : M.nx = H.nx + 3 := by rw [← hMe]; rfl
  have gA : M.get H.nx = some (.box 25 a.cs) := by rw [← hMe]; simp (disch := first | omega | simp) [put_get_ne]
  have gB : M.get (H.nx + 1) = some (.box 25 b.cs) := by rw [← hMe]; simp (disch := first | omega | simp)
  have hca : ∀ z, AV.agg (a.cs.take 3) = z → z = a.av := fun z e => by rw [← e]; rfl
  clear hMe
  unfold S_wordhoardlaw_MachineMakes_C5
  have htrue : Rt Try.prog H.nx (.p (.bool true)) (fun r H' => H' = H ∧ r = bv true) M := rt_one hw hMl (by repeat (first | exact Cl.p _ | exact Cl.dsl _ _ | exact Cl.any | refine Cl.tup ?_ | refine Cl.agg ?_ | exact Clo.nil | refine Clo.cons ?_ ?_)) ⟨rfl, rfl⟩
  have ta : a.cs.take 3 = a.cs := rfl
  have tb : b.cs.take 3 = b.cs := rfl
  simp (disch := first | omega | simp) [gA, hla, ta]
  refine ca_pure (by kernel_rfl) (c_few a _) ?_
  cases fa : a.fewB with
  | false =>
    simp (disch := first | omega | simp) [bv]
    exact htrue
  | true =>
  simp (disch := first | omega | simp) [bv, gB, hlb, tb]
  refine ca_pure (by kernel_rfl) (c_few b _) ?_
  cases fb : b.fewB with
  | false =>
    simp (disch := first | omega | simp) [bv]
    exact htrue
  | true =>
  have Fa := few_iff.1 fa
  have Fb := few_iff.1 fb
  by_cases q : 8 < IntKind.i64.wrap ((I.length : Int) + (O.length : Int))
  · simp (disch := first | omega | simp) [bv, q]
    exact htrue
  simp (disch := first | omega | simp) [bv, q]
  refine ca_pure (by kernel_rfl) (c_joined I O _) ?_
  by_cases hj : joinE I O = 0
  case neg =>
    simp (disch := first | omega | simp) [iv, hj]
    exact htrue
  obtain ⟨⟨hI, _⟩, ⟨hO, _⟩⟩ := joinE_ok.1 hj
  rw [hj]
  simp (disch := first | omega | simp) [iv, gA, hla, ta]
  refine cav_pure (by kernel_rfl) (fun H2 _ => c_CheckR a H2) ?_
  simp (disch := first | omega | simp) [iv, gB, hlb, tb]
  refine cav_pure (by kernel_rfl) (fun H2 _ => c_CheckR b H2) ?_
  refine cut_st (fun _ : Unit => [iv (bothE a b)]) (fun _ H' => M = H') (fun kk hkk => ?_) ?_
  · by_cases h : a.chk = 0
    · simp (disch := first | omega | simp) [iv, h]
      exact hkk () _ _ _ (by rw [bothE, if_pos h]; exact .refl (Nat.le_refl _)) rfl
    · simp (disch := first | omega | simp) [iv, h]
      exact hkk () _ _ _ (by rw [bothE, if_neg h]; exact .refl (Nat.le_refl _)) rfl
  rintro _ _ _ rfl
  unfold S_wordhoardlaw_MachineMakes_K4
  simp (disch := first | omega | simp) [iv, gA, hla, ta]
  refine ca_of (by kernel_rfl) (c_light Fa) ?_
  rintro _ X ⟨hX, lA, rfl, _⟩
  rw [hX]; clear hX
  have key : ∀ lB : Bool, CutA Try.prog 2 (fun k_52 =>
    Pu Try.prog (.bin .eql 28) [iv (bothE a b), (.p (.int .i64 0))] fun v59 =>
    CdA v59
      (
      Vw fun V_115 =>
      Rd Try.prog V_115 (.ld 3 true) [.ptr H.nx 0] fun v60 =>
      CaV Try.prog V_115 (.fn (.func 18) [] []) [v60, .dsl 1 (nE I), .dsl 1 (nE O), (.p (.bool true))] fun v63 =>
      Rd Try.prog V_115 (.ld 3 true) [.ptr (H.nx + 1) 0] fun v64 =>
      CaV Try.prog V_115 (.fn (.func 18) [] []) [v64, .dsl 1 (nE I), .dsl 1 (nE O), (.p (.bool true))] fun v67 =>
      Pu Try.prog .mn [v63, v67] fun v68 =>
      Rd Try.prog V_115 (.ld 3 true) [.ptr H.nx 0] fun v69 =>
      Rd Try.prog V_115 (.ld 3 true) [.ptr (H.nx + 1) 0] fun v70 =>
      CaV Try.prog V_115 (.fn (.func 19) [] []) [v69, v70, .dsl 1 (nE I), .dsl 1 (nE O)] fun v73 =>
      k_52 [v68, v73]
      ) (
      k_52 [(.p (.int .i64 1152921504606846976)), (.p (.int .i64 1152921504606846976))]
      )
    ) (S_wordhoardlaw_MachineMakes_K3 (.dsl 1 (nE I)) (.dsl 1 (nE O)) (fun v H' => H' = H ∧ v = .p (.bool true)) H (.ptr H.nx 0) (.ptr (H.nx + 1) 0) (iv a.chk) [iv (bothE a b)] (bv lB)) M := by
    intro lB
    refine cut_st (fun x : Int × Int => [iv x.1, iv x.2]) (fun x H' => M = H' ∧ (bothE a b = 0 → x.1 = min (costOf a true I O) (costOf b true I O) ∧ x.2 = splitC a b I O)) (fun kk hkk => ?_) ?_
    · by_cases h : bothE a b = 0
      · obtain ⟨oa, ob⟩ := both_ok h
        rw [h]
        simp (disch := first | omega | simp) [iv, gA, hla, ta]
        refine cav_pure (by kernel_rfl) (fun H2 _ => c_Cost oa true hI hO H2) ?_
        simp (disch := first | omega | simp) [iv, gB, hlb, tb]
        refine cav_pure (by kernel_rfl) (fun H2 _ => c_Cost ob true hI hO H2) ?_
        simp (disch := first | omega | simp) [iv, gA, gB, hla, hlb, ta, tb]
        refine cav_pure (by kernel_rfl) (fun H2 _ => c_parted oa ob hI hO H2) ?_
        have hmin : (if costOf b true I O < costOf a true I O then costOf b true I O else costOf a true I O) = min (costOf a true I O) (costOf b true I O) := by split <;> omega
        rw [hmin]
        exact hkk (min (costOf a true I O) (costOf b true I O), splitC a b I O) _ _ _ (.refl (Nat.le_refl _)) ⟨rfl, fun _ => ⟨rfl, rfl⟩⟩
      · simp (disch := first | omega | simp) [iv, h]
        exact hkk (_, _) _ _ _ (.refl (Nat.le_refl _)) ⟨rfl, fun e => absurd e h⟩
    rintro ⟨ce, cc⟩ _ _ ⟨rfl, hcost⟩
    dsimp only at hcost ⊢
    unfold S_wordhoardlaw_MachineMakes_K3
    simp (disch := first | omega | simp) [gA, gB, hla, hlb, ta, tb]
    refine ca_pure (by kernel_rfl) (c_Either Fa Fb _) ?_
    unfold made
    have hlz : ∀ (w : Int) (x : Mac), (if w = 0 then x else zeroM).cs.length = 3 := fun w x => by split <;> rfl
    have htz : ∀ (w : Int) (x : Mac), (if w = 0 then x else zeroM).cs.take 3 = (if w = 0 then x else zeroM).cs := fun w x => by split <;> rfl
    have hdz : ∀ (w : Int) (x : Mac), (if w = 0 then x else zeroM).cs.drop 3 = [] := fun w x => by split <;> rfl
    have haz : ∀ (w : Int) (x : Mac), (if w = 0 then x else zeroM).av = .agg (if w = 0 then x else zeroM).cs := fun w x => rfl
    rw [haz]
    simp (disch := first | omega | simp) [hlz, htz]
    refine ca_pure (by kernel_rfl) (c_right lB hI hO (fun h => ⟨either_ok (both_ok h).1 (both_ok h).2 Fa Fb, (either_cost (both_ok h).1 (both_ok h).2).trans (hcost h).1.symm⟩) (both_I a b) _) ?_
    simp (disch := first | omega | simp) [bv]
    generalize hM1e : AH.put _ _ _ = M1
    have hM1n : M1.nx = M.nx + 9 := by rw [← hM1e]; rfl
    have hM1l : H.le M1 := by rw [← hM1e]; exact AH.le.put hw (by omega) (AH.le.put hw (by omega) (AH.le.up hMl))
    have gA1 : M1.get H.nx = some (.box 25 a.cs) := by rw [← hM1e, AH.get_put_ne (by omega), AH.get_put_ne (by omega), up_get]; exact gA
    have gB1 : M1.get (H.nx + 1) = some (.box 25 b.cs) := by rw [← hM1e, AH.get_put_ne (by omega), AH.get_put_ne (by omega), up_get]; exact gB
    have gX1 : M1.get (M.nx + 6) = some (.box 25 (if bothE a b = 0 then a.either b else zeroM).cs) := by rw [← hM1e, put_get]
    clear hM1e
    unfold S_wordhoardlaw_MachineMakes_C2
    simp (disch := first | omega | simp) [gA1, gB1, hla, hlb, ta, tb]
    refine ca_pure (by kernel_rfl) (c_Chain Fa Fb _) ?_
    unfold made
    rw [haz]
    simp (disch := first | omega | simp) [hlz, gX1]
    refine ca_pure (by kernel_rfl) (c_right lB hI hO (fun h => ⟨chain_ok (both_ok h).1 (both_ok h).2 Fa Fb, (chain_cost (both_ok h).1 (both_ok h).2).trans (hcost h).2.symm⟩) (both_I a b) _) ?_
    simp (disch := first | omega | simp) [bv]
    generalize hM2e : AH.put _ _ _ = M2
    have hM2n : M2.nx = M1.nx + 8 := by rw [← hM2e]; rfl
    have hM2l : H.le M2 := by rw [← hM2e]; exact AH.le.put hw (by omega) (AH.le.up hM1l)
    have gA2 : M2.get H.nx = some (.box 25 a.cs) := by rw [← hM2e, AH.get_put_ne (by omega), up_get]; exact gA1
    have gX2 : M2.get (M.nx + 6) = some (.box 25 (if bothE a b = 0 then a.chain b else zeroM).cs) := by rw [← hM2e, put_get, hdz, List.append_nil]
    clear hM2e
    refine cut_st (fun x : Int × Int × Int => [iv x.1, iv x.2.1, iv x.2.2]) (fun x H' => M2 = H' ∧ (a.chk = 0 → x.1 = starC a I O ∧ x.2.1 = costOf a true O I ∧ x.2.2 = if I = O then costOf a false I [] else dear)) (fun kk hkk => ?_) ?_
    · by_cases h : a.chk = 0
      · have oa := Mac.chk_ok.1 h
        simp (disch := first | omega | simp) [iv, h, gA2, hla, ta]
        refine cav_pure (by kernel_rfl) (fun H2 _ => c_again oa hI hO H2) ?_
        simp (disch := first | omega | simp) [gA2, hla, ta]
        refine cav_pure (by kernel_rfl) (fun H2 _ => c_Cost oa true hO hI H2) ?_
        refine ca_pure (by kernel_rfl) (c_Same I O _) ?_
        by_cases e : I = O
        · have hs : sameB I O = true := by simp [sameB, e]
          rw [hs]
          simp (disch := first | omega | simp) [bv, gA2, hla, ta]
          refine ca_pure (by kernel_rfl) (Tri.args (.cons (.refl _) (.cons (.refl _) (.cons (.nil 1 0 (Nat.zero_le _)) (.cons (.refl _) .nil)))) (c_Cost oa false (O := []) hI (by simp) _)) ?_
          exact hkk (starC a I O, costOf a true O I, costOf a false I []) _ _ _ (.refl (Nat.le_refl _)) ⟨rfl, fun _ => ⟨rfl, rfl, by rw [if_pos e]⟩⟩
        · have hs : sameB I O = false := by simp [sameB, e]
          rw [hs]
          simp (disch := first | omega | simp) [bv]
          exact hkk (starC a I O, costOf a true O I, dear) _ _ _ (.refl (Nat.le_refl _)) ⟨rfl, fun _ => ⟨rfl, rfl, by rw [if_neg e]⟩⟩
      · simp (disch := first | omega | simp) [iv, h]
        exact hkk (_, _, _) _ _ _ (.refl (Nat.le_refl _)) ⟨rfl, fun e => absurd e h⟩
    rintro ⟨cr, ct, cs⟩ _ _ ⟨rfl, hcost2⟩
    dsimp only at hcost2 ⊢
    unfold S_wordhoardlaw_MachineMakes_K1
    simp (disch := first | omega | simp) [gA2, hla, ta]
    refine ca_of (by kernel_rfl) (c_light Fa) ?_
    rintro _ X ⟨hX, lC, rfl, _⟩
    rw [hX]; clear hX
    simp (disch := first | omega | simp) [gA2, hla, ta]
    refine ca_pure (by kernel_rfl) (c_Repeat Fa _) ?_
    unfold made
    rw [haz]
    simp (disch := first | omega | simp) [hlz, gX2]
    refine ca_pure (by kernel_rfl) (c_right lC hI hO (fun h => ⟨rep_ok (Mac.chk_ok.1 h) Fa, (rep_cost (Mac.chk_ok.1 h)).trans (hcost2 h).1.symm⟩) (chk_I a) _) ?_
    simp (disch := first | omega | simp) [bv]
    generalize hM3e : AH.put _ _ _ = M3
    have hM3n : M3.nx = M2.nx + 7 := by rw [← hM3e]; rfl
    have hM3l : H.le M3 := by rw [← hM3e]; exact AH.le.put hw (by omega) (AH.le.up hM2l)
    have gA3 : M3.get H.nx = some (.box 25 a.cs) := by rw [← hM3e, AH.get_put_ne (by omega), up_get]; exact gA2
    have gX3 : M3.get (M.nx + 6) = some (.box 25 (if a.chk = 0 then a.rep else zeroM).cs) := by rw [← hM3e, put_get, hdz, List.append_nil]
    clear hM3e
    simp (disch := first | omega | simp) [gA3, hla, ta]
    refine ca_pure (by kernel_rfl) (c_Turn Fa _) ?_
    unfold made
    rw [haz]
    simp (disch := first | omega | simp) [hlz, gX3]
    refine ca_pure (by kernel_rfl) (c_right (x := a.turn turnA) lC hI hO (fun h => ⟨turn_ok (Mac.chk_ok.1 h) turnA (fun x => by simp [turnA]), (turn_cost (Mac.chk_ok.1 h)).trans (hcost2 h).2.1.symm⟩) (chk_I a) _) ?_
    simp (disch := first | omega | simp) [bv]
    generalize hM4e : AH.put _ _ _ = M4
    have hM4n : M4.nx = M3.nx + 7 := by rw [← hM4e]; rfl
    have hM4l : H.le M4 := by rw [← hM4e]; exact AH.le.put hw (by omega) (AH.le.up hM3l)
    have gA4 : M4.get H.nx = some (.box 25 a.cs) := by rw [← hM4e, AH.get_put_ne (by omega), up_get]; exact gA3
    have gX4 : M4.get (M.nx + 6) = some (.box 25 (if a.chk = 0 then a.turn turnA else zeroM).cs) := by rw [← hM4e, put_get, hdz, List.append_nil]; rfl
    clear hM4e
    simp (disch := first | omega | simp) [gA4, hla, ta]
    refine ca_pure (by kernel_rfl) (c_Side Fa _) ?_
    unfold made
    rw [haz]
    simp (disch := first | omega | simp) [hlz, gX4]
    refine ca_pure (by kernel_rfl) (c_right (x := a.turn sideA) lC hI hO (fun h => ⟨turn_ok (Mac.chk_ok.1 h) sideA (fun x => by simp [sideA]), (side_cost (Mac.chk_ok.1 h)).trans (hcost2 h).2.2.symm⟩) (chk_I a) _) ?_
    exact rt_one hw (AH.le.put hw (by omega) (AH.le.up hM4l)) (by repeat (first | exact Cl.p _ | exact Cl.dsl _ _ | exact Cl.any | refine Cl.tup ?_ | refine Cl.agg ?_ | exact Clo.nil | refine Clo.cons ?_ ?_)) ⟨rfl, rfl⟩
  cases lA with
  | false =>
    simp (disch := first | omega | simp) [bv]
    exact key false
  | true =>
    simp (disch := first | omega | simp) [bv, gB, hlb, tb]
    refine ca_of (by kernel_rfl) (c_light Fb) ?_
    rintro _ X ⟨hX, lB, rfl, _⟩
    rw [hX]; clear hX
    simp (disch := first | omega | simp) [bv]
    exact key lB)
end Go.Proofs.Ytgkkilbeingleaa

/- One machine through another one: the product; rounds in any order. Plain. -/
namespace Go.Proofs.Ytgkkilbeingleaa
def arc1 (B : Int) (f : Arc) (t : Int) : Arc := ⟨f.fr * B + t, f.to * B + t, f.inn, 0, f.w⟩
def arc2 (B : Int) (f g : Arc) : Arc := ⟨f.fr * B + g.fr, f.to * B + g.to, f.inn, g.out, f.w + g.w⟩
def arc3 (B : Int) (g : Arc) (s : Int) : Arc := ⟨s * B + g.fr, s * B + g.to, 0, g.out, g.w⟩
def fam12 (b : Mac) (f : Arc) : List Arc := if f.out = 0 then (List.range b.states.toNat).map (fun (t : Nat) => arc1 b.states f (t : Int)) else (b.arcs.filter fun g => decide (g.inn = f.out)).map (arc2 b.states f)
def fam3 (a b : Mac) (g : Arc) : List Arc := if g.inn = 0 then (List.range a.states.toNat).map (fun (s : Nat) => arc3 b.states g (s : Int)) else []
/-- the product: a pair of states is a state -/
def prodM (a b : Mac) : Mac := ⟨a.states * b.states, a.arcs.flatMap (fam12 b) ++ b.arcs.flatMap (fam3 a b), a.fins.flatMap fun f => b.fins.map fun g => ⟨f.st * b.states + g.st, f.w + g.w⟩⟩
theorem pair_lt {s t A B : Int} (h1 : 0 ≤ s) (h2 : s < A) (h3 : 0 ≤ t) (h4 : t < B) : 0 ≤ s * B + t ∧ s * B + t < A * B := by
  have b0 : 0 ≤ s * B := Int.mul_nonneg h1 (by omega)
  have b1 : (s + 1) * B ≤ A * B := Int.mul_le_mul_of_nonneg_right (by omega) (by omega)
  rw [Int.add_mul, Int.one_mul] at b1
  omega
theorem prod_fit {a b : Mac} (ha : a.Ok) (hb : b.Ok) : (prodM a b).Fit := by
  obtain ⟨a1, a2, a3, a4, a5, a6, a7⟩ := ha
  obtain ⟨b1, b2, b3, b4, b5, b6, b7⟩ := hb
  refine ⟨?_, fun x hx => ?_, fun f hf => ?_⟩
  · have := (pair_lt (s := 0) (t := 0) (A := a.states) (B := b.states) (by omega) (by omega) (by omega) (by omega)).2
    show 1 ≤ a.states * b.states
    omega
  · have hst : (prodM a b).states = a.states * b.states := rfl
    rw [hst]
    rcases List.mem_append.1 (show x ∈ a.arcs.flatMap (fam12 b) ++ b.arcs.flatMap (fam3 a b) from hx) with h | h
    · obtain ⟨f, hf, h⟩ := List.mem_flatMap.1 h
      have o := a5 f hf
      unfold fam12 at h
      split at h
      · obtain ⟨t, ht, rfl⟩ := List.mem_map.1 h
        have ht := List.mem_range.1 ht
        have p1 := pair_lt (s := f.fr) (t := (t : Int)) (A := a.states) (B := b.states) (by omega) (by omega) (by omega) (by omega)
        have p2 := pair_lt (s := f.to) (t := (t : Int)) (A := a.states) (B := b.states) (by omega) (by omega) (by omega) (by omega)
        unfold arc1; dsimp only; omega
      · obtain ⟨g, hg, rfl⟩ := List.mem_map.1 h
        have og := b5 g (List.mem_filter.1 hg).1
        have p1 := pair_lt (s := f.fr) (t := g.fr) (A := a.states) (B := b.states) (by omega) (by omega) (by omega) (by omega)
        have p2 := pair_lt (s := f.to) (t := g.to) (A := a.states) (B := b.states) (by omega) (by omega) (by omega) (by omega)
        unfold arc2; dsimp only; omega
    · obtain ⟨g, hg, h⟩ := List.mem_flatMap.1 h
      have og := b5 g hg
      unfold fam3 at h
      split at h
      · obtain ⟨s, hs, rfl⟩ := List.mem_map.1 h
        have hs := List.mem_range.1 hs
        have p1 := pair_lt (s := (s : Int)) (t := g.fr) (A := a.states) (B := b.states) (by omega) (by omega) (by omega) (by omega)
        have p2 := pair_lt (s := (s : Int)) (t := g.to) (A := a.states) (B := b.states) (by omega) (by omega) (by omega) (by omega)
        unfold arc3; dsimp only; omega
      · cases h
  · have hst : (prodM a b).states = a.states * b.states := rfl
    rw [hst]
    obtain ⟨f1, h1, h⟩ := List.mem_flatMap.1 (show f ∈ a.fins.flatMap fun f => b.fins.map fun g => (⟨f.st * b.states + g.st, f.w + g.w⟩ : Fin_) from hf)
    obtain ⟨g, h2, rfl⟩ := List.mem_map.1 h
    have o1 := a6 f1 h1
    have o2 := b6 g h2
    have p1 := pair_lt (s := f1.st) (t := g.st) (A := a.states) (B := b.states) (by omega) (by omega) (by omega) (by omega)
    dsimp only; omega
/-- a round under way: what D tells is looked at -/
structure RndG (m : Mac) (told : Bool) (I O : List Int) (n k : Nat) (Lo : List Int) (ag : Bool) (L : List Int) (D : Arc → Nat → Nat → Prop) : Prop where
  tab : Tab m told I O n k L
  less : ag = true → sumL L < sumL Lo
  same : ag = false → L = Lo
  st : ag = false → ∀ a i j, D a i j → i < n → j < k → Stab told I O n k L a i j
section
variable {m : Mac} {told : Bool} {I O Lo L : List Int} {n k : Nat} {ag : Bool} {D E : Arc → Nat → Nat → Prop}
theorem RndG.start (h : Tab m told I O n k Lo) : RndG m told I O n k Lo false Lo (fun _ _ _ => False) :=
  ⟨h, fun h => (by cases h), fun _ => rfl, fun _ _ _ _ h => h.elim⟩
theorem RndG.mono (h : RndG m told I O n k Lo ag L D) (hE : ∀ a i j, E a i j → i < n → j < k → D a i j) : RndG m told I O n k Lo ag L E :=
  ⟨h.tab, h.less, h.same, fun e a i j hd hi hj => h.st e a i j (hE a i j hd hi hj) hi hj⟩
/-- one more is looked at that can lower nothing -/
theorem RndG.skip (h : RndG m told I O n k Lo ag L D) (hs : ∀ a i j, E a i j → i < n → j < k → Stab told I O n k L a i j) : RndG m told I O n k Lo ag L (fun a i j => D a i j ∨ E a i j) :=
  ⟨h.tab, h.less, h.same, fun e a i j hd hi hj => hd.elim (fun hd => h.st e a i j hd hi hj) fun hd => hs a i j hd hi hj⟩
theorem RndG.low (h : RndG m told I O n k Lo ag L D) (hm : m.Fit) {a : Arc} (ha : a ∈ m.arcs) {i j i' j' : Nat} {p q : Int} (hi : i < n) (hj : j < k) (hi' : i' < n) (hj' : j' < k) (hp : L[ix n k a.fr.toNat i j]? = some p) (hpd : p < dear) (h1 : adv a.inn I i = some i') (h2 : advo told a.out O j = some j')
    (hq : L[ix n k a.to.toNat i' j']? = some q) (hlt : p + a.w < q) : RndG m told I O n k Lo true (L.set (ix n k a.to.toNat i' j') (p + a.w)) E := by
  have hb := hm.2.1 a ha
  have hp0 := h.tab.nonneg (by omega : a.fr.toNat < m.states.toNat) hi hj hp
  refine ⟨h.tab.lower hm ha hi hj hi' hj' hp hpd h1 h2 hq hlt, fun _ => ?_, fun e => (by cases e), fun e => (by cases e)⟩
  have := sumL_set hq (v := p + a.w) (by omega) hlt
  cases ag with
  | true => have := h.less rfl; omega
  | false => rw [h.same rfl] at this ⊢; exact this
end
end Go.Proofs.Ytgkkilbeingleaa

/- Abstract walks of functions, written by a program (wip/aw/aw.py): each equation is checked by the kernel. -/
namespace Go.Proofs.Ytgkkilbeingleaa
open Go.RowKit

/-! wordhoard/wordhoardref.ThroughCost$1 -/
def ac_wordhoardref_ThroughCost_fn1 : AC := (.seq (.reg 0) (.seq (.reg 1) .ret))
def S_wordhoardref_ThroughCost_fn1 (a0 a1 a2 a3 a4 a5 a6 : AV) (Q : AV → AH → Prop) (H : AH) : Prop := (
    Pu Try.prog (.addOff 0) [a4] fun v13 =>
    RdS Try.prog (.ld 1 false) [v13] fun v14 =>
    Pu Try.prog (.bin .mul 3) [a0, v14] fun v15 =>
    Pu Try.prog (.bin .add 3) [v15, a1] fun v17 =>
    RdS Try.prog (.ld 1 false) [a5] fun v18 =>
    Pu Try.prog (.bin .mul 3) [v17, v18] fun v19 =>
    Pu Try.prog (.bin .add 3) [v19, a2] fun v21 =>
    RdS Try.prog (.ld 1 false) [a6] fun v22 =>
    Pu Try.prog (.bin .mul 3) [v21, v22] fun v23 =>
    Pu Try.prog (.bin .add 3) [v23, a3] fun v25 =>
    Rt Try.prog H.nx v25 Q
    ) H
theorem eq_wordhoardref_ThroughCost_fn1 (a0 a1 a2 a3 a4 a5 a6 : AV) (Q : AV → AH → Prop) (H : AH) : FnA Try.prog 26 (regsF Try.f37) ac_wordhoardref_ThroughCost_fn1 [.tm 11] [a0, a1, a2, a3, a4, a5, a6] H Q = S_wordhoardref_ThroughCost_fn1 a0 a1 a2 a3 a4 a5 a6 Q H := by kernel_rfl
theorem tri_wordhoardref_ThroughCost_fn1 {a0 a1 a2 a3 a4 a5 a6 : AV} {H : AH} {Q : AV → AH → Prop} (h : S_wordhoardref_ThroughCost_fn1 a0 a1 a2 a3 a4 a5 a6 Q H) : Tri Try.prog 37 [a0, a1, a2, a3, a4, a5, a6] H Q :=
  tri_of (Ms := [#[], #[]]) mixed Try.func37 rfl (by kernel_rfl) (by kernel_rfl) rfl (of_decide_eq_true rfl : 7 ≤ 26) (by rw [eq_wordhoardref_ThroughCost_fn1 a0 a1 a2 a3 a4 a5 a6 Q H]; exact h : FnA Try.prog 26 (regsF Try.f37) ac_wordhoardref_ThroughCost_fn1 [.tm 11] [a0, a1, a2, a3, a4, a5, a6] H Q)

/-! wordhoard/wordhoardref.ThroughCost$2 -/
def ac_wordhoardref_ThroughCost_fn2 : AC := (.seq (.reg 0) (.cond (.tmp 11) (.seq (.reg 1) (.reg 2)) .skip))
def S_wordhoardref_ThroughCost_fn2 (a0 a1 a2 a3 : AV) (Q : AV → AH → Prop) (H : AH) : Prop := (
    RdS Try.prog (.ld 1 false) [a2] fun v7 =>
    Pu Try.prog (.idx 1) [v7, a0] fun v9 =>
    RdS Try.prog (.ld 1 false) [v9] fun v10 =>
    Pu Try.prog (.bin .lss 3) [a1, v10] fun v11 =>
    CdA v11
      (
      Rg 5 fun b =>
      RdS Try.prog (.ld 1 false) [a2] fun v12 =>
      Pu Try.prog (.idx 1) [v12, a0] fun v15 =>
      WrS Try.prog (b + 4) (.st 1) [v15, a1] fun _ =>
      Rg 1 fun b_9 =>
      WrS Try.prog (b_9 + 0) (.st 1) [a3, (.p (.bool true))] fun _ =>
      Rt Try.prog H.nx (.tup []) Q
      ) (
      Rt Try.prog H.nx (.tup []) Q
      )
    ) H
theorem eq_wordhoardref_ThroughCost_fn2 (a0 a1 a2 a3 : AV) (Q : AV → AH → Prop) (H : AH) : FnA Try.prog 16 (regsF Try.f38) ac_wordhoardref_ThroughCost_fn2 [] [a0, a1, a2, a3] H Q = S_wordhoardref_ThroughCost_fn2 a0 a1 a2 a3 Q H := by kernel_rfl
theorem tri_wordhoardref_ThroughCost_fn2 {a0 a1 a2 a3 : AV} {H : AH} {Q : AV → AH → Prop} (h : S_wordhoardref_ThroughCost_fn2 a0 a1 a2 a3 Q H) : Tri Try.prog 38 [a0, a1, a2, a3] H Q :=
  tri_of (Ms := [#[], #[], #[]]) mixed Try.func38 rfl (by kernel_rfl) (by kernel_rfl) rfl (of_decide_eq_true rfl : 4 ≤ 16) (by rw [eq_wordhoardref_ThroughCost_fn2 a0 a1 a2 a3 Q H]; exact h : FnA Try.prog 16 (regsF Try.f38) ac_wordhoardref_ThroughCost_fn2 [] [a0, a1, a2, a3] H Q)
end Go.Proofs.Ytgkkilbeingleaa

/- The reference's ThroughCost: places, lowering. -/
namespace Go.Proofs.Ytgkkilbeingleaa
open Go.RowKit Go.Maps
/-- what the table of pairs hangs on, as it lies -/
structure TC (a b : Mac) (n k A B p9 p10 p11 p14 R : Nat) (H : AH) (better : Bool) (L : List Int) : Prop where
  gA : H.get A = some (.box 25 a.cs)
  gB : H.get B = some (.box 25 b.cs)
  g9 : H.get p9 = some (.box 3 [iv (n : Int)])
  g10 : H.get p10 = some (.box 3 [iv (k : Int)])
  g11 : H.get p11 = some (.box 26 [.osl R 1 0 L.length])
  g14 : H.get p14 = some (.box 4 [bv better])
  gR : H.get R = some (.row 3 1 (nE L))
section
variable {a b : Mac} {n k A B p9 p10 p11 p14 R : Nat} {H : AH} {better : Bool} {L : List Int}
theorem c_place {s t : Int} {i j : Nat} (gB : H.get B = some (.box 25 b.cs)) (g9 : H.get p9 = some (.box 3 [iv (n : Int)])) (g10 : H.get p10 = some (.box 3 [iv (k : Int)])) (hS : a.states * b.states ≤ 3000) (h1 : 0 ≤ s) (h2 : s < a.states) (h3 : 0 ≤ t) (h4 : t < b.states) (hn : n ≤ 61) (hk : k ≤ 61) (hi : i < n) (hj : j < k) :
    Tri Try.prog 37 [iv s, iv t, iv (i : Int), iv (j : Int), .ptr B 0, .ptr p9 0, .ptr p10 0] H (fun r H' => H' = H ∧ r = iv ((ix n k (s * b.states + t).toNat i j : Nat) : Int)) := tri_wf fun hw => tri_wordhoardref_ThroughCost_fn1 (by
  have hp := pair_lt (A := a.states) h1 h2 h3 h4
  have b0 : 0 ≤ s * b.states := Int.mul_nonneg h1 (by omega)
  have hix := ix_int (n := n) (k := k) (i := i) (j := j) hp.1 hp.2 hS hn hk hi hj
  have w1 : IntKind.i64.wrap (s * b.states) = s * b.states := by rw [IntKind.wrap_i64]; omega
  have w2 : IntKind.i64.wrap (s * b.states + t) = s * b.states + t := by rw [IntKind.wrap_i64]; omega
  unfold S_wordhoardref_ThroughCost_fn1
  unfold Mac.cs iv at gB
  unfold iv at g9 g10
  simp (disch := first | omega | simp) [iv, gB, g9, g10, w1, w2, hix]
  exact rt_refl ⟨rfl, rfl⟩ (Nat.le_refl _))
/-- what lowering leaves -/
def LowQ (p14 R : Nat) (better : Bool) (L : List Int) (q : Nat) (x c : Int) (H : AH) (r : AV) (H' : AH) : Prop := r = .tup [] ∧ H.nx ≤ H'.nx ∧ (∀ j, j ≠ R → j ≠ p14 → H'.get j = H.get j) ∧
  ((c < x ∧ H'.get p14 = some (.box 4 [bv true]) ∧ H'.get R = some (.row 3 1 (nE (L.set q c)))) ∨ (x ≤ c ∧ H'.get p14 = some (.box 4 [bv better]) ∧ H'.get R = some (.row 3 1 (nE L))))
theorem c_lower {q : Nat} {x c : Int} (g11 : H.get p11 = some (.box 26 [.osl R 1 0 L.length])) (g14 : H.get p14 = some (.box 4 [bv better])) (gR : H.get R = some (.row 3 1 (nE L))) (hq : L[q]? = some x) (_hl : L.length ≤ 9223372036854775807) :
    Tri Try.prog 38 [iv (q : Int), iv c, .ptr p11 0, .ptr p14 0] H (LowQ p14 R better L q x c H) := tri_wf fun hw => tri_wordhoardref_ThroughCost_fn2 (by
  have hql := (List.getElem?_eq_some_iff.1 hq).1
  have hqe := nE_get hq
  have hne : p14 ≠ R := fun e => by subst e; rw [g14] at gR; cases gR
  have hset := nE_set L q c
  unfold iv at hqe hset
  unfold S_wordhoardref_ThroughCost_fn2
  unfold bv at g14
  have hne2 : p11 ≠ R := fun e => by subst e; rw [g11] at gR; cases gR
  by_cases hc : c < x
  · simp (disch := first | omega | simp) [iv, g11, gR, hqe, hql, hc, put_get_ne, g14]
    rw [hset]
    refine rt_refl ⟨rfl, (by first | omega | (simp only [up_nx, put_nx]; done) | (simp only [up_nx, put_nx]; omega)), fun j h1 h2 => ?_, .inl ⟨hc, put_get _ _, ?_⟩⟩ (by first | omega | (simp only [up_nx, put_nx]; done) | (simp only [up_nx, put_nx]; omega))
    · rw [AH.get_put_ne h2, up_get, AH.get_put_ne h1, up_get]
    · rw [AH.get_put_ne (Ne.symm hne), up_get, put_get]
  · simp (disch := first | omega | simp) [iv, g11, gR, hqe, hql, hc]
    exact rt_refl ⟨rfl, Nat.le_refl _, fun _ _ _ => rfl, .inr ⟨by omega, g14, gR⟩⟩ (Nat.le_refl _))
end
end Go.Proofs.Ytgkkilbeingleaa

/- The reference's ThroughCost: one arc of the product at one place. -/
namespace Go.Proofs.Ytgkkilbeingleaa
open Go.RowKit Go.Maps
section
variable {a b : Mac} {n k A B p9 p10 p11 p14 R : Nat} {H H' : AH} {better : Bool} {L Lo I O : List Int} {D : Arc → Nat → Nat → Prop}
theorem TC.ne (h : TC a b n k A B p9 p10 p11 p14 R H better L) : A ≠ R ∧ B ≠ R ∧ p9 ≠ R ∧ p10 ≠ R ∧ p11 ≠ R ∧ p14 ≠ R ∧ A ≠ p14 ∧ B ≠ p14 ∧ p9 ≠ p14 ∧ p10 ≠ p14 ∧ p11 ≠ p14 := by
  have hr := h.gR
  have hb := h.g14
  refine ⟨?_, ?_, ?_, ?_, ?_, ?_, ?_, ?_, ?_, ?_, ?_⟩ <;> intro e
  · have := h.gA; rw [e, hr] at this; cases this
  · have := h.gB; rw [e, hr] at this; cases this
  · have := h.g9; rw [e, hr] at this; cases this
  · have := h.g10; rw [e, hr] at this; cases this
  · have := h.g11; rw [e, hr] at this; cases this
  · rw [e, hr] at hb; cases hb
  · have := h.gA; rw [e, hb] at this; injection this with this; injection this with this; exact absurd this (by decide)
  · have := h.gB; rw [e, hb] at this; injection this with this; injection this with this; exact absurd this (by decide)
  · have := h.g9; rw [e, hb] at this; injection this with this; injection this with this; exact absurd this (by decide)
  · have := h.g10; rw [e, hb] at this; injection this with this; injection this with this; exact absurd this (by decide)
  · have := h.g11; rw [e, hb] at this; injection this with this; injection this with this; exact absurd this (by decide)
theorem TC.low (h : TC a b n k A B p9 p10 p11 p14 R H better L) {better' : Bool} {L' : List Int} (hk : ∀ j, j ≠ R → j ≠ p14 → H'.get j = H.get j) (h14 : H'.get p14 = some (.box 4 [bv better'])) (hR : H'.get R = some (.row 3 1 (nE L'))) (hl : L'.length = L.length) : TC a b n k A B p9 p10 p11 p14 R H' better' L' := by
  obtain ⟨q1, q2, q3, q4, q5, q6, q7, q8, q9, q10, q11⟩ := h.ne
  exact ⟨by rw [hk _ q1 q7]; exact h.gA, by rw [hk _ q2 q8]; exact h.gB, by rw [hk _ q3 q9]; exact h.g9, by rw [hk _ q4 q10]; exact h.g10, by rw [hk _ q5 q11, hl]; exact h.g11, h14, hR⟩
theorem TC.keep (h : TC a b n k A B p9 p10 p11 p14 R H better L) (hw : WF H) (hk : ∀ j, j < H.nx → H'.get j = H.get j) : TC a b n k A B p9 p10 p11 p14 R H' better L := by
  have hb : ∀ {j o}, H.get j = some o → H'.get j = some o := fun ho => by rw [hk _ (hw _ _ ho).1]; exact ho
  exact ⟨hb h.gA, hb h.gB, hb h.g9, hb h.g10, hb h.g11, hb h.g14, hb h.gR⟩
/-- what a place's look leaves -/
def Seen (D : Arc → Nat → Nat → Prop) (x : Arc) (i j : Nat) : Arc → Nat → Nat → Prop := fun y i' j' => D y i' j' ∨ (y = x ∧ i' = i ∧ j' = j)
theorem seen_dear (h : RndG (prodM a b) true I O n k Lo better L D) {x : Arc} {i j : Nat} (hp : L[ix n k x.fr.toNat i j]? = some dear) : RndG (prodM a b) true I O n k Lo better L (Seen D x i j) :=
  h.skip fun y i' j' ⟨e1, e2, e3⟩ _ _ => by subst e1 e2 e3; exact stab_dear hp
theorem seen_low (hm : (prodM a b).Fit) (h : RndG (prodM a b) true I O n k Lo better L D) (htc : TC a b n k A B p9 p10 p11 p14 R H better L) {x : Arc} (hx : x ∈ (prodM a b).arcs) {i j i' j' : Nat} {p q : Int} (hi : i < n) (hj : j < k) (hi' : i' < n) (hj' : j' < k) (hp : L[ix n k x.fr.toNat i j]? = some p) (hpd : p < dear) (h1 : adv x.inn I i = some i') (h2 : advo true x.out O j = some j')
    (hq : L[ix n k x.to.toNat i' j']? = some q) {r : AV} (hl : LowQ p14 R better L (ix n k x.to.toNat i' j') q (p + x.w) H r H') : ∃ better' L', TC a b n k A B p9 p10 p11 p14 R H' better' L' ∧ RndG (prodM a b) true I O n k Lo better' L' (Seen D x i j) := by
  obtain ⟨_, _, l3, ⟨c1, c2, c3⟩ | ⟨c1, c2, c3⟩⟩ := hl
  · exact ⟨true, _, htc.low l3 c2 c3 (by rw [List.length_set]), h.low hm hx hi hj hi' hj' hp hpd h1 h2 hq c1⟩
  · exact ⟨better, L, htc.low l3 c2 c3 rfl, h.skip fun y i2 j2 ⟨e1, e2, e3⟩ _ _ => by subst e1 e2 e3; exact stab_le hp h1 h2 hq (by omega)⟩
set_option maxHeartbeats 1000000 in
/-- an arc of a that writes nothing, beside a state of b -/
theorem tc_one {f : Arc} {F i j r t x : Nat} {kk kt : List AV → AH → Prop} (ha : a.Ok) (hb : b.Ok) (hS : a.states * b.states ≤ 3000) (hn : n ≤ 61) (hk : k ≤ 61) (hw : WF H) (htc : TC a b n k A B p9 p10 p11 p14 R H better L) (h : RndG (prodM a b) true I O n k Lo better L D) (hf : f ∈ a.arcs) (ho : f.out = 0) (gF : H.get F = some (.box 53 f.cs)) (hi : i < n) (hj : j < k) (hr : r < n) (hadv : adv f.inn I i = some r) (ht : (t : Int) < b.states)
    (hgo : ∀ better' L' H', H.nx ≤ H'.nx → (∀ j, j < H.nx → j ≠ R → j ≠ p14 → H'.get j = H.get j) → TC a b n k A B p9 p10 p11 p14 R H' better' L' → RndG (prodM a b) true I O n k Lo better' L' (Seen D (arc1 b.states f (t : Int)) i j) → kt [iv ((t + 1 : Nat) : Int)] H') :
    S_wordhoardref_ThroughCost_L1 (.ptr B 0) (.ptr p11 0) (.fn (.func 37) [] [.ptr B 0, .ptr p9 0, .ptr p10 0]) (.fn (.func 38) [] [.ptr p11 0, .ptr p14 0]) [iv (i : Int)] [iv (j : Int)] kk [iv (x : Int)] (.ptr F 0) [iv (r : Int)] [iv (t : Int)] kt H := by
  have hfit := prod_fit ha hb
  have o := ha.2.2.2.2.1 f hf
  have hb1 := hb.1
  have hb2 := hb.2.1
  have hB := htc.gB
  unfold Mac.cs iv at hB
  have hg11 := htc.g11
  have hgR := htc.gR
  have htv := ivn (i := t) (by omega)
  have hmem : arc1 b.states f (t : Int) ∈ (prodM a b).arcs := List.mem_append.2 (.inl (List.mem_flatMap.2 ⟨f, hf, by unfold fam12; rw [if_pos ho]; exact List.mem_map.2 ⟨t, List.mem_range.2 (by omega), rfl⟩⟩))
  have p1 := pair_lt (s := f.fr) (t := (t : Int)) (A := a.states) (B := b.states) (by omega) (by omega) (by omega) (by omega)
  have p2 := pair_lt (s := f.to) (t := (t : Int)) (A := a.states) (B := b.states) (by omega) (by omega) (by omega) (by omega)
  have hst : (prodM a b).states = a.states * b.states := rfl
  obtain ⟨p, hp⟩ := h.tab.at_ (s := (f.fr * b.states + t).toNat) (i := i) (j := j) (by rw [hst]; omega) hi hj
  obtain ⟨q, hq⟩ := h.tab.at_ (s := (f.to * b.states + t).toNat) (i := r) (j := j) (by rw [hst]; omega) hr hj
  have hp0 := h.tab.nonneg (by rw [hst]; omega) hi hj hp
  have hpl := (List.getElem?_eq_some_iff.1 hp).1
  have hpe := nE_get hp
  unfold iv at hpe
  unfold Arc.cs iv at gF
  have hdr : dear = 1152921504606846976 := rfl
  have hlen : L.length ≤ 9223372036854775807 := by
    rw [h.tab.len, hst]
    have h1 : (a.states * b.states).toNat * n * k ≤ 3000 * 61 * 61 := Nat.mul_le_mul (Nat.mul_le_mul (by omega) hn) hk
    omega
  have hw1 : IntKind.i64.wrap (p + f.w) = p + f.w := by rw [IntKind.wrap_i64]; omega
  unfold S_wordhoardref_ThroughCost_L1
  simp (disch := first | omega | simp) [iv, hB, ht, hg11, gF]
  refine cav_pure (by kernel_rfl) (fun H2 hle => c_place (a := a) (hle _ _ htc.gB) (hle _ _ htc.g9) (hle _ _ htc.g10) hS (by omega) (by omega) (by omega) ht hn hk hi hj) ?_
  by_cases hpd : p < 1152921504606846976
  · simp (disch := first | omega | simp) [iv, hgR, hpe, hpl, hpd, gF]
    generalize hNe : AH.up _ 13 = N
    have hNn : N.nx = H.nx + 13 := by rw [← hNe]; rfl
    have hNk : ∀ j, j < H.nx → N.get j = H.get j := fun j _ => by rw [← hNe]; rfl
    clear hNe
    have hNt := htc.keep hw hNk
    have hgFN : N.get F = some (.box 53 [.p (.int .i64 f.fr), .p (.int .i64 f.to), .p (.int .i64 f.inn), .p (.int .i64 f.out), .p (.int .i64 f.w)]) := by rw [hNk _ (hw _ _ gF).1]; exact gF
    refine cav_pure (by kernel_rfl) (fun H2 hle => c_place (a := a) (hle _ _ hNt.gB) (hle _ _ hNt.g9) (hle _ _ hNt.g10) hS (by omega) (by omega) (by omega) ht hn hk hr hj) ?_
    simp (disch := first | omega | simp) [iv, hgFN, hw1]
    refine ca_of (by kernel_rfl) (c_lower (x := q) hNt.g11 hNt.g14 hNt.gR hq hlen) ?_
    intro r0 H2 hl
    obtain ⟨better', L', n1, n2⟩ := seen_low hfit h hNt hmem hi hj hr hj hp (by omega) hadv (by unfold advo adv arc1; simp) hq hl
    obtain ⟨_, l2, l3, _⟩ := hl
    simp (disch := first | omega | simp) [htv]
    exact hgo better' L' H2 (by omega) (fun j hj h1 h2 => (l3 j h1 h2).trans (hNk j hj)) n1 n2
  · simp (disch := first | omega | simp) [iv, hgR, hpe, hpl, hpd, htv]
    refine hgo better L H (Nat.le_refl _) (fun _ _ _ _ => rfl) htc (seen_dear h ?_)
    have : p = dear := by omega
    rw [← this]; exact hp
set_option maxHeartbeats 1000000 in
/-- an arc of a and one of b that reads what it writes -/
theorem tc_two {f g : Arc} {F G i j r w t : Nat} {kt : List AV → AH → Prop} (ha : a.Ok) (hb : b.Ok) (hS : a.states * b.states ≤ 3000) (hn : n ≤ 61) (hk : k ≤ 61) (hw : WF H) (htc : TC a b n k A B p9 p10 p11 p14 R H better L) (h : RndG (prodM a b) true I O n k Lo better L D) (hf : f ∈ a.arcs) (ho : f.out ≠ 0) (hg : g ∈ b.arcs) (hgo2 : g.inn = f.out) (gF : H.get F = some (.box 53 f.cs)) (gG : H.get G = some (.box 53 g.cs)) (ht : t < 9223372036854775807) (hi : i < n) (hj : j < k) (hr : r < n) (hadv : adv f.inn I i = some r) (hwk : w < k) (hadvo : advo true g.out O j = some w)
    (hgo : ∀ better' L' H', H.nx ≤ H'.nx → (∀ j, j < H.nx → j ≠ R → j ≠ p14 → H'.get j = H.get j) → TC a b n k A B p9 p10 p11 p14 R H' better' L' → RndG (prodM a b) true I O n k Lo better' L' (Seen D (arc2 b.states f g) i j) → kt [iv ((t + 1 : Nat) : Int)] H') :
    S_wordhoardref_ThroughCost_K2 (.ptr p11 0) (.fn (.func 37) [] [.ptr B 0, .ptr p9 0, .ptr p10 0]) (.fn (.func 38) [] [.ptr p11 0, .ptr p14 0]) [iv (i : Int)] [iv (j : Int)] (.ptr F 0) [iv (r : Int)] kt [iv (t : Int)] (.ptr G 0) [iv (w : Int)] H := by
  have hfit := prod_fit ha hb
  have o := ha.2.2.2.2.1 f hf
  have og := hb.2.2.2.2.1 g hg
  have hb1 := hb.1
  have hb2 := hb.2.1
  have hB := htc.gB
  unfold Mac.cs iv at hB
  have hg11 := htc.g11
  have hgR := htc.gR
  have htv := ivn (i := t) (by omega)
  have hmem : arc2 b.states f g ∈ (prodM a b).arcs := List.mem_append.2 (.inl (List.mem_flatMap.2 ⟨f, hf, by unfold fam12; rw [if_neg ho]; exact List.mem_map.2 ⟨g, List.mem_filter.2 ⟨hg, by simpa using hgo2⟩, rfl⟩⟩))
  have p1 := pair_lt (s := f.fr) (t := g.fr) (A := a.states) (B := b.states) (by omega) (by omega) (by omega) (by omega)
  have p2 := pair_lt (s := f.to) (t := g.to) (A := a.states) (B := b.states) (by omega) (by omega) (by omega) (by omega)
  have hst : (prodM a b).states = a.states * b.states := rfl
  obtain ⟨p, hp⟩ := h.tab.at_ (s := (f.fr * b.states + g.fr).toNat) (i := i) (j := j) (by rw [hst]; omega) hi hj
  obtain ⟨q, hq⟩ := h.tab.at_ (s := (f.to * b.states + g.to).toNat) (i := r) (j := w) (by rw [hst]; omega) hr hwk
  have hp0 := h.tab.nonneg (by rw [hst]; omega) hi hj hp
  have hpl := (List.getElem?_eq_some_iff.1 hp).1
  have hpe := nE_get hp
  unfold iv at hpe
  unfold Arc.cs iv at gF gG
  have hdr : dear = 1152921504606846976 := rfl
  have hlen : L.length ≤ 9223372036854775807 := by
    rw [h.tab.len, hst]
    have h1 : (a.states * b.states).toNat * n * k ≤ 3000 * 61 * 61 := Nat.mul_le_mul (Nat.mul_le_mul (by omega) hn) hk
    omega
  have hw1 : IntKind.i64.wrap (p + f.w) = p + f.w := by rw [IntKind.wrap_i64]; omega
  have hw2 : IntKind.i64.wrap (p + f.w + g.w) = p + (f.w + g.w) := by rw [IntKind.wrap_i64]; omega
  unfold S_wordhoardref_ThroughCost_K2
  simp (disch := first | omega | simp) [iv, hg11, gF, gG]
  refine cav_pure (by kernel_rfl) (fun H2 hle => c_place (a := a) (hle _ _ htc.gB) (hle _ _ htc.g9) (hle _ _ htc.g10) hS (by omega) (by omega) (by omega) (by omega) hn hk hi hj) ?_
  by_cases hpd : p < 1152921504606846976
  · simp (disch := first | omega | simp) [iv, hgR, hpe, hpl, hpd, gF, gG]
    generalize hNe : AH.up _ 17 = N
    have hNn : N.nx = H.nx + 17 := by rw [← hNe]; rfl
    have hNk : ∀ j, j < H.nx → N.get j = H.get j := fun j _ => by rw [← hNe]; rfl
    clear hNe
    have hNt := htc.keep hw hNk
    have hgFN : N.get F = some (.box 53 [.p (.int .i64 f.fr), .p (.int .i64 f.to), .p (.int .i64 f.inn), .p (.int .i64 f.out), .p (.int .i64 f.w)]) := by rw [hNk _ (hw _ _ gF).1]; exact gF
    have hgGN : N.get G = some (.box 53 [.p (.int .i64 g.fr), .p (.int .i64 g.to), .p (.int .i64 g.inn), .p (.int .i64 g.out), .p (.int .i64 g.w)]) := by rw [hNk _ (hw _ _ gG).1]; exact gG
    refine cav_pure (by kernel_rfl) (fun H2 hle => c_place (a := a) (hle _ _ hNt.gB) (hle _ _ hNt.g9) (hle _ _ hNt.g10) hS (by omega) (by omega) (by omega) (by omega) hn hk hr hwk) ?_
    simp (disch := first | omega | simp) [iv, hgFN, hgGN, hw1, hw2]
    refine ca_of (by kernel_rfl) (c_lower (x := q) hNt.g11 hNt.g14 hNt.gR hq hlen) ?_
    intro r0 H2 hl
    obtain ⟨better', L', n1, n2⟩ := seen_low hfit h hNt hmem hi hj hr hwk hp (by omega) hadv hadvo hq hl
    obtain ⟨_, l2, l3, _⟩ := hl
    simp (disch := first | omega | simp) [htv]
    exact hgo better' L' H2 (by omega) (fun j hj h1 h2 => (l3 j h1 h2).trans (hNk j hj)) n1 n2
  · simp (disch := first | omega | simp) [iv, hgR, hpe, hpl, hpd, htv]
    refine hgo better L H (Nat.le_refl _) (fun _ _ _ _ => rfl) htc (seen_dear h ?_)
    have : p = dear := by omega
    rw [← this]; exact hp
set_option maxHeartbeats 1000000 in
/-- an arc of b that reads nothing, beside a state of a -/
theorem tc_three {f : Arc} {F i j r t x : Nat} {kk kt : List AV → AH → Prop} (ha : a.Ok) (hb : b.Ok) (hS : a.states * b.states ≤ 3000) (hn : n ≤ 61) (hk : k ≤ 61) (hw : WF H) (htc : TC a b n k A B p9 p10 p11 p14 R H better L) (h : RndG (prodM a b) true I O n k Lo better L D) (hf : f ∈ b.arcs) (ho : f.inn = 0) (gF : H.get F = some (.box 53 f.cs)) (hi : i < n) (hj : j < k) (hr : r < k) (hadv : advo true f.out O j = some r) (ht : (t : Int) < a.states)
    (hgo : ∀ better' L' H', H.nx ≤ H'.nx → (∀ j, j < H.nx → j ≠ R → j ≠ p14 → H'.get j = H.get j) → TC a b n k A B p9 p10 p11 p14 R H' better' L' → RndG (prodM a b) true I O n k Lo better' L' (Seen D (arc3 b.states f (t : Int)) i j) → kt [iv ((t + 1 : Nat) : Int)] H') :
    S_wordhoardref_ThroughCost_L7 (.ptr A 0) (.ptr p11 0) (.fn (.func 37) [] [.ptr B 0, .ptr p9 0, .ptr p10 0]) (.fn (.func 38) [] [.ptr p11 0, .ptr p14 0]) [iv (i : Int)] [iv (j : Int)] kk [iv (x : Int)] (.ptr F 0) [iv (r : Int)] [iv (t : Int)] kt H := by
  have hfit := prod_fit ha hb
  have o := hb.2.2.2.2.1 f hf
  have hb1 := ha.1
  have hb2 := ha.2.1
  have hB := htc.gA
  unfold Mac.cs iv at hB
  have hg11 := htc.g11
  have hgR := htc.gR
  have htv := ivn (i := t) (by omega)
  have hmem : arc3 b.states f (t : Int) ∈ (prodM a b).arcs := List.mem_append.2 (.inr (List.mem_flatMap.2 ⟨f, hf, by unfold fam3; rw [if_pos ho]; exact List.mem_map.2 ⟨t, List.mem_range.2 (by omega), rfl⟩⟩))
  have p1 := pair_lt (s := (t : Int)) (t := f.fr) (A := a.states) (B := b.states) (by omega) (by omega) (by omega) (by omega)
  have p2 := pair_lt (s := (t : Int)) (t := f.to) (A := a.states) (B := b.states) (by omega) (by omega) (by omega) (by omega)
  have hst : (prodM a b).states = a.states * b.states := rfl
  obtain ⟨p, hp⟩ := h.tab.at_ (s := (t * b.states + f.fr).toNat) (i := i) (j := j) (by rw [hst]; omega) hi hj
  obtain ⟨q, hq⟩ := h.tab.at_ (s := (t * b.states + f.to).toNat) (i := i) (j := r) (by rw [hst]; omega) hi hr
  have hp0 := h.tab.nonneg (by rw [hst]; omega) hi hj hp
  have hpl := (List.getElem?_eq_some_iff.1 hp).1
  have hpe := nE_get hp
  unfold iv at hpe
  unfold Arc.cs iv at gF
  have hdr : dear = 1152921504606846976 := rfl
  have hlen : L.length ≤ 9223372036854775807 := by
    rw [h.tab.len, hst]
    have h1 : (a.states * b.states).toNat * n * k ≤ 3000 * 61 * 61 := Nat.mul_le_mul (Nat.mul_le_mul (by omega) hn) hk
    omega
  have hw1 : IntKind.i64.wrap (p + f.w) = p + f.w := by rw [IntKind.wrap_i64]; omega
  unfold S_wordhoardref_ThroughCost_L7
  simp (disch := first | omega | simp) [iv, hB, ht, hg11, gF]
  refine cav_pure (by kernel_rfl) (fun H2 hle => c_place (a := a) (hle _ _ htc.gB) (hle _ _ htc.g9) (hle _ _ htc.g10) hS (by omega) ht (by omega) (by omega) hn hk hi hj) ?_
  by_cases hpd : p < 1152921504606846976
  · simp (disch := first | omega | simp) [iv, hgR, hpe, hpl, hpd, gF]
    generalize hNe : AH.up _ 13 = N
    have hNn : N.nx = H.nx + 13 := by rw [← hNe]; rfl
    have hNk : ∀ j, j < H.nx → N.get j = H.get j := fun j _ => by rw [← hNe]; rfl
    clear hNe
    have hNt := htc.keep hw hNk
    have hgFN : N.get F = some (.box 53 [.p (.int .i64 f.fr), .p (.int .i64 f.to), .p (.int .i64 f.inn), .p (.int .i64 f.out), .p (.int .i64 f.w)]) := by rw [hNk _ (hw _ _ gF).1]; exact gF
    refine cav_pure (by kernel_rfl) (fun H2 hle => c_place (a := a) (hle _ _ hNt.gB) (hle _ _ hNt.g9) (hle _ _ hNt.g10) hS (by omega) ht (by omega) (by omega) hn hk hi hr) ?_
    simp (disch := first | omega | simp) [iv, hgFN, hw1]
    refine ca_of (by kernel_rfl) (c_lower (x := q) hNt.g11 hNt.g14 hNt.gR hq hlen) ?_
    intro r0 H2 hl
    obtain ⟨better', L', n1, n2⟩ := seen_low hfit h hNt hmem hi hj hi hr hp (by omega) (by unfold adv arc3; simp) hadv hq hl
    obtain ⟨_, l2, l3, _⟩ := hl
    simp (disch := first | omega | simp) [htv]
    exact hgo better' L' H2 (by omega) (fun j hj h1 h2 => (l3 j h1 h2).trans (hNk j hj)) n1 n2
  · simp (disch := first | omega | simp) [iv, hgR, hpe, hpl, hpd, htv]
    refine hgo better L H (Nat.le_refl _) (fun _ _ _ _ => rfl) htc (seen_dear h ?_)
    have : p = dear := by omega
    rw [← this]; exact hp
end
end Go.Proofs.Ytgkkilbeingleaa
