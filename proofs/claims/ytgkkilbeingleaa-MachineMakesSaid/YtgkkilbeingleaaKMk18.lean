/- The law MachineMakes holds: whatever comes in, the call returns true and its arguments read as they did. No condition. -/
import Derived.Test.YtgkkilbeingleaaKMk17
import Derived.JoinedOf
import Derived.JoinedAt

/- The constant machine: its cost is 3. -/
namespace Go.Proofs.Ytgkkilbeingleaa
open Go.RowKit Go.Maps
theorem c_sp1 (x : Int) : PF Try.prog 55 [iv x] (bv (!(decide (1 ≤ x) && decide (x ≤ 60)))) := fun H => tri_wf fun hw => tri_machine_spoken_fn1 (by
  unfold S_machine_spoken_fn1
  by_cases h1 : x < 1
  · simp (disch := first | omega | simp) [iv, h1]
    exact rt_refl ⟨rfl, by have : ¬ 1 ≤ x := by omega
                           simp [bv, this]⟩ (Nat.le_refl _)
  · by_cases h2 : 60 < x
    · simp (disch := first | omega | simp) [iv, h1, h2]
      exact rt_refl ⟨rfl, by have : ¬ x ≤ 60 := by omega
                             simp [bv, this]⟩ (Nat.le_refl _)
    · simp (disch := first | omega | simp) [iv, h1, h2]
      exact rt_refl ⟨rfl, by have : x ≤ 60 := by omega
                             have : 1 ≤ x := by omega
                             simp [bv, *]⟩ (Nat.le_refl _))
theorem c_spokenIx (l : List Int) {H : AH} : Tri Try.prog 57 [.dsl 1 (nE l), .fn (.func 55) [] []] H (fun r H' => H' = H ∧ ∃ i : Int, r = iv i ∧ ((i < 0 ∧ symB l = true) ∨ (0 ≤ i ∧ symB l = false))) := tri_wf fun hw => tri_len 0 rfl fun hl _ => tri_slices_IndexFunc_s_int_int (by
  have hml : maxLen = 9223372036854775807 := by decide
  rw [nE_len] at hl
  unfold S_slices_IndexFunc_s_int_int
  simp (disch := first | omega | simp) []
  refine loop_st (fun i : Nat => [iv i]) (fun i H' => H = H' ∧ i ≤ l.length ∧ symB l = symB (l.drop i)) (fun i => l.length - i) 0 (.refl (Nat.le_refl _)) ⟨rfl, Nat.zero_le _, by rw [List.drop_zero]⟩ ?_
  rintro i _ _ ⟨rfl, hi, hc⟩ k hk
  unfold S_slices_IndexFunc_s_int_int_L1
  by_cases hil : i < l.length
  · obtain ⟨x, hx⟩ : ∃ x, l[i]? = some x := ⟨_, List.getElem?_eq_getElem hil⟩
    have hil' : (i : Int) < (l.length : Int) := by omega
    have hxe := nE_get hx
    have hiv := ivn (i := i) (by omega)
    unfold symB at hc
    rw [all_at hx] at hc
    unfold iv at hxe
    simp (disch := first | omega | simp) [iv, hil', hxe]
    refine ca_pure (by kernel_rfl) (c_sp1 x _) ?_
    cases q : (decide (1 ≤ x) && decide (x ≤ 60)) with
    | true =>
      rw [q, Bool.true_and] at hc
      simp (disch := first | omega | simp) [bv, hiv]
      exact hk (i + 1) _ _ _ (.refl (Nat.le_refl _)) ⟨rfl, hil, hc⟩ (by omega)
    | false =>
      rw [q, Bool.false_and] at hc
      simp (disch := first | omega | simp) [bv]
      exact rt_refl ⟨rfl, i, rfl, .inr ⟨by omega, hc⟩⟩ (Nat.le_refl _)
  · have hil' : ¬ (i : Int) < (l.length : Int) := by omega
    simp (disch := first | omega | simp) [iv, hil']
    exact rt_refl ⟨rfl, -1, rfl, .inl ⟨by omega, by rw [hc, List.drop_eq_nil_iff.2 (by omega)]; rfl⟩⟩ (Nat.le_refl _))
theorem c_spoken (l : List Int) : PF Try.prog 35 [.dsl 1 (nE l)] (bv (symB l)) := fun H => tri_wf fun hw => tri_machine_spoken (by
  unfold S_machine_spoken
  refine ca_of (Q := fun r H' => H' = H ∧ r = bv (!symB l)) (by kernel_rfl) (tri_slices_ContainsFunc_s_int_int (by
    unfold S_slices_ContainsFunc_s_int_int
    refine ca_of (by kernel_rfl) (c_spokenIx l) ?_
    rintro _ _ ⟨rfl, i, rfl, h | h⟩
    · have : ¬ 0 ≤ i := by omega
      simp (disch := first | omega | simp) [iv, this]
      exact rt_refl ⟨rfl, by rw [h.2]; rfl⟩ (Nat.le_refl _)
    · have : 0 ≤ i := by omega
      simp (disch := first | omega | simp) [iv, this]
      exact rt_refl ⟨rfl, by rw [h.2]; rfl⟩ (Nat.le_refl _))) ?_
  rintro _ _ ⟨rfl, rfl⟩
  simp (disch := first | omega | simp) [bv]
  exact rt_refl ⟨rfl, by simp⟩ (Nat.le_refl _))
section
variable {P : Program} {H H1 H2 : AH} {B : Nat}
/-- what a row holds is told anew -/
theorem Gst.resub {r : Nat} {t : TypeId} {sz : Nat} {es es' : List (List AV)} (hg : H.get r = some (.row t sz es)) (hl : es'.length = es.length) (h : ∀ (i : Nat) (e e' : List AV), es[i]? = some e → es'[i]? = some e' → Subs P H e e') : Gst P H (H.put r (.row t sz es')) := by
  have hget : ∀ id o, (H.put r (.row t sz es')).get id = some o → ∃ o', H.get id = some o' ∧ o'.owned = o.owned ∧ ((id = r ∧ o = .row t sz es') ∨ (id ≠ r ∧ o' = o)) := by
    intro id o ho
    by_cases e : id = r
    · subst e; rw [AH.get_put_self] at ho; injection ho with ho; subst ho; exact ⟨_, hg, rfl, .inl ⟨rfl, rfl⟩⟩
    · rw [AH.get_put_ne e] at ho; exact ⟨o, ho, rfl, .inr ⟨e, rfl⟩⟩
  refine ⟨Nat.le_refl _, fun w S σ hs => ⟨S, ⟨hs.sb, hs.dom, fun id o ho => ?_, fun i j o o' b h h' k k' => ?_, fun i o b h k hb => ?_, hs.sl⟩, fun _ h => h, fun _ h => .inl h, ?_⟩⟩
  · obtain ⟨o', h1, _, ⟨rfl, rfl⟩ | ⟨_, rfl⟩⟩ := hget id o ho
    · obtain ⟨A, c, h1, h2, h3, h4, h5⟩ := hs.obj id _ hg
      have hlen : ∀ i e', es'[i]? = some e' → ∃ e, es[i]? = some e := fun i e' he' => by
        have := (List.getElem?_eq_some_iff.1 he').1
        exact ⟨_, List.getElem?_eq_getElem (by omega)⟩
      refine ⟨A, c, by rw [hl]; exact h1, fun e' he' => ?_, by omega, h4, ?_⟩
      · obtain ⟨i, hi⟩ := List.getElem?_of_mem he'
        obtain ⟨e, he⟩ := hlen i e' hi
        rw [← (h i e e' he hi).1]; exact h2 e (List.mem_of_getElem? he)
      · refine h5.imp_right fun ⟨g, o, arr, k0, k1, k2, k3, k4⟩ => ⟨g, o, arr, k0, k1, k2, k3, fun i e' j a' he' ha' => ?_⟩
        obtain ⟨e, he⟩ := hlen i e' he'
        have hsub := h i e e' he he'
        obtain ⟨a, ha⟩ : ∃ a, e[j]? = some a := ⟨_, List.getElem?_eq_getElem (by have := (List.getElem?_eq_some_iff.1 ha').1; have := hsub.1; omega)⟩
        obtain ⟨v, hv, hr⟩ := k4 i e j a he ha
        exact ⟨v, hv, hsub.2 j a a' ha ha' w S σ v hs hr⟩
    · exact hs.obj id _ h1
  · obtain ⟨o1, h1, e1, _⟩ := hget i o h
    obtain ⟨o2, h2, e2, _⟩ := hget j o' h'
    exact hs.dj i j o1 o2 b h1 h2 (e1.trans k) (e2.trans k')
  · obtain ⟨o1, h1, e1, _⟩ := hget i o h
    exact hs.sep i o1 b h1 (e1.trans k) hb
  · rintro b ⟨i, o, h, k, hb⟩
    obtain ⟨o1, h1, e1, _⟩ := hget i o h
    exact ⟨i, o1, h1, e1.trans k, hb⟩
theorem rt_st {v : AV} {Q : AV → AH → Prop} (hs : Gst P H1 H2) (hb : B ≤ H1.nx) (h : Rt P B v Q H2) : Rt P B v Q H1 := Gh.step (.st hs hb) h
end
def from1 : List (List AV) := [[.dsl 5 (oneM.arcs.map Arc.cs)], [.dsl 5 []]]
set_option maxHeartbeats 1000000 in
theorem c_from1 : PF Try.prog 36 [oneM.av] (.dsl 1 from1) := fun H => tri_wf fun hw => tri_machine_from (by
  have hml : maxLen = 9223372036854775807 := by decide
  unfold S_machine_from Mac.av oneM Mac.cs
  simp (disch := first | omega | simp) [iv, Arc.cs, Fin_.cs, put_get_ne]
  refine ⟨by omega, ?_⟩
  obtain ⟨R, hR⟩ : ∃ R, R = H.nx + 2 + 2 := ⟨_, rfl⟩
  rw [← hR]
  generalize hMe : AH.put _ _ _ = M
  have hMl : H.le M := by rw [← hMe]; exact (by repeat (first | with_reducible assumption | with_reducible exact AH.le.refl _ | with_reducible apply AH.le.up | (with_reducible refine AH.le.put hw ?_ ?_; · first | omega | (simp only [up_nx, put_nx, kill_nx]; done) | (simp only [up_nx, put_nx, kill_nx]; omega)) | (with_reducible refine AH.le.kill hw ?_ ?_; · first | omega | (simp only [up_nx, put_nx, kill_nx]; done) | (simp only [up_nx, put_nx, kill_nx]; omega))))
  have hMn : M.nx = H.nx + 6 := by rw [← hMe]; rfl
  have hMR : M.get R = some (.row 22 1 [[.p (.slice none 0 0)], [.p (.slice none 0 0)]]) := by rw [← hMe, put_get]
  clear hMe
  refine loop_wf (fun i : Nat => [iv i]) (fun i H' => H.le H' ∧ M.nx ≤ H'.nx ∧ ((i = 0 ∧ H'.get R = some (.row 22 1 [[.p (.slice none 0 0)], [.p (.slice none 0 0)]])) ∨ (i = 1 ∧ ∃ r, H.nx ≤ r ∧ r ≠ R ∧ H'.get R = some (.row 22 1 [[.osl r 5 0 1], [.p (.slice none 0 0)]]) ∧ H'.get r = some (.row 53 5 (oneM.arcs.map Arc.cs))))) (fun i => 1 - i) 0 (.refl (Nat.le_refl _)) ⟨hMl, Nat.le_refl _, .inl ⟨rfl, hMR⟩⟩ ?_
  rintro i H1 hn1 hw1 ⟨hle, hnx, ⟨rfl, hr⟩ | ⟨rfl, r, h1, h2, h3, h4⟩⟩ k hk
  · unfold S_machine_from_L1
    simp (disch := first | omega | simp) [iv]
    refine ⟨[], ?_⟩
    have hRl : R < H1.nx := by omega
    simp (disch := first | omega | simp) [put_get_ne, hr]
    refine wro_nil (elF_whole (t := 53) (es := oneM.arcs.map Arc.cs) rfl (by simp (disch := first | omega | simp); rfl) rfl) (by simp [oneM]; omega) (by simp [oneM]) ?_
    have hz : IntKind.i64.wrap ((0 : Int) + 1) = 1 := by decide
    simp (disch := first | omega | simp) [put_get_ne, hr]
    refine hk 1 _ _ _ (.refl (by first | omega | (simp only [up_nx, put_nx]; done) | (simp only [up_nx, put_nx]; omega))) ⟨?_, (by first | omega | (simp only [up_nx, put_nx]; done) | (simp only [up_nx, put_nx]; omega)), .inr ⟨rfl, H1.nx + 4 + 10, by omega, by omega, put_get _ _, by simp (disch := first | omega | simp) [put_get_ne]⟩⟩ (by omega)
    exact AH.le.put hw (by omega) (AH.le.put hw (by omega) (AH.le.put hw (by omega) (AH.le.up (AH.le.put hw (by omega) (AH.le.put hw (by omega) (AH.le.up hle))))))
  · unfold S_machine_from_L1
    simp (disch := first | omega | simp) [iv]
    have dA : DtR (oneM.arcs.map Arc.cs) := dt_arcs _
    refine rt_st (.freeze h4 dA) (by first | omega | (simp only [up_nx, put_nx, kill_nx]; done) | (simp only [up_nx, put_nx, kill_nx]; omega)) ?_
    have h3' : (H1.put r (.frz 5 (oneM.arcs.map Arc.cs))).get R = some (.row 22 1 [[.osl r 5 0 1], [.p (.slice none 0 0)]]) := by rw [AH.get_put_ne (Ne.symm h2)]; exact h3
    refine rt_st (.resub (es' := from1) h3' rfl ?_) (by first | omega | (simp only [put_nx]; done) | (simp only [put_nx]; omega)) ?_
    · rintro i e e' he he'
      match i with
      | 0 => injection he with he; injection he' with he'; subst he he'; exact .cons (.frz (es := oneM.arcs.map Arc.cs) (off := 0) (n := 1) (put_get _ _) (Nat.le_refl _)) .nil
      | 1 => injection he with he; injection he' with he'; subst he he'; exact .cons (.nil _ _ (Nat.zero_le _)) .nil
      | i + 2 => cases he
    refine rt_st (.freeze (put_get _ _) ?_) (by first | omega | (simp only [put_nx]; done) | (simp only [put_nx]; omega)) ?_
    · intro e he x hx
      simp only [from1, List.mem_cons, List.not_mem_nil, or_false] at he
      rcases he with rfl | rfl <;> (simp only [List.mem_singleton] at hx; subst hx; exact Dt.dsl _ _)
    refine rt_sub (v' := .dsl 1 from1) hw (by repeat (first | with_reducible assumption | with_reducible exact AH.le.refl _ | with_reducible apply AH.le.up | (with_reducible refine AH.le.put hw ?_ ?_; · first | omega | (simp only [up_nx, put_nx, kill_nx]; done) | (simp only [up_nx, put_nx, kill_nx]; omega)) | (with_reducible refine AH.le.kill hw ?_ ?_; · first | omega | (simp only [up_nx, put_nx, kill_nx]; done) | (simp only [up_nx, put_nx, kill_nx]; omega)))) (by first | omega | (simp only [put_nx]; done) | (simp only [put_nx]; omega)) ?_ (by repeat (first | exact Cl.p _ | exact Cl.dsl _ _ | exact Cl.any | refine Cl.tup ?_ | refine Cl.agg ?_ | exact Clo.nil | refine Clo.cons ?_ ?_)) ⟨rfl, rfl⟩
    exact .frz (es := from1) (off := 0) (n := 2) (put_get _ _) (Nat.le_refl _))
/-- a place as a key -/
def pv (a b c : Int) : Value := .agg #[.int .i64 a, .int .i64 b, .int .i64 c]
theorem laid : laidOutB Try.prog = true := by kernel_rfl
theorem lawPl : Keyed Try.prog 62 := Keyed.of_law (deep_law_laid laid (m := 3) (by omega) (of_decide_eq_true (by kernel_rfl)) (by kernel_rfl) (by kernel_rfl))
theorem fuel3 : ∃ d, Try.prog.types.size + 1 = d + 3 := ⟨Try.prog.types.size - 2, by
  have : 3 ≤ Try.prog.types.size := of_decide_eq_true (by kernel_rfl)
  omega⟩
theorem cellsInt : Try.prog.cellsOf 3 = 1 := by kernel_rfl
theorem cellsPl : Try.prog.cellsOf 62 = 3 := by kernel_rfl
theorem typePl : Try.prog.keyType 62 = true := by kernel_rfl
theorem keyPl {a b c : Int} (h1 : I64 a) (h2 : I64 b) (h3 : I64 c) : (keyOf Try.prog 62 (pv a b c)).isSome = true := by
  obtain ⟨d, hd⟩ := fuel3
  have w1 := h1.wf; have w2 := h2.wf; have w3 := h3.wf
  unfold keyOf pv
  rw [Try.underlying62, hd]
  simp [typePl, Value.formed, Value.cells, Program.keyLits, Try.underlying62, Try.underlying3, cellsPl, cellsInt, w1, w2, w3]
theorem sm {z : Int} (h : 0 ≤ z) (h2 : z ≤ 100) : I64 z := by unfold I64; omega
noncomputable def best0 : Value → Option AV := putA (fun _ => none) (pv 0 0 0) (iv 0)
noncomputable def best1 : Value → Option AV := putA best0 (pv 1 1 1) (iv 3)
theorem best00 : best0 (pv 0 0 0) = some (iv 0) := putA_same _ _ _
theorem best01 : best0 (pv 1 1 1) = none := by unfold best0; rw [putA_other _ _ (by unfold pv; simp)]
theorem best11 : best1 (pv 1 1 1) = some (iv 3) := putA_same _ _ _
set_option maxHeartbeats 1000000 in
theorem c_Cost1 : PF Try.prog 11 [oneM.av, .dsl 1 (nE [1]), .dsl 1 (nE [2])] (.tup [iv 3, bv true, iv 0]) := fun H => tri_wf fun hw => tri_machine_Cost (by
  have hml : maxLen = 9223372036854775807 := by decide
  have hchk : oneM.chk = 0 := Mac.chk_ok.2 (by
    refine ⟨by decide, by decide, by decide, by decide, fun a ha => ?_, fun f hf => ?_, by decide⟩
    · have := List.mem_singleton.1 (show a ∈ [⟨0, 1, 1, 2, 3⟩] from ha); subst this; decide
    · have := List.mem_singleton.1 (show f ∈ [⟨1, 0⟩] from hf); subst this; decide)
  unfold S_machine_Cost
  have hav : oneM.av = .agg [.p (.int .i64 2), .dsl 5 (oneM.arcs.map Arc.cs), .dsl 2 (oneM.fins.map Fin_.cs)] := rfl
  rw [hav]
  simp (disch := first | omega | simp)
  refine ca_pure (by kernel_rfl) (c_Check oneM _) ?_
  rw [hchk]
  simp (disch := first | omega | simp) [iv]
  unfold S_machine_Cost_C10
  simp (disch := first | omega | simp)
  refine ca_pure (by kernel_rfl) (c_spoken [1] _) ?_
  have hs1 : symB [1] = true := by decide
  have hs2 : symB [2] = true := by decide
  rw [hs1]
  simp (disch := first | omega | simp) [bv]
  refine ca_pure (by kernel_rfl) (c_spoken [2] _) ?_
  rw [hs2]
  simp (disch := first | omega | simp) [bv]
  refine ca_pure (by kernel_rfl) (c_from1 _) ?_
  have hk0 : (keyOf Try.prog 62 (pv 0 0 0)).isSome = true := keyPl (sm (by decide) (by decide)) (sm (by decide) (by decide)) (sm (by decide) (by decide))
  have hk1 : (keyOf Try.prog 62 (pv 1 1 1)).isSome = true := keyPl (sm (by decide) (by decide)) (sm (by decide) (by decide)) (sm (by decide) (by decide))
  unfold pv at hk0 hk1
  simp (disch := first | omega | simp) [lawPl, hk0]
  refine ⟨by omega, ?_⟩
  have b00 := best00
  have b01 := best01
  have b11 := best11
  unfold pv at b00 b01 b11
  unfold iv at b00 b11
  obtain ⟨mp, hmp⟩ : ∃ mp, mp = H.nx + 4 := ⟨_, rfl⟩
  obtain ⟨r0, hr0⟩ : ∃ r0, r0 = H.nx + 4 + 5 + 1 := ⟨_, rfl⟩
  rw [← hr0, ← hmp]
  generalize hMe : AH.put _ _ _ = M
  have hMl : H.le M := by rw [← hMe]; exact (by repeat (first | with_reducible assumption | with_reducible exact AH.le.refl _ | with_reducible apply AH.le.up | (with_reducible refine AH.le.put hw ?_ ?_; · first | omega | (simp only [up_nx, put_nx, kill_nx]; done) | (simp only [up_nx, put_nx, kill_nx]; omega)) | (with_reducible refine AH.le.kill hw ?_ ?_; · first | omega | (simp only [up_nx, put_nx, kill_nx]; done) | (simp only [up_nx, put_nx, kill_nx]; omega))))
  have hMn : M.nx = H.nx + 12 := by rw [← hMe]; rfl
  have hM0 : M.get H.nx = some (.box 25 oneM.cs) := by rw [← hMe]; simp (disch := first | omega | simp) [put_get_ne]; rfl
  have hMm : M.get mp = some (.map 62 1 best0) := by rw [← hMe]; simp (disch := first | omega | simp) [put_get_ne]; rfl
  have hMr : M.get r0 = some (.row 62 3 [[iv 0, iv 0, iv 0]]) := by rw [← hMe, put_get]; rfl
  clear hMe
  have hz : IntKind.i64.wrap ((0 : Int) + 1) = 1 := by decide
  have h33 : IntKind.i64.wrap ((0 : Int) + 3) = 3 := by decide
  have h30 : IntKind.i64.wrap ((3 : Int) + 0) = 3 := by decide
  refine loop_wf (fun x : Nat × AV => [x.2]) (fun x H' => H.le H' ∧ M.nx ≤ H'.nx ∧ H'.get H.nx = some (.box 25 oneM.cs) ∧
    ((x.1 = 0 ∧ x.2 = .osl r0 3 0 1 ∧ H'.get r0 = some (.row 62 3 [[iv 0, iv 0, iv 0]]) ∧ H'.get mp = some (.map 62 1 best0)) ∨
     (x.1 = 1 ∧ ∃ r, mp < r ∧ x.2 = .osl r 3 0 1 ∧ H'.get r = some (.row 62 3 [[iv 1, iv 1, iv 1]]) ∧ H'.get mp = some (.map 62 2 best1)) ∨
     (x.1 = 2 ∧ ∃ r, mp < r ∧ x.2 = .osl r 3 1 0 ∧ H'.get mp = some (.map 62 2 best1)))) (fun x => 2 - x.1) (0, .osl r0 3 0 1) (.refl (Nat.le_refl _)) ⟨hMl, Nat.le_refl _, hM0, .inl ⟨rfl, rfl, hMr, hMm⟩⟩ ?_
  rintro ⟨ph, v⟩ H1 hn1 hw1 ⟨hle, hnx, hb, h | h | h⟩ k hk
  · obtain ⟨rfl, rfl, hr, hm⟩ := h
    dsimp only at hr hm hk ⊢
    unfold S_machine_Cost_L9
    unfold iv at hr
    have hf : from1 = [[.dsl 5 (oneM.arcs.map Arc.cs)], [.dsl 5 []]] := rfl
    have ha : oneM.arcs.map Arc.cs = [[.p (.int .i64 0), .p (.int .i64 1), .p (.int .i64 1), .p (.int .i64 2), .p (.int .i64 3)]] := rfl
    simp (disch := first | omega | simp) [hr, hf, ha]
    generalize hM2e : AH.put _ _ _ = M2
    have hM2n : M2.nx = H1.nx + 5 := by rw [← hM2e]; rfl
    have hM2k : ∀ j, j < H1.nx → M2.get j = H1.get j := fun j hj => by rw [← hM2e, AH.get_put_ne (by omega), AH.get_put_ne (by omega), up_get]
    have hM2l : H.le M2 := fun j o ho => by rw [hM2k j (by have := (hw _ _ ho).1; omega)]; exact hle _ _ ho
    have hM2p : M2.get (H1.nx + 3) = some (.box 62 [.p (.int .i64 0), .p (.int .i64 0), .p (.int .i64 0)]) := by rw [← hM2e, put_get]
    clear hM2e
    have hr0l := (hw1 _ _ hr).1
    have hmpl := (hw1 _ _ hm).1
    refine loop_wf (fun x : Nat × AV => [x.2, iv (x.1 : Int)]) (fun x H' => H.le H' ∧ M2.nx ≤ H'.nx ∧ H'.get H.nx = some (.box 25 oneM.cs) ∧ ((x.1 = 0 ∧ x.2 = .osl r0 3 1 0 ∧ (∀ j, j < M2.nx → H'.get j = M2.get j)) ∨ (x.1 = 1 ∧ ∃ r, mp < r ∧ x.2 = .osl r 3 0 1 ∧ H'.get r = some (.row 62 3 [[iv 1, iv 1, iv 1]]) ∧ H'.get mp = some (.map 62 2 best1)))) (fun x => 1 - x.1) (0, .osl r0 3 1 0) (.refl (Nat.le_refl _)) ⟨hM2l, Nat.le_refl _, by rw [hM2k _ (by omega)]; exact hb, .inl ⟨rfl, rfl, fun _ _ => rfl⟩⟩ ?_
    rintro ⟨i, v⟩ H3 hn3 hw3 ⟨hle3, hnx3, hb3, h | h⟩ k3 hk3
    · obtain ⟨rfl, rfl, hsm⟩ := h
      dsimp only at hk3 ⊢
      have q1 : H3.get r0 = _ := (hsm r0 (by omega)).trans ((hM2k r0 hr0l).trans hr)
      have q2 : H3.get mp = _ := (hsm mp (by omega)).trans ((hM2k mp hmpl).trans hm)
      have q3 : H3.get (H1.nx + 3) = _ := (hsm _ (by omega)).trans hM2p
      unfold S_machine_Cost_L6
      simp (disch := first | omega | simp) [iv]
      unfold S_machine_Cost_C5
      simp (disch := first | omega | simp) [put_get_ne, q3]
      obtain ⟨A, hA⟩ : ∃ A, A = H3.nx + 2 := ⟨_, rfl⟩
      obtain ⟨B, hB⟩ : ∃ B, B = H3.nx + 4 + 7 := ⟨_, rfl⟩
      obtain ⟨C, hC⟩ : ∃ C, C = H1.nx + 3 := ⟨_, rfl⟩
      rw [← hA, ← hB, ← hC]
      rw [← hC] at q3
      generalize hM4e : AH.put _ _ _ = M4
      have hM4n : M4.nx = H3.nx + 13 := by rw [← hM4e]; rfl
      have hM4k : ∀ j, j < H3.nx → M4.get j = H3.get j := fun j hj => by rw [← hM4e, AH.get_put_ne (by omega), AH.get_put_ne (by omega), up_get, AH.get_put_ne (by omega), AH.get_put_ne (by omega), up_get]
      have hM4l : H.le M4 := fun j o ho => by rw [hM4k j (by have := (hw _ _ ho).1; omega)]; exact hle3 _ _ ho
      have gA : M4.get A = some (.box 53 [.p (.int .i64 0), .p (.int .i64 1), .p (.int .i64 1), .p (.int .i64 2), .p (.int .i64 3)]) := by rw [← hM4e]; simp (disch := first | omega | simp) [put_get_ne, hA, hB]
      have gB : M4.get B = some (.box 62 [.p (.int .i64 1), .p (.int .i64 0), .p (.int .i64 0)]) := by rw [← hM4e, put_get]
      clear hM4e
      have gC := (hM4k C (by omega)).trans q3
      have gr := (hM4k r0 (by omega)).trans q1
      have gm := (hM4k mp (by omega)).trans q2
      have gH := (hM4k H.nx (by omega)).trans hb3
      have hAB : A ≠ B := by omega
      have hCB : C ≠ B := by omega
      have hrB : r0 ≠ B := by omega
      have hmB : mp ≠ B := by omega
      have hHB : H.nx ≠ B := by omega
      have e1 : nE [1] = [[.p (.int .i64 1)]] := rfl
      have e2 : nE [2] = [[.p (.int .i64 2)]] := rfl
      refine cut_st (fun _ : Unit => []) (fun _ H' => ((M4.up 5).put B (.box 62 [.p (.int .i64 1), .p (.int .i64 1), .p (.int .i64 0)])) = H') (fun kk hkk => ?_) ?_
      · simp (disch := first | omega | simp) [gA]
        unfold S_machine_Cost_C4
        simp (disch := first | omega | simp) [gA, gB, gC, e1]
        exact hkk () _ _ _ (.refl (by simp only [put_nx, up_nx]; omega)) rfl
      rintro _ _ _ rfl
      unfold S_machine_Cost_K3
      have fC := fun z : AO => (AH.get_put_ne (H := M4.up 5) (o := z) hCB).trans gC
      have fA := fun z : AO => (AH.get_put_ne (H := M4.up 5) (o := z) hAB).trans gA
      generalize hM5e : AH.put _ _ _ = M5
      have hM5n : M5.nx = M4.nx + 5 := by rw [← hM5e]; rfl
      have kA : M5.get A = some (.box 53 [.p (.int .i64 0), .p (.int .i64 1), .p (.int .i64 1), .p (.int .i64 2), .p (.int .i64 3)]) := by rw [← hM5e]; exact fA _
      have kB : M5.get B = some (.box 62 [.p (.int .i64 1), .p (.int .i64 1), .p (.int .i64 0)]) := by rw [← hM5e, put_get]
      have kC : M5.get C = some (.box 62 [.p (.int .i64 0), .p (.int .i64 0), .p (.int .i64 0)]) := by rw [← hM5e]; exact fC _
      have hM5l : H.le M5 := by rw [← hM5e]; exact AH.le.put hw (by omega) (AH.le.up hM4l)
      have hkr : M5.get r0 = some (.row 62 3 [[.p (.int .i64 0), .p (.int .i64 0), .p (.int .i64 0)]]) := by rw [← hM5e, AH.get_put_ne hrB]; exact gr
      have hkm : M5.get mp = some (.map 62 1 best0) := by rw [← hM5e, AH.get_put_ne hmB]; exact gm
      have hkH : M5.get H.nx = some (.box 25 oneM.cs) := by rw [← hM5e, AH.get_put_ne hHB]; exact gH
      clear hM5e fC fA
      refine cut_st (fun _ : Unit => []) (fun _ H' => ((M5.up 5).put B (.box 62 [.p (.int .i64 1), .p (.int .i64 1), .p (.int .i64 1)])) = H') (fun kk hkk => ?_) ?_
      · simp (disch := first | omega | simp) [kA]
        unfold S_machine_Cost_C2
        simp (disch := first | omega | simp) [kA, kB, kC, e2]
        exact hkk () _ _ _ (.refl (by simp only [put_nx, up_nx]; omega)) rfl
      rintro _ _ _ rfl
      unfold S_machine_Cost_K1
      generalize hM6e : AH.put _ _ _ = M6
      have hM6n : M6.nx = M5.nx + 5 := by rw [← hM6e]; rfl
      have lA : M6.get A = some (.box 53 [.p (.int .i64 0), .p (.int .i64 1), .p (.int .i64 1), .p (.int .i64 2), .p (.int .i64 3)]) := by rw [← hM6e, AH.get_put_ne hAB]; exact kA
      have lB : M6.get B = some (.box 62 [.p (.int .i64 1), .p (.int .i64 1), .p (.int .i64 1)]) := by rw [← hM6e, put_get]
      have lC : M6.get C = some (.box 62 [.p (.int .i64 0), .p (.int .i64 0), .p (.int .i64 0)]) := by rw [← hM6e, AH.get_put_ne hCB]; exact kC
      have hM6l : H.le M6 := by rw [← hM6e]; exact AH.le.put hw (by omega) (AH.le.up hM5l)
      have lr : M6.get r0 = some (.row 62 3 [[.p (.int .i64 0), .p (.int .i64 0), .p (.int .i64 0)]]) := by rw [← hM6e, AH.get_put_ne hrB]; exact hkr
      have lm : M6.get mp = some (.map 62 1 best0) := by rw [← hM6e, AH.get_put_ne hmB]; exact hkm
      have lH : M6.get H.nx = some (.box 25 oneM.cs) := by rw [← hM6e, AH.get_put_ne hHB]; exact hkH
      clear hM6e
      have hrm : r0 ≠ mp := by omega
      have hBm : B ≠ mp := by omega
      simp (disch := first | omega | simp) [lA, lB, lC, lm, lawPl, hk0, hk1, b00, b01, put_get_ne, lr]
      refine ⟨by omega, by omega, ?_⟩
      have hrH : H.nx ≠ r0 := by omega
      have hmH : H.nx ≠ mp := by omega
      refine hk3 (1, .osl (M6.nx + 4 + 3) 3 0 1) _ _ _ (.refl (by first | omega | (simp only [up_nx, put_nx, kill_nx]; done) | (simp only [up_nx, put_nx, kill_nx]; omega))) ⟨AH.le.put hw (by omega) (AH.le.kill hw (by omega) (AH.le.put hw (by omega) (AH.le.up (AH.le.put hw (by omega) (AH.le.up hM6l))))), (by first | omega | (simp only [up_nx, put_nx, kill_nx]; done) | (simp only [up_nx, put_nx, kill_nx]; omega)), ?_, .inr ⟨rfl, M6.nx + 4 + 3, by omega, rfl, put_get _ _, ?_⟩⟩ (by dsimp only; omega)
      · rw [AH.get_put_ne (by omega), AH.kill, AH.get_put_ne hrH, AH.get_put_ne (by omega), up_get, AH.get_put_ne hmH, up_get]; exact lH
      · rw [AH.get_put_ne (by omega), AH.kill, AH.get_put_ne (Ne.symm hrm), AH.get_put_ne (by omega), up_get, put_get]; rfl
    · obtain ⟨rfl, r, hrm, rfl, h1, h2⟩ := h
      dsimp only at hk3 ⊢
      unfold S_machine_Cost_L6
      simp (disch := first | omega | simp) [iv]
      exact hk (1, .osl r 3 0 1) _ _ _ (.refl (by omega)) ⟨hle3, by omega, hb3, .inr (.inl ⟨rfl, r, hrm, rfl, h1, h2⟩)⟩ (by dsimp only; omega)
  · obtain ⟨rfl, r, hrm, rfl, hr, hm⟩ := h
    dsimp only at hr hm hk ⊢
    unfold S_machine_Cost_L9
    unfold iv at hr
    have hf : from1 = [[.dsl 5 (oneM.arcs.map Arc.cs)], [.dsl 5 []]] := rfl
    simp (disch := first | omega | simp) [hr, hf]
    generalize hM2e : AH.put _ _ _ = M2
    have hM2n : M2.nx = H1.nx + 5 := by rw [← hM2e]; rfl
    have hM2k : ∀ j, j < H1.nx → M2.get j = H1.get j := fun j hj => by rw [← hM2e, AH.get_put_ne (by omega), AH.get_put_ne (by omega), up_get]
    have hM2l : H.le M2 := fun j o ho => by rw [hM2k j (by have := (hw _ _ ho).1; omega)]; exact hle _ _ ho
    clear hM2e
    have hmpl := (hw1 _ _ hm).1
    refine loop_st (fun _ : Unit => [.osl r 3 1 0, iv 0]) (fun _ H' => M2 = H') (fun _ => 0) () (.refl (Nat.le_refl _)) rfl ?_
    rintro _ _ _ rfl k3 hk3
    unfold S_machine_Cost_L6
    simp (disch := first | omega | simp) [iv]
    exact hk (2, .osl r 3 1 0) _ _ _ (.refl (by omega)) ⟨hM2l, by omega, by rw [hM2k _ (by omega)]; exact hb, .inr (.inr ⟨rfl, r, hrm, rfl, by rw [hM2k _ hmpl]; exact hm⟩)⟩ (by dsimp only; omega)
  · obtain ⟨rfl, r, hrm, rfl, hm⟩ := h
    dsimp only at hm hk ⊢
    unfold S_machine_Cost_L9
    have hcs : oneM.cs = [.p (.int .i64 2), .dsl 5 (oneM.arcs.map Arc.cs), .dsl 2 [[.p (.int .i64 1), .p (.int .i64 0)]]] := rfl
    rw [hcs] at hb
    simp (disch := first | omega | simp) [hb]
    have hmpl := (hw1 _ _ hm).1
    refine loop_wf (fun i : Nat => if i = 0 then [iv 0, bv false, iv 0] else [iv 3, bv true, iv 1]) (fun i H' => H.le H' ∧ H1.nx ≤ H'.nx ∧ i ≤ 1 ∧ H'.get mp = some (.map 62 2 best1)) (fun i => 1 - i) 0 (by rw [if_pos rfl]; exact .refl (Nat.le_refl _)) ⟨hle, Nat.le_refl _, by omega, hm⟩ ?_
    rintro i H3 hn3 hw3 ⟨hle3, hnx3, hi, hm3⟩ k3 hk3
    unfold S_machine_Cost_L8
    by_cases h0 : i = 0
    · subst h0
      rw [if_pos rfl]
      simp (disch := first | omega | simp) [iv]
      unfold S_machine_Cost_C7
      simp (disch := first | omega | simp) [bv, put_get_ne, hm3, lawPl, hk1, b11]
      exact hk3 1 _ _ _ (by rw [if_neg (by decide)]; exact .refl (by first | omega | (simp only [up_nx, put_nx]; done) | (simp only [up_nx, put_nx]; omega))) ⟨AH.le.put hw (by omega) (AH.le.put hw (by omega) (AH.le.up hle3)), (by first | omega | (simp only [up_nx, put_nx]; done) | (simp only [up_nx, put_nx]; omega)), Nat.le_refl _, by rw [AH.get_put_ne (by omega), AH.get_put_ne (by omega)]; exact hm3⟩ (by omega)
    · have : i = 1 := by omega
      subst this
      rw [if_neg (by decide)]
      simp (disch := first | omega | simp) [iv, bv]
      exact rt_one hw hle3 (by repeat (first | exact Cl.p _ | exact Cl.dsl _ _ | exact Cl.any | refine Cl.tup ?_ | refine Cl.agg ?_ | exact Clo.nil | refine Clo.cons ?_ ?_)) ⟨rfl, rfl⟩)
theorem c_begun : PF Try.prog 7 [] (bv true) := fun H => tri_wf fun hw => tri_wordhoardlaw_machineBegun (by
  unfold S_wordhoardlaw_machineBegun
  simp (disch := first | omega | simp) []
  refine ca_pure (by kernel_rfl) (c_one _) ?_
  simp (disch := first | omega | simp)
  generalize hMe : AH.put _ _ _ = M
  have hMl : H.le M := by rw [← hMe]; exact (by repeat (first | with_reducible assumption | with_reducible exact AH.le.refl _ | with_reducible apply AH.le.up | (with_reducible refine AH.le.put hw ?_ ?_; · first | omega | (simp only [up_nx, put_nx, kill_nx]; done) | (simp only [up_nx, put_nx, kill_nx]; omega)) | (with_reducible refine AH.le.kill hw ?_ ?_; · first | omega | (simp only [up_nx, put_nx, kill_nx]; done) | (simp only [up_nx, put_nx, kill_nx]; omega))))
  have hMn : M.nx = H.nx + 11 := by rw [← hMe]; rfl
  have g1 : M.get (H.nx + 1) = some (.row 3 1 (nE [1])) := by rw [← hMe]; simp (disch := first | omega | simp) [put_get_ne]; rfl
  have g2 : M.get (H.nx + 2) = some (.row 3 1 (nE [2])) := by rw [← hMe]; simp (disch := first | omega | simp); rfl
  clear hMe
  have d1 : ∀ x : Int, DtR (nE [x]) := fun x e he a ha => by
    simp only [nE, List.map_cons, List.map_nil, List.mem_singleton] at he
    subst he
    simp only [List.mem_singleton] at ha
    subst ha; exact Dt.p _
  have g2' : (M.put (H.nx + 1) (.frz 1 (nE [1]))).get (H.nx + 2) = some (.row 3 1 (nE [2])) := by rw [AH.get_put_ne (by omega)]; exact g2
  refine ca_of (Q := fun r H' => H' = (M.put (H.nx + 1) (.frz 1 (nE [1]))).put (H.nx + 2) (.frz 1 (nE [2])) ∧ r = .tup [iv 3, bv true, iv 0]) (by kernel_rfl) (Tri.st (.freeze g1 (d1 1)) (Tri.st (.freeze g2' (d1 2)) (Tri.args (.cons (.refl _) (.cons (.frz (es := nE [1]) (off := 0) (n := 1) (by rw [AH.get_put_ne (by omega)]; exact put_get _ _) (Nat.le_refl _)) (.cons (.frz (es := nE [2]) (off := 0) (n := 1) (put_get _ _) (Nat.le_refl _)) .nil))) (c_Cost1 _)))) ?_
  rintro _ _ ⟨rfl, rfl⟩
  simp (disch := first | omega | simp) [iv, bv]
  exact rt_one hw (AH.le.put hw (by omega) (AH.le.put hw (by omega) hMl)) (by repeat (first | exact Cl.p _ | exact Cl.dsl _ _ | exact Cl.any | refine Cl.tup ?_ | refine Cl.agg ?_ | exact Clo.nil | refine Clo.cons ?_ ?_)) ⟨rfl, rfl⟩)
end Go.Proofs.Ytgkkilbeingleaa

/- What is right; the law of makers. -/
namespace Go.Proofs.Ytgkkilbeingleaa
open Go.RowKit Go.Maps
theorem sym_len {l : List Int} (h : Sym l) : l.length ≤ 60 := h.1
theorem c_right {x : Mac} {w : Int} (small : Bool) {I O : List Int} (hI : I.length ≤ 60) (hO : O.length ≤ 60) {want : Int} (hx : w = 0 → x.Ok ∧ costOf x true I O = want) (hw3 : I64 w) :
    PF Try.prog 16 [(if w = 0 then x else zeroM).av, iv w, iv w, bv small, .dsl 1 (nE I), .dsl 1 (nE O), iv want] (bv true) := fun H => tri_wf fun hw => tri_wordhoardlaw_right (by
  unfold S_wordhoardlaw_right
  by_cases h0 : w = 0
  · obtain ⟨hok, hc⟩ := hx h0
    subst h0
    rw [if_pos rfl]
    unfold Mac.av
    simp (disch := first | omega | simp) [iv]
    unfold S_wordhoardlaw_right_C1
    simp (disch := first | omega | simp) [iv, Mac.cs]
    refine ca_pure (by kernel_rfl) (c_CheckR x _) ?_
    rw [Mac.chk_ok.2 hok]
    simp (disch := first | omega | simp) [iv]
    refine ca_pure (by kernel_rfl) (c_Cost hok true hI hO _) ?_
    rw [hc]
    simp (disch := first | omega | simp) [iv]
    exact rt_one hw (by repeat (first | with_reducible assumption | with_reducible exact AH.le.refl _ | with_reducible apply AH.le.up | (with_reducible refine AH.le.put hw ?_ ?_; · first | omega | (simp only [up_nx, put_nx, kill_nx]; done) | (simp only [up_nx, put_nx, kill_nx]; omega)) | (with_reducible refine AH.le.kill hw ?_ ?_; · first | omega | (simp only [up_nx, put_nx, kill_nx]; done) | (simp only [up_nx, put_nx, kill_nx]; omega)))) (by repeat (first | exact Cl.p _ | exact Cl.dsl _ _ | exact Cl.any | refine Cl.tup ?_ | refine Cl.agg ?_ | exact Clo.nil | refine Clo.cons ?_ ?_)) ⟨rfl, rfl⟩
  · rw [if_neg h0]
    unfold Mac.av zeroM Mac.cs
    have hz : IntKind.i64.wrap ((0 : Int) + 0) = 0 := by decide
    simp (disch := first | omega | simp) [iv, h0]
    exact rt_one hw (by repeat (first | with_reducible assumption | with_reducible exact AH.le.refl _ | with_reducible apply AH.le.up | (with_reducible refine AH.le.put hw ?_ ?_; · first | omega | (simp only [up_nx, put_nx, kill_nx]; done) | (simp only [up_nx, put_nx, kill_nx]; omega)) | (with_reducible refine AH.le.kill hw ?_ ?_; · first | omega | (simp only [up_nx, put_nx, kill_nx]; done) | (simp only [up_nx, put_nx, kill_nx]; omega)))) (by repeat (first | exact Cl.p _ | exact Cl.dsl _ _ | exact Cl.any | refine Cl.tup ?_ | refine Cl.agg ?_ | exact Clo.nil | refine Clo.cons ?_ ?_)) ⟨rfl, rfl⟩)
theorem chk_I (m : Mac) : I64 m.chk := by
  rcases chk_I64 m with h | h | h | h <;> (rw [h]; unfold I64; omega)
theorem both_I (a b : Mac) : I64 (bothE a b) := by unfold bothE; split; exact chk_I b; exact chk_I a
theorem both_ok {a b : Mac} (h : bothE a b = 0) : a.Ok ∧ b.Ok := by
  have hca : a.chk = 0 := by unfold bothE at h; split at h <;> assumption
  have hcb : b.chk = 0 := by unfold bothE at h; rw [if_pos hca] at h; exact h
  exact ⟨Mac.chk_ok.1 hca, Mac.chk_ok.1 hcb⟩
set_option maxHeartbeats 2000000 in
theorem w_MachineMakes (a b : Mac) (I O : List Int) : PF Try.prog 5 [a.av, b.av, .dsl 1 (nE I), .dsl 1 (nE O)] (bv true) := fun H => tri_wf fun hw => tri_wordhoardlaw_MachineMakes (by
  have hml : maxLen = 9223372036854775807 := by decide
  unfold S_wordhoardlaw_MachineMakes
  have hava : a.av = .agg a.cs := rfl
  have havb : b.av = .agg b.cs := rfl
  rw [hava, havb]
  have hla : a.cs.length = 3 := rfl
  have hlb : b.cs.length = 3 := rfl
  simp (disch := first | omega | simp)
  refine ca_pure (by kernel_rfl) (c_begun _) ?_
  simp (disch := first | omega | simp) [bv]
  generalize hMe : AH.put _ _ _ = M
  have hMl : H.le M := by rw [← hMe]; exact (by repeat (first | with_reducible assumption | with_reducible exact AH.le.refl _ | with_reducible apply AH.le.up | (with_reducible refine AH.le.put hw ?_ ?_; · first | omega | (simp only [up_nx, put_nx, kill_nx]; done) | (simp only [up_nx, put_nx, kill_nx]; omega)) | (with_reducible refine AH.le.kill hw ?_ ?_; · first | omega | (simp only [up_nx, put_nx, kill_nx]; done) | (simp only [up_nx, put_nx, kill_nx]; omega))))
  have hMn : M.nx = H.nx + 3 := by rw [← hMe]; rfl
  have gA : M.get H.nx = some (.box 25 a.cs) := by rw [← hMe]; simp (disch := first | omega | simp) [put_get_ne]
  have gB : M.get (H.nx + 1) = some (.box 25 b.cs) := by rw [← hMe]; simp (disch := first | omega | simp)
  have hca : ∀ z, AV.agg (a.cs.take 3) = z → z = a.av := fun z e => by rw [← e]; rfl
  clear hMe
  unfold S_wordhoardlaw_MachineMakes_C5
  have htrue : Rt Try.prog H.nx (.p (.bool true)) (fun r H' => H' = H ∧ r = bv true) M := rt_one hw hMl (by repeat (first | exact Cl.p _ | exact Cl.dsl _ _ | exact Cl.any | refine Cl.tup ?_ | refine Cl.agg ?_ | exact Clo.nil | refine Clo.cons ?_ ?_)) ⟨rfl, rfl⟩
  have ta : a.cs.take 3 = a.cs := rfl
  have tb : b.cs.take 3 = b.cs := rfl
  simp (disch := first | omega | simp) [gA, hla, ta]
  refine ca_pure (by kernel_rfl) (c_few a _) ?_
  cases fa : a.fewB with
  | false =>
    simp (disch := first | omega | simp) [bv]
    exact htrue
  | true =>
  simp (disch := first | omega | simp) [bv, gB, hlb, tb]
  refine ca_pure (by kernel_rfl) (c_few b _) ?_
  cases fb : b.fewB with
  | false =>
    simp (disch := first | omega | simp) [bv]
    exact htrue
  | true =>
  have Fa := few_iff.1 fa
  have Fb := few_iff.1 fb
  by_cases q : 8 < IntKind.i64.wrap ((I.length : Int) + (O.length : Int))
  · simp (disch := first | omega | simp) [bv, q]
    exact htrue
  simp (disch := first | omega | simp) [bv, q]
  refine ca_pure (by kernel_rfl) (c_joined I O _) ?_
  by_cases hj : joinE I O = 0
  case neg =>
    simp (disch := first | omega | simp) [iv, hj]
    exact htrue
  obtain ⟨⟨hI, _⟩, ⟨hO, _⟩⟩ := joinE_ok.1 hj
  rw [hj]
  simp (disch := first | omega | simp) [iv, gA, hla, ta]
  refine cav_pure (by kernel_rfl) (fun H2 _ => c_CheckR a H2) ?_
  simp (disch := first | omega | simp) [iv, gB, hlb, tb]
  refine cav_pure (by kernel_rfl) (fun H2 _ => c_CheckR b H2) ?_
  refine cut_st (fun _ : Unit => [iv (bothE a b)]) (fun _ H' => M = H') (fun kk hkk => ?_) ?_
  · by_cases h : a.chk = 0
    · simp (disch := first | omega | simp) [iv, h]
      exact hkk () _ _ _ (by rw [bothE, if_pos h]; exact .refl (Nat.le_refl _)) rfl
    · simp (disch := first | omega | simp) [iv, h]
      exact hkk () _ _ _ (by rw [bothE, if_neg h]; exact .refl (Nat.le_refl _)) rfl
  rintro _ _ _ rfl
  unfold S_wordhoardlaw_MachineMakes_K4
  simp (disch := first | omega | simp) [iv, gA, hla, ta]
  refine ca_of (by kernel_rfl) (c_light Fa) ?_
  rintro _ X ⟨hX, lA, rfl, _⟩
  rw [hX]; clear hX
  have key : ∀ lB : Bool, CutA Try.prog 2 (fun k_52 =>
    Pu Try.prog (.bin .eql 28) [iv (bothE a b), (.p (.int .i64 0))] fun v59 =>
    CdA v59
      (
      Vw fun V_115 =>
      Rd Try.prog V_115 (.ld 3 true) [.ptr H.nx 0] fun v60 =>
      CaV Try.prog V_115 (.fn (.func 18) [] []) [v60, .dsl 1 (nE I), .dsl 1 (nE O), (.p (.bool true))] fun v63 =>
      Rd Try.prog V_115 (.ld 3 true) [.ptr (H.nx + 1) 0] fun v64 =>
      CaV Try.prog V_115 (.fn (.func 18) [] []) [v64, .dsl 1 (nE I), .dsl 1 (nE O), (.p (.bool true))] fun v67 =>
      Pu Try.prog .mn [v63, v67] fun v68 =>
      Rd Try.prog V_115 (.ld 3 true) [.ptr H.nx 0] fun v69 =>
      Rd Try.prog V_115 (.ld 3 true) [.ptr (H.nx + 1) 0] fun v70 =>
      CaV Try.prog V_115 (.fn (.func 19) [] []) [v69, v70, .dsl 1 (nE I), .dsl 1 (nE O)] fun v73 =>
      k_52 [v68, v73]
      ) (
      k_52 [(.p (.int .i64 1152921504606846976)), (.p (.int .i64 1152921504606846976))]
      )
    ) (S_wordhoardlaw_MachineMakes_K3 (.dsl 1 (nE I)) (.dsl 1 (nE O)) (fun v H' => H' = H ∧ v = .p (.bool true)) H (.ptr H.nx 0) (.ptr (H.nx + 1) 0) (iv a.chk) [iv (bothE a b)] (bv lB)) M := by
    intro lB
    refine cut_st (fun x : Int × Int => [iv x.1, iv x.2]) (fun x H' => M = H' ∧ (bothE a b = 0 → x.1 = min (costOf a true I O) (costOf b true I O) ∧ x.2 = splitC a b I O)) (fun kk hkk => ?_) ?_
    · by_cases h : bothE a b = 0
      · obtain ⟨oa, ob⟩ := both_ok h
        rw [h]
        simp (disch := first | omega | simp) [iv, gA, hla, ta]
        refine cav_pure (by kernel_rfl) (fun H2 _ => c_Cost oa true hI hO H2) ?_
        simp (disch := first | omega | simp) [iv, gB, hlb, tb]
        refine cav_pure (by kernel_rfl) (fun H2 _ => c_Cost ob true hI hO H2) ?_
        simp (disch := first | omega | simp) [iv, gA, gB, hla, hlb, ta, tb]
        refine cav_pure (by kernel_rfl) (fun H2 _ => c_parted oa ob hI hO H2) ?_
        have hmin : (if costOf b true I O < costOf a true I O then costOf b true I O else costOf a true I O) = min (costOf a true I O) (costOf b true I O) := by split <;> omega
        rw [hmin]
        exact hkk (min (costOf a true I O) (costOf b true I O), splitC a b I O) _ _ _ (.refl (Nat.le_refl _)) ⟨rfl, fun _ => ⟨rfl, rfl⟩⟩
      · simp (disch := first | omega | simp) [iv, h]
        exact hkk (_, _) _ _ _ (.refl (Nat.le_refl _)) ⟨rfl, fun e => absurd e h⟩
    rintro ⟨ce, cc⟩ _ _ ⟨rfl, hcost⟩
    dsimp only at hcost ⊢
    unfold S_wordhoardlaw_MachineMakes_K3
    simp (disch := first | omega | simp) [gA, gB, hla, hlb, ta, tb]
    refine ca_pure (by kernel_rfl) (c_Either Fa Fb _) ?_
    unfold made
    have hlz : ∀ (w : Int) (x : Mac), (if w = 0 then x else zeroM).cs.length = 3 := fun w x => by split <;> rfl
    have htz : ∀ (w : Int) (x : Mac), (if w = 0 then x else zeroM).cs.take 3 = (if w = 0 then x else zeroM).cs := fun w x => by split <;> rfl
    have hdz : ∀ (w : Int) (x : Mac), (if w = 0 then x else zeroM).cs.drop 3 = [] := fun w x => by split <;> rfl
    have haz : ∀ (w : Int) (x : Mac), (if w = 0 then x else zeroM).av = .agg (if w = 0 then x else zeroM).cs := fun w x => rfl
    rw [haz]
    simp (disch := first | omega | simp) [hlz, htz]
    refine ca_pure (by kernel_rfl) (c_right lB hI hO (fun h => ⟨either_ok (both_ok h).1 (both_ok h).2 Fa Fb, (either_cost (both_ok h).1 (both_ok h).2).trans (hcost h).1.symm⟩) (both_I a b) _) ?_
    simp (disch := first | omega | simp) [bv]
    generalize hM1e : AH.put _ _ _ = M1
    have hM1n : M1.nx = M.nx + 9 := by rw [← hM1e]; rfl
    have hM1l : H.le M1 := by rw [← hM1e]; exact AH.le.put hw (by omega) (AH.le.put hw (by omega) (AH.le.up hMl))
    have gA1 : M1.get H.nx = some (.box 25 a.cs) := by rw [← hM1e, AH.get_put_ne (by omega), AH.get_put_ne (by omega), up_get]; exact gA
    have gB1 : M1.get (H.nx + 1) = some (.box 25 b.cs) := by rw [← hM1e, AH.get_put_ne (by omega), AH.get_put_ne (by omega), up_get]; exact gB
    have gX1 : M1.get (M.nx + 6) = some (.box 25 (if bothE a b = 0 then a.either b else zeroM).cs) := by rw [← hM1e, put_get]
    clear hM1e
    unfold S_wordhoardlaw_MachineMakes_C2
    simp (disch := first | omega | simp) [gA1, gB1, hla, hlb, ta, tb]
    refine ca_pure (by kernel_rfl) (c_Chain Fa Fb _) ?_
    unfold made
    rw [haz]
    simp (disch := first | omega | simp) [hlz, gX1]
    refine ca_pure (by kernel_rfl) (c_right lB hI hO (fun h => ⟨chain_ok (both_ok h).1 (both_ok h).2 Fa Fb, (chain_cost (both_ok h).1 (both_ok h).2).trans (hcost h).2.symm⟩) (both_I a b) _) ?_
    simp (disch := first | omega | simp) [bv]
    generalize hM2e : AH.put _ _ _ = M2
    have hM2n : M2.nx = M1.nx + 8 := by rw [← hM2e]; rfl
    have hM2l : H.le M2 := by rw [← hM2e]; exact AH.le.put hw (by omega) (AH.le.up hM1l)
    have gA2 : M2.get H.nx = some (.box 25 a.cs) := by rw [← hM2e, AH.get_put_ne (by omega), up_get]; exact gA1
    have gX2 : M2.get (M.nx + 6) = some (.box 25 (if bothE a b = 0 then a.chain b else zeroM).cs) := by rw [← hM2e, put_get, hdz, List.append_nil]
    clear hM2e
    refine cut_st (fun x : Int × Int × Int => [iv x.1, iv x.2.1, iv x.2.2]) (fun x H' => M2 = H' ∧ (a.chk = 0 → x.1 = starC a I O ∧ x.2.1 = costOf a true O I ∧ x.2.2 = if I = O then costOf a false I [] else dear)) (fun kk hkk => ?_) ?_
    · by_cases h : a.chk = 0
      · have oa := Mac.chk_ok.1 h
        simp (disch := first | omega | simp) [iv, h, gA2, hla, ta]
        refine cav_pure (by kernel_rfl) (fun H2 _ => c_again oa hI hO H2) ?_
        simp (disch := first | omega | simp) [gA2, hla, ta]
        refine cav_pure (by kernel_rfl) (fun H2 _ => c_Cost oa true hO hI H2) ?_
        refine ca_pure (by kernel_rfl) (c_Same I O _) ?_
        by_cases e : I = O
        · have hs : sameB I O = true := by simp [sameB, e]
          rw [hs]
          simp (disch := first | omega | simp) [bv, gA2, hla, ta]
          refine ca_pure (by kernel_rfl) (Tri.args (.cons (.refl _) (.cons (.refl _) (.cons (.nil 1 0 (Nat.zero_le _)) (.cons (.refl _) .nil)))) (c_Cost oa false (O := []) hI (by simp) _)) ?_
          exact hkk (starC a I O, costOf a true O I, costOf a false I []) _ _ _ (.refl (Nat.le_refl _)) ⟨rfl, fun _ => ⟨rfl, rfl, by rw [if_pos e]⟩⟩
        · have hs : sameB I O = false := by simp [sameB, e]
          rw [hs]
          simp (disch := first | omega | simp) [bv]
          exact hkk (starC a I O, costOf a true O I, dear) _ _ _ (.refl (Nat.le_refl _)) ⟨rfl, fun _ => ⟨rfl, rfl, by rw [if_neg e]⟩⟩
      · simp (disch := first | omega | simp) [iv, h]
        exact hkk (_, _, _) _ _ _ (.refl (Nat.le_refl _)) ⟨rfl, fun e => absurd e h⟩
    rintro ⟨cr, ct, cs⟩ _ _ ⟨rfl, hcost2⟩
    dsimp only at hcost2 ⊢
    unfold S_wordhoardlaw_MachineMakes_K1
    simp (disch := first | omega | simp) [gA2, hla, ta]
    refine ca_of (by kernel_rfl) (c_light Fa) ?_
    rintro _ X ⟨hX, lC, rfl, _⟩
    rw [hX]; clear hX
    simp (disch := first | omega | simp) [gA2, hla, ta]
    refine ca_pure (by kernel_rfl) (c_Repeat Fa _) ?_
    unfold made
    rw [haz]
    simp (disch := first | omega | simp) [hlz, gX2]
    refine ca_pure (by kernel_rfl) (c_right lC hI hO (fun h => ⟨rep_ok (Mac.chk_ok.1 h) Fa, (rep_cost (Mac.chk_ok.1 h)).trans (hcost2 h).1.symm⟩) (chk_I a) _) ?_
    simp (disch := first | omega | simp) [bv]
    generalize hM3e : AH.put _ _ _ = M3
    have hM3n : M3.nx = M2.nx + 7 := by rw [← hM3e]; rfl
    have hM3l : H.le M3 := by rw [← hM3e]; exact AH.le.put hw (by omega) (AH.le.up hM2l)
    have gA3 : M3.get H.nx = some (.box 25 a.cs) := by rw [← hM3e, AH.get_put_ne (by omega), up_get]; exact gA2
    have gX3 : M3.get (M.nx + 6) = some (.box 25 (if a.chk = 0 then a.rep else zeroM).cs) := by rw [← hM3e, put_get, hdz, List.append_nil]
    clear hM3e
    simp (disch := first | omega | simp) [gA3, hla, ta]
    refine ca_pure (by kernel_rfl) (c_Turn Fa _) ?_
    unfold made
    rw [haz]
    simp (disch := first | omega | simp) [hlz, gX3]
    refine ca_pure (by kernel_rfl) (c_right (x := a.turn turnA) lC hI hO (fun h => ⟨turn_ok (Mac.chk_ok.1 h) turnA (fun x => by simp [turnA]), (turn_cost (Mac.chk_ok.1 h)).trans (hcost2 h).2.1.symm⟩) (chk_I a) _) ?_
    simp (disch := first | omega | simp) [bv]
    generalize hM4e : AH.put _ _ _ = M4
    have hM4n : M4.nx = M3.nx + 7 := by rw [← hM4e]; rfl
    have hM4l : H.le M4 := by rw [← hM4e]; exact AH.le.put hw (by omega) (AH.le.up hM3l)
    have gA4 : M4.get H.nx = some (.box 25 a.cs) := by rw [← hM4e, AH.get_put_ne (by omega), up_get]; exact gA3
    have gX4 : M4.get (M.nx + 6) = some (.box 25 (if a.chk = 0 then a.turn turnA else zeroM).cs) := by rw [← hM4e, put_get, hdz, List.append_nil]; rfl
    clear hM4e
    simp (disch := first | omega | simp) [gA4, hla, ta]
    refine ca_pure (by kernel_rfl) (c_Side Fa _) ?_
    unfold made
    rw [haz]
    simp (disch := first | omega | simp) [hlz, gX4]
    refine ca_pure (by kernel_rfl) (c_right (x := a.turn sideA) lC hI hO (fun h => ⟨turn_ok (Mac.chk_ok.1 h) sideA (fun x => by simp [sideA]), (side_cost (Mac.chk_ok.1 h)).trans (hcost2 h).2.2.symm⟩) (chk_I a) _) ?_
    exact rt_one hw (AH.le.put hw (by omega) (AH.le.up hM4l)) (by repeat (first | exact Cl.p _ | exact Cl.dsl _ _ | exact Cl.any | refine Cl.tup ?_ | refine Cl.agg ?_ | exact Clo.nil | refine Clo.cons ?_ ?_)) ⟨rfl, rfl⟩
  cases lA with
  | false =>
    simp (disch := first | omega | simp) [bv]
    exact key false
  | true =>
    simp (disch := first | omega | simp) [bv, gB, hlb, tb]
    refine ca_of (by kernel_rfl) (c_light Fb) ?_
    rintro _ X ⟨hX, lB, rfl, _⟩
    rw [hX]; clear hX
    simp (disch := first | omega | simp) [bv]
    exact key lB)
end Go.Proofs.Ytgkkilbeingleaa

/- Machines as they come in. -/
namespace Go.Proofs.Ytgkkilbeingleaa
open Go.RowKit Go.Maps Go.ChangeShapes Go.WideShapes
def rArc : Rep (Int × Int × Int × Int × Int) := rPair rInt (rPair rInt (rPair rInt (rPair rInt rInt)))
def rFin : Rep (Int × Int) := rPair rInt rInt
def rMac : Rep (Int × List (Int × Int × Int × Int × Int) × List (Int × Int)) := rPair rInt (rPair (rList rArc) (rList rFin))
def toA (x : Int × Int × Int × Int × Int) : Arc := ⟨x.1, x.2.1, x.2.2.1, x.2.2.2.1, x.2.2.2.2⟩
def toF (x : Int × Int) : Fin_ := ⟨x.1, x.2⟩
def toM (x : Int × List (Int × Int × Int × Int × Int) × List (Int × Int)) : Mac := ⟨x.1, x.2.1.map toA, x.2.2.map toF⟩
theorem avs_arc : AvsG rArc toA Arc.cs (fun _ => True) := (avs_int.pair (avs_int.pair (avs_int.pair (avs_int.pair avs_int)))).map (fun x => (⟨x.1, x.2.1, x.2.2.1, x.2.2.2.1, x.2.2.2.2⟩ : Arc)) Arc.cs (fun _ => True) (fun _ => rfl) (fun _ _ => trivial)
theorem avs_fin : AvsG rFin toF Fin_.cs (fun _ => True) := (avs_int.pair avs_int).map (fun x => (⟨x.1, x.2⟩ : Fin_)) Fin_.cs (fun _ => True) (fun _ => rfl) (fun _ _ => trivial)
theorem avs_mac : AvsG rMac toM Mac.cs (fun _ => True) := (avs_int.pair ((avs_arc.list (by decide)).pair (avs_fin.list (by decide)))).map (fun x => (⟨x.1, x.2.1, x.2.2⟩ : Mac)) Mac.cs (fun _ => True) (fun _ => rfl) (fun _ _ => trivial)
theorem opens_arc : Opens Try.prog 53 rArc :=
  opens_struct (l := [_, _, _, _, _]) Try.underlying53 rfl (opens_more rfl rfl (opens_int Try.underlying3) (opens_more rfl rfl (opens_int Try.underlying3) (opens_more rfl rfl (opens_int Try.underlying3) (opens_more rfl rfl (opens_int Try.underlying3) (opens_last rfl rfl (opens_int Try.underlying3))))))
theorem opens_fin : Opens Try.prog 56 rFin :=
  opens_struct (l := [_, _]) Try.underlying56 rfl (opens_more rfl rfl (opens_int Try.underlying3) (opens_last rfl rfl (opens_int Try.underlying3)))
theorem opens_mac : Opens Try.prog 25 rMac :=
  opens_struct (l := [_, _, _]) Try.underlying25 rfl (opens_more rfl rfl (opens_int Try.underlying3) (opens_more rfl rfl (opens_slice Try.underlying22 rfl (by decide) opens_arc) (opens_last rfl rfl (opens_slice Try.underlying23 rfl (by decide) opens_fin))))
theorem opens_nums : Opens Try.prog 26 (rList rInt) := opens_slice Try.underlying26 rfl (by decide) (opens_int Try.underlying3)
theorem law_pf {f : FuncId} {ps : List AV} (h : PF Try.prog f ps (bv true)) : Tri Try.prog f ps ⟨0, []⟩ (fun v _ => v = .p (.bool true)) := (h ⟨0, []⟩).mono fun _v _H' h => h.2
end Go.Proofs.Ytgkkilbeingleaa

namespace Go.Proofs.Ytgkkilbeingleaa.machineMakes
open Go.ChangeShapes Go.WideShapes Go.ChangeAt Go.RowKit
open Go.ChangeMaps (open_string shut_string)

set_option maxRecDepth 100000 in
theorem contract (H : Type) (enc : TypeId × Value → H) (W : World) (base : Nat) (args : Array Value) (ds gs : List (DataW H)) (before : List MemPlace)
    (hval : ∀ (j : Nat) t v, Try.f5.params[j]? = some t → args[j]? = some v → Value.okWide Try.prog W .any base t v)
    (hW : DataW.Whole enc Try.prog Try.f5.params.toList Rows.machineMakesSpec.vars false W args.toList ds gs before) :
    Calls Try.prog 5 args W fun e W' => ∃ v, e = .returned v ∧ Rows.machineMakesSpec.post enc Try.prog Try.f5 false true false false W args v W' := by
  have hW' := hW
  obtain ⟨p, q, hA0, hV, rfl, hfz, hnd⟩ := hW
  have hA : DataW.TrodAll enc Try.prog W 0 (fun _ => true) true Try.f5.params.toList args.toList ds p := hA0
  rw [Try.params5] at hA hval
  obtain ⟨v0, v1, v2, v3, d0, d1, d2, d3, p0, p1, p2, p3, rfl, rfl, rfl, h0, h1, h2, h3⟩ := trodAll_four hA
  obtain ⟨rfl, rfl⟩ := trodVars_none hV
  obtain ⟨cs0, x0, rfl, hs0, hb0⟩ := arg_struct opens_mac Try.underlying25 (hval 0 25 v0 rfl rfl) h0
  obtain ⟨cs1, x1, rfl, hs1, hb1⟩ := arg_struct opens_mac Try.underlying25 (hval 1 25 v1 rfl rfl) h1
  obtain ⟨A2, c2, x2, rfl, hs2, hb2⟩ := arg_slice opens_nums Try.underlying26 (hval 2 26 v2 rfl rfl) h2
  obtain ⟨A3, c3, x3, rfl, hs3, hb3⟩ := arg_slice opens_nums Try.underlying26 (hval 3 26 v3 rfl rfl) h3
  obtain ⟨k0, r0⟩ := (avs_mac).agg (σ' := fun _ => none) hs0
  obtain ⟨k1, r1⟩ := (avs_mac).agg (σ' := fun _ => none) hs1
  obtain ⟨k2, r2⟩ := (avs_int).sl (by decide) (σ' := fun _ => none) hs2
  obtain ⟨k3, r3⟩ := (avs_int).sl (by decide) (σ' := fun _ => none) hs3
  refine (law_calls (us := [.agg cs0, .agg cs1, .slice A2 x2.length c2, .slice A3 x3.length c3]) (law_pf (w_MachineMakes (toM x0) (toM x1) (x2.map id) (x3.map id))) (.cons r0 (.cons r1 (.cons r2 (.cons r3 .nil))))).mono fun e W' ⟨he, hg⟩ => ?_
  subst he
  exact ⟨_, rfl, post_true rfl Try.underlying4 rfl laidOut (by kernel_rfl) hW' rfl hg⟩

set_option maxRecDepth 100000 in
theorem lifted (os : Os) (started : os.Started) (H : Type) (enc : TypeId × Value → H) :
    ReturnsInHanded {} Try.checked os 5 .any (Rows.machineMakesSpec.pre6 enc Try.prog Try.f5 Rows.machineMakesRow.domain false) (Rows.machineMakesSpec.post enc Try.prog Try.f5 false true false false) := by
  refine returnsInHanded_of_change (C := Try.checked) own started (by kernel_rfl) Try.func5
    (ChangeSpec.witness6 (enc := enc) (C := Try.checked) false ⟨#[], #[.agg #[.int .i64 0,.slice none 0 0,.slice none 0 0], .agg #[.int .i64 0,.slice none 0 0,.slice none 0 0], .slice none 0 0, .slice none 0 0], []⟩ 8 (by kernel_rfl) (by kernel_rfl) (by kernel_rfl) (by kernel_rfl)) ?_
  intro W base args ds gs before hval hW _ _
  exact contract H enc W base args ds gs before hval hW

theorem proved : Rows.MachineMakesSaid :=
  OpenClaim.holds_of_wide 5 Try.f5 rfl rfl rfl rfl rfl rfl rfl ⟨rfl, rfl, rfl, rfl, rfl⟩ rfl rfl rfl rfl rfl (by kernel_rfl) Try.func5 (by kernel_rfl)
    (of_decide_eq_true (by kernel_rfl)) (by unfold Func.isWrapper; first | (rw [if_pos (by decide +kernel)]; kernel_rfl) | (rw [if_neg (by decide +kernel)]; exact ⟨rfl, rfl⟩))
    (fun os started H enc _ => lifted os started H enc)
end Go.Proofs.Ytgkkilbeingleaa.machineMakes
