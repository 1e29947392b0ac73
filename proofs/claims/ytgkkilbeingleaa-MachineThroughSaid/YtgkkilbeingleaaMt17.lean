/- Texts that the proof rests on, part 17: what each holds stands at its head. -/
import Derived.Test.YtgkkilbeingleaaMt16

/- What is wrong with texts; few, light, same, one; parted. -/
namespace Go.Proofs.Ytgkkilbeingleaa
open Go.RowKit Go.Maps
def Sym (l : List Int) : Prop := l.length ≤ 60 ∧ ∀ x ∈ l, 1 ≤ x ∧ x ≤ 60
def symB (l : List Int) : Bool := l.all fun x => decide (1 ≤ x) && decide (x ≤ 60)
def symE (l : List Int) : Int := if 60 < l.length then 2 else if symB l = true then 0 else 3
theorem symE_ok {l : List Int} : symE l = 0 ↔ Sym l := by
  unfold symE Sym symB
  constructor
  · intro h
    split at h
    · cases h
    · split at h
      · rename_i h1 h2
        refine ⟨by omega, fun x hx => ?_⟩
        have := List.all_eq_true.1 h2 x hx
        simpa using this
      · cases h
  · rintro ⟨h1, h2⟩
    rw [if_neg (by omega), if_pos (List.all_eq_true.2 fun x hx => by simpa using h2 x hx)]
theorem c_Symbols (l : List Int) : PF Try.prog 28 [.dsl 1 (nE l)] (iv (symE l)) := fun H => tri_wf fun hw => tri_len 0 rfl fun hl _ => tri_wordhoardref_SymbolsFault (by
  have hml : maxLen = 9223372036854775807 := by decide
  rw [nE_len] at hl
  unfold S_wordhoardref_SymbolsFault
  by_cases h1 : 60 < l.length
  · have h1' : (60 : Int) < (l.length : Int) := by omega
    simp (disch := first | omega | simp) [h1']
    exact rt_refl ⟨rfl, by unfold symE; rw [if_pos h1]; rfl⟩ (Nat.le_refl _)
  have h1' : ¬ (60 : Int) < (l.length : Int) := by omega
  simp (disch := first | omega | simp) [h1']
  refine loop_st (fun i : Nat => [iv i]) (fun i H' => H = H' ∧ i ≤ l.length ∧ symB l = symB (l.drop i)) (fun i => l.length - i) 0 (.refl (Nat.le_refl _)) ⟨rfl, Nat.zero_le _, by rw [List.drop_zero]⟩ ?_
  rintro i _ _ ⟨rfl, hi, hc⟩ k hk
  unfold S_wordhoardref_SymbolsFault_L1
  by_cases hil : i < l.length
  · obtain ⟨x, hx⟩ : ∃ x, l[i]? = some x := ⟨_, List.getElem?_eq_getElem hil⟩
    have hil' : (i : Int) < (l.length : Int) := by omega
    have hxe := nE_get hx
    have hxg : ∀ h, (nE l)[i]'h = [iv x] := fun h => (List.getElem?_eq_some_iff.1 hxe).2
    have hiv := ivn (i := i) (by omega)
    unfold symB at hc
    rw [all_at hx] at hc
    unfold iv at hxe hxg
    by_cases q1 : x < 1
    · simp (disch := first | omega | simp) [iv, hil', hxe, q1]
      refine rt_refl ⟨rfl, ?_⟩ (Nat.le_refl _)
      have : ¬ 1 ≤ x := by omega
      unfold symE symB; rw [if_neg h1, hc]; simp [this]
    by_cases q2 : 60 < x
    · simp (disch := first | omega | simp) [iv, hil', hxe, q1, q2]
      refine rt_refl ⟨rfl, ?_⟩ (Nat.le_refl _)
      have : ¬ x ≤ 60 := by omega
      unfold symE symB; rw [if_neg h1, hc]; simp [this]
    simp (disch := first | omega | simp) [iv, hil', hxe, q1, q2, hiv]
    have e : (decide (1 ≤ x) && decide (x ≤ 60)) = true := by simp; omega
    rw [e, Bool.true_and] at hc
    exact hk (i + 1) _ _ _ (.refl (Nat.le_refl _)) ⟨rfl, hil, hc⟩ (by omega)
  · have hil' : ¬ (i : Int) < (l.length : Int) := by omega
    simp (disch := first | omega | simp) [iv, hil']
    refine rt_refl ⟨rfl, ?_⟩ (Nat.le_refl _)
    unfold symE; rw [if_neg h1, hc, List.drop_eq_nil_iff.2 (by omega)]; rfl)
def joinE (I O : List Int) : Int := if symE I = 2 ∨ symE O = 2 then 2 else if symE I = 0 then symE O else symE I
theorem symE_in (l : List Int) : symE l = 0 ∨ symE l = 2 ∨ symE l = 3 := by unfold symE; repeat' split
                                                                            all_goals simp
theorem joinE_ok {I O : List Int} : joinE I O = 0 ↔ Sym I ∧ Sym O := by
  rw [← symE_ok, ← symE_ok]
  unfold joinE
  rcases symE_in I with h | h | h <;> rcases symE_in O with k | k | k <;> simp [h, k]
theorem c_joined (I O : List Int) : PF Try.prog 13 [.dsl 1 (nE I), .dsl 1 (nE O)] (iv (joinE I O)) := fun H => tri_wf fun hw => tri_wordhoardlaw_joined (by
  unfold S_wordhoardlaw_joined
  refine ca_pure (by kernel_rfl) (c_Symbols I _) ?_
  refine ca_pure (by kernel_rfl) (c_Symbols O _) ?_
  unfold joinE
  rcases symE_in I with h | h | h <;> rcases symE_in O with k | k | k <;>
    (simp (disch := first | omega | simp) [iv, h, k]; exact rt_refl ⟨rfl, rfl⟩ (Nat.le_refl _)))
def Mac.fewB (m : Mac) : Bool := decide (m.states ≤ 40) && (decide (m.arcs.length ≤ 120) && decide (m.fins.length ≤ 40))
theorem few_iff {m : Mac} : m.fewB = true ↔ m.Few := by simp [Mac.fewB, Mac.Few]
theorem c_few (m : Mac) : PF Try.prog 10 [m.av] (bv m.fewB) := fun H => tri_wf fun hw => tri_wordhoardlaw_few (by
  unfold S_wordhoardlaw_few Mac.av
  unfold Mac.cs
  by_cases h1 : m.states ≤ 40
  · by_cases h2 : m.arcs.length ≤ 120
    · have h2' : (m.arcs.length : Int) ≤ 120 := by omega
      by_cases h3 : m.fins.length ≤ 40
      · have h3' : (m.fins.length : Int) ≤ 40 := by omega
        simp (disch := first | omega | simp) [iv, h1, h2', h3']
        exact rt_one hw (by repeat (first | with_reducible assumption | with_reducible exact AH.le.refl _ | with_reducible apply AH.le.up | (with_reducible refine AH.le.put hw ?_ ?_; · first | omega | (simp only [up_nx, put_nx, kill_nx]; done) | (simp only [up_nx, put_nx, kill_nx]; omega)) | (with_reducible refine AH.le.kill hw ?_ ?_; · first | omega | (simp only [up_nx, put_nx, kill_nx]; done) | (simp only [up_nx, put_nx, kill_nx]; omega)))) (by repeat (first | exact Cl.p _ | exact Cl.dsl _ _ | exact Cl.any | refine Cl.tup ?_ | refine Cl.agg ?_ | exact Clo.nil | refine Clo.cons ?_ ?_)) ⟨rfl, by simp [Mac.fewB, bv, h1, h2, h3]⟩
      · have h3' : ¬ (m.fins.length : Int) ≤ 40 := by omega
        simp (disch := first | omega | simp) [iv, h1, h2', h3']
        exact rt_one hw (by repeat (first | with_reducible assumption | with_reducible exact AH.le.refl _ | with_reducible apply AH.le.up | (with_reducible refine AH.le.put hw ?_ ?_; · first | omega | (simp only [up_nx, put_nx, kill_nx]; done) | (simp only [up_nx, put_nx, kill_nx]; omega)) | (with_reducible refine AH.le.kill hw ?_ ?_; · first | omega | (simp only [up_nx, put_nx, kill_nx]; done) | (simp only [up_nx, put_nx, kill_nx]; omega)))) (by repeat (first | exact Cl.p _ | exact Cl.dsl _ _ | exact Cl.any | refine Cl.tup ?_ | refine Cl.agg ?_ | exact Clo.nil | refine Clo.cons ?_ ?_)) ⟨rfl, by simp [Mac.fewB, bv, h1, h2, h3]⟩
    · have h2' : ¬ (m.arcs.length : Int) ≤ 120 := by omega
      simp (disch := first | omega | simp) [iv, h1, h2']
      exact rt_one hw (by repeat (first | with_reducible assumption | with_reducible exact AH.le.refl _ | with_reducible apply AH.le.up | (with_reducible refine AH.le.put hw ?_ ?_; · first | omega | (simp only [up_nx, put_nx, kill_nx]; done) | (simp only [up_nx, put_nx, kill_nx]; omega)) | (with_reducible refine AH.le.kill hw ?_ ?_; · first | omega | (simp only [up_nx, put_nx, kill_nx]; done) | (simp only [up_nx, put_nx, kill_nx]; omega)))) (by repeat (first | exact Cl.p _ | exact Cl.dsl _ _ | exact Cl.any | refine Cl.tup ?_ | refine Cl.agg ?_ | exact Clo.nil | refine Clo.cons ?_ ?_)) ⟨rfl, by simp [Mac.fewB, bv, h1, h2]⟩
  · simp (disch := first | omega | simp) [iv, h1]
    exact rt_one hw (by repeat (first | with_reducible assumption | with_reducible exact AH.le.refl _ | with_reducible apply AH.le.up | (with_reducible refine AH.le.put hw ?_ ?_; · first | omega | (simp only [up_nx, put_nx, kill_nx]; done) | (simp only [up_nx, put_nx, kill_nx]; omega)) | (with_reducible refine AH.le.kill hw ?_ ?_; · first | omega | (simp only [up_nx, put_nx, kill_nx]; done) | (simp only [up_nx, put_nx, kill_nx]; omega)))) (by repeat (first | exact Cl.p _ | exact Cl.dsl _ _ | exact Cl.any | refine Cl.tup ?_ | refine Cl.agg ?_ | exact Clo.nil | refine Clo.cons ?_ ?_)) ⟨rfl, by simp [Mac.fewB, bv, h1]⟩)
/-- what keeps from all bounds -/
def Mac.Light (m : Mac) : Prop := m.states ≤ 20 ∧ m.arcs.length ≤ 40 ∧ (∀ a ∈ m.arcs, a.w ≤ 500000) ∧ ∀ f ∈ m.fins, f.w ≤ 500000
def LightQ (H : AH) (m : Mac) (r : AV) (H' : AH) : Prop := H' = H ∧ ∃ b, r = bv b ∧ (b = true → m.Light)
theorem c_light {m : Mac} (hf : m.Few) {H : AH} : Tri Try.prog 17 [m.av] H (LightQ H m) := tri_wf fun hw => tri_wordhoardlaw_light (by
  have hml : maxLen = 9223372036854775807 := by decide
  obtain ⟨f1, f2, f3⟩ := hf
  unfold S_wordhoardlaw_light Mac.av
  unfold Mac.cs
  by_cases h1 : 20 < m.states
  · simp (disch := first | omega | simp) [iv, h1]
    exact rt_one hw (by repeat (first | with_reducible assumption | with_reducible exact AH.le.refl _ | with_reducible apply AH.le.up | (with_reducible refine AH.le.put hw ?_ ?_; · first | omega | (simp only [up_nx, put_nx, kill_nx]; done) | (simp only [up_nx, put_nx, kill_nx]; omega)) | (with_reducible refine AH.le.kill hw ?_ ?_; · first | omega | (simp only [up_nx, put_nx, kill_nx]; done) | (simp only [up_nx, put_nx, kill_nx]; omega)))) (by repeat (first | exact Cl.p _ | exact Cl.dsl _ _ | exact Cl.any | refine Cl.tup ?_ | refine Cl.agg ?_ | exact Clo.nil | refine Clo.cons ?_ ?_)) ⟨rfl, false, rfl, fun h => by cases h⟩
  by_cases h2 : 40 < m.arcs.length
  · have h2' : (40 : Int) < (m.arcs.length : Int) := by omega
    simp (disch := first | omega | simp) [iv, h1, h2']
    exact rt_one hw (by repeat (first | with_reducible assumption | with_reducible exact AH.le.refl _ | with_reducible apply AH.le.up | (with_reducible refine AH.le.put hw ?_ ?_; · first | omega | (simp only [up_nx, put_nx, kill_nx]; done) | (simp only [up_nx, put_nx, kill_nx]; omega)) | (with_reducible refine AH.le.kill hw ?_ ?_; · first | omega | (simp only [up_nx, put_nx, kill_nx]; done) | (simp only [up_nx, put_nx, kill_nx]; omega)))) (by repeat (first | exact Cl.p _ | exact Cl.dsl _ _ | exact Cl.any | refine Cl.tup ?_ | refine Cl.agg ?_ | exact Clo.nil | refine Clo.cons ?_ ?_)) ⟨rfl, false, rfl, fun h => by cases h⟩
  have h2' : ¬ (40 : Int) < (m.arcs.length : Int) := by omega
  simp (disch := first | omega | simp) [iv, h1, h2']
  generalize hM : AH.put _ _ _ = M
  have hMl : H.le M := by rw [← hM]; exact (by repeat (first | with_reducible assumption | with_reducible exact AH.le.refl _ | with_reducible apply AH.le.up | (with_reducible refine AH.le.put hw ?_ ?_; · first | omega | (simp only [up_nx, put_nx, kill_nx]; done) | (simp only [up_nx, put_nx, kill_nx]; omega)) | (with_reducible refine AH.le.kill hw ?_ ?_; · first | omega | (simp only [up_nx, put_nx, kill_nx]; done) | (simp only [up_nx, put_nx, kill_nx]; omega))))
  have hMg : M.get H.nx = some (.box 25 [.p (.int .i64 m.states), .dsl 5 (m.arcs.map Arc.cs), .dsl 2 (m.fins.map Fin_.cs)]) := by rw [← hM]; simp (disch := first | omega | simp)
  clear hM
  refine loop_st (fun i : Nat => [iv i]) (fun i H' => M = H' ∧ i ≤ m.arcs.length ∧ ∀ a ∈ m.arcs.take i, a.w ≤ 500000) (fun i => m.arcs.length - i) 0 (.refl (Nat.le_refl _)) ⟨rfl, Nat.zero_le _, by simp⟩ ?_
  rintro i _ _ ⟨rfl, hi, hc⟩ k hk
  unfold S_wordhoardlaw_light_L2
  by_cases hil : i < m.arcs.length
  · obtain ⟨x, hx⟩ : ∃ x, m.arcs[i]? = some x := ⟨_, List.getElem?_eq_getElem hil⟩
    have hxg : ∀ h, m.arcs[i]'h = x := fun h => (List.getElem?_eq_some_iff.1 hx).2
    have hiv := ivn (i := i) (by omega)
    by_cases q : 500000 < x.w
    · simp (disch := first | omega | simp) [iv, hil, hxg, hMg, Arc.cs, q]
      exact rt_one hw hMl (by repeat (first | exact Cl.p _ | exact Cl.dsl _ _ | exact Cl.any | refine Cl.tup ?_ | refine Cl.agg ?_ | exact Clo.nil | refine Clo.cons ?_ ?_)) ⟨rfl, false, rfl, fun h => by cases h⟩
    · simp (disch := first | omega | simp) [iv, hil, hxg, hMg, Arc.cs, q, hiv]
      refine hk (i + 1) _ _ _ (.refl (Nat.le_refl _)) ⟨rfl, hil, fun a ha => ?_⟩ (by omega)
      rw [List.take_add_one, hx, Option.toList_some, List.mem_append] at ha
      rcases ha with ha | ha
      · exact hc a ha
      · simp at ha; subst ha; omega
  have hie : m.arcs.take i = m.arcs := List.take_of_length_le (by omega)
  rw [hie] at hc
  simp (disch := first | omega | simp) [iv, hil, hMg]
  refine loop_st (fun i : Nat => [iv i]) (fun i H' => M = H' ∧ i ≤ m.fins.length ∧ ∀ a ∈ m.fins.take i, a.w ≤ 500000) (fun i => m.fins.length - i) 0 (.refl (Nat.le_refl _)) ⟨rfl, Nat.zero_le _, by simp⟩ ?_
  rintro i _ _ ⟨rfl, hi, hcf⟩ k hk
  unfold S_wordhoardlaw_light_L1
  by_cases hil : i < m.fins.length
  · obtain ⟨x, hx⟩ : ∃ x, m.fins[i]? = some x := ⟨_, List.getElem?_eq_getElem hil⟩
    have hxg : ∀ h, m.fins[i]'h = x := fun h => (List.getElem?_eq_some_iff.1 hx).2
    have hiv := ivn (i := i) (by omega)
    by_cases q : 500000 < x.w
    · simp (disch := first | omega | simp) [iv, hil, hxg, hMg, Fin_.cs, q]
      exact rt_one hw hMl (by repeat (first | exact Cl.p _ | exact Cl.dsl _ _ | exact Cl.any | refine Cl.tup ?_ | refine Cl.agg ?_ | exact Clo.nil | refine Clo.cons ?_ ?_)) ⟨rfl, false, rfl, fun h => by cases h⟩
    · simp (disch := first | omega | simp) [iv, hil, hxg, hMg, Fin_.cs, q, hiv]
      refine hk (i + 1) _ _ _ (.refl (Nat.le_refl _)) ⟨rfl, hil, fun a ha => ?_⟩ (by omega)
      rw [List.take_add_one, hx, Option.toList_some, List.mem_append] at ha
      rcases ha with ha | ha
      · exact hcf a ha
      · simp at ha; subst ha; omega
  · have hie : m.fins.take i = m.fins := List.take_of_length_le (by omega)
    rw [hie] at hcf
    simp (disch := first | omega | simp) [iv, hil, hMg]
    exact rt_one hw hMl (by repeat (first | exact Cl.p _ | exact Cl.dsl _ _ | exact Cl.any | refine Cl.tup ?_ | refine Cl.agg ?_ | exact Clo.nil | refine Clo.cons ?_ ?_)) ⟨rfl, true, rfl, fun _ => ⟨by omega, by omega, hc, hcf⟩⟩)
def sameB (a b : List Int) : Bool := decide (a = b)
theorem c_Same (a b : List Int) : PF Try.prog 23 [.dsl 1 (nE a), .dsl 1 (nE b)] (bv (sameB a b)) := fun H => tri_wf fun hw => tri_len 0 rfl fun hl _ => tri_wordhoardref_Same (by
  have hml : maxLen = 9223372036854775807 := by decide
  rw [nE_len] at hl
  unfold S_wordhoardref_Same sameB
  by_cases hlen : a.length = b.length
  · have hlen' : (a.length : Int) = (b.length : Int) := by omega
    simp (disch := first | omega | simp) [hlen']
    refine loop_st (fun i : Nat => [iv i]) (fun i H' => H = H' ∧ i ≤ a.length ∧ a.take i = b.take i) (fun i => a.length - i) 0 (.refl (Nat.le_refl _)) ⟨rfl, Nat.zero_le _, rfl⟩ ?_
    rintro i _ _ ⟨rfl, hi, hc⟩ k hk
    unfold S_wordhoardref_Same_L1
    by_cases hil : i < a.length
    · obtain ⟨x, hx⟩ : ∃ x, a[i]? = some x := ⟨_, List.getElem?_eq_getElem hil⟩
      obtain ⟨y, hy⟩ : ∃ y, b[i]? = some y := ⟨_, List.getElem?_eq_getElem (by omega)⟩
      have hil' : (i : Int) < (a.length : Int) := by omega
      have hib : i < b.length := by omega
      have hxe := nE_get hx
      have hye := nE_get hy
      have hiv := ivn (i := i) (by omega)
      unfold iv at hxe hye
      by_cases q1 : x = y
      · simp (disch := first | omega | simp) [iv, hil', hxe, hye, hib, q1, hiv]
        exact hk (i + 1) _ _ _ (.refl (Nat.le_refl _)) ⟨rfl, hil, by rw [List.take_add_one, List.take_add_one, hc, hx, hy, q1]⟩ (by omega)
      · simp (disch := first | omega | simp) [iv, hil', hxe, hye, hib, q1]
        refine rt_refl ⟨rfl, ?_⟩ (Nat.le_refl _)
        have : ¬ a = b := fun e => by subst e; rw [hx] at hy; injection hy with hy; exact q1 hy
        simp [bv, this]
    · have hil' : ¬ (i : Int) < (a.length : Int) := by omega
      simp (disch := first | omega | simp) [iv, hil']
      refine rt_refl ⟨rfl, ?_⟩ (Nat.le_refl _)
      have : a = b := by rw [List.take_of_length_le (by omega), List.take_of_length_le (by omega)] at hc; exact hc
      simp [bv, this]
  · have hlen' : ¬ (a.length : Int) = (b.length : Int) := by omega
    simp (disch := first | omega | simp) [hlen']
    have : ¬ a = b := fun e => hlen (by rw [e])
    exact rt_refl ⟨rfl, by simp [bv, this]⟩ (Nat.le_refl _))
def oneM : Mac := ⟨2, [⟨0, 1, 1, 2, 3⟩], [⟨1, 0⟩]⟩
theorem rt_mac1 {H0 H1 : AH} {x : Mac} {va vf : AV} (hw : WF H0) (h0 : H0.le H1) (hn : H0.nx ≤ H1.nx) (ga : Grows 53 5 H0 H1 va (x.arcs.map Arc.cs)) (gf : Grows 56 2 H0 H1 vf (x.fins.map Fin_.cs)) :
    Rt Try.prog H0.nx (.agg [.p (.int .i64 x.states), va, vf]) (fun r H' => H' = H0 ∧ r = x.av) H1 := by
  obtain ⟨H2, k1, k2, k3, k4, k5⟩ := ga.fz (P := Try.prog) hw h0 hn
  have gf2 : Grows 56 2 H0 H2 vf (x.fins.map Fin_.cs) := gf.same (by omega) fun j hj ⟨n, hn⟩ => by
    obtain ⟨_, _, xs, hr⟩ := grows_at gf hn
    refine k4 j fun n' e => ?_
    obtain ⟨_, _, ys, hy⟩ := grows_at ga e
    rw [hr] at hy; injection hy with hy; injection hy with hy; exact absurd hy (by decide)
  obtain ⟨H3, q1, q2, q3, q4, q5⟩ := gf2.fz (P := Try.prog) hw k2 (by omega)
  refine Gh.step (((GW.st k1 hn).trans (GW.sub (.cons (Sub.agg (.cons (.refl _) (.cons k5 (.cons (.refl _) .nil)))) .nil) (by omega))).trans ((GW.st q1 (by omega)).trans (GW.sub (.cons (Sub.agg (.cons (.refl _) (.cons (.refl _) (.cons q5 .nil)))) .nil) (by omega)))) (Gh.back hw q2 (.one ?_) ⟨_, rfl, rfl, rfl⟩)
  exact (by repeat (first | exact Cl.p _ | exact Cl.dsl _ _ | exact Cl.any | refine Cl.tup ?_ | refine Cl.agg ?_ | exact Clo.nil | refine Clo.cons ?_ ?_))
theorem c_one : PF Try.prog 31 [] oneM.av := fun H => tri_wf fun hw => tri_wordhoardlaw_one (by
  unfold S_wordhoardlaw_one
  simp (disch := first | omega | simp) [put_get_ne]
  exact rt_mac1 (x := oneM) hw (by repeat (first | with_reducible assumption | with_reducible exact AH.le.refl _ | with_reducible apply AH.le.up | (with_reducible refine AH.le.put hw ?_ ?_; · first | omega | (simp only [up_nx, put_nx, kill_nx]; done) | (simp only [up_nx, put_nx, kill_nx]; omega)) | (with_reducible refine AH.le.kill hw ?_ ?_; · first | omega | (simp only [up_nx, put_nx, kill_nx]; done) | (simp only [up_nx, put_nx, kill_nx]; omega)))) (by first | omega | (simp only [up_nx, put_nx]; done) | (simp only [up_nx, put_nx]; omega)) (.row (by first | omega | (simp only [up_nx, put_nx, kill_nx]; done) | (simp only [up_nx, put_nx, kill_nx]; omega)) (by first | omega | (simp only [up_nx, put_nx]; done) | (simp only [up_nx, put_nx]; omega)) (by simp (disch := first | omega | simp) [put_get_ne]; rfl) (dt_arcs oneM.arcs) rfl) (.row (by first | omega | (simp only [up_nx, put_nx, kill_nx]; done) | (simp only [up_nx, put_nx, kill_nx]; omega)) (by first | omega | (simp only [up_nx, put_nx]; done) | (simp only [up_nx, put_nx]; omega)) (by simp (disch := first | omega | simp) [put_get_ne]; rfl) (dt_fins oneM.fins) rfl))
theorem costOf_spec {m : Mac} (hm : m.Ok) (I O : List Int) : Least (Acc m true I O) (costOf m true I O) := leastOf_spec fun _ h => h.nonneg hm
theorem Least.nonneg {S : Int → Prop} {v : Int} (h : Least S v) (hS : ∀ c, S c → 0 ≤ c) : 0 ≤ v := by
  by_cases hd : v < dear
  · exact hS v (h.at_ hd)
  · have : dear = 1152921504606846976 := rfl
    omega
/-- the least cost of a walk of a, and one of b behind it -/
def Split (a b : Mac) (I O : List Int) (c : Int) : Prop := ∃ i j, i ≤ I.length ∧ j ≤ O.length ∧ ∃ d e, Acc a true (I.take i) (O.take j) d ∧ Acc b true (I.drop i) (O.drop j) e ∧ c = d + e
noncomputable def splitC (a b : Mac) (I O : List Int) : Int := leastOf (Split a b I O)
set_option maxHeartbeats 1000000 in
theorem c_parted {a b : Mac} (ha : a.Ok) (hb : b.Ok) {I O : List Int} (hI : I.length ≤ 60) (hO : O.length ≤ 60) : PF Try.prog 19 [a.av, b.av, .dsl 1 (nE I), .dsl 1 (nE O)] (iv (splitC a b I O)) := fun H => tri_wf fun hw => tri_wordhoardlaw_parted (by
  have hml : maxLen = 9223372036854775807 := by decide
  unfold S_wordhoardlaw_parted Mac.av
  simp (disch := first | omega | simp)
  generalize hM : AH.put _ _ _ = M
  have hMl : H.le M := by rw [← hM]; exact (by repeat (first | with_reducible assumption | with_reducible exact AH.le.refl _ | with_reducible apply AH.le.up | (with_reducible refine AH.le.put hw ?_ ?_; · first | omega | (simp only [up_nx, put_nx, kill_nx]; done) | (simp only [up_nx, put_nx, kill_nx]; omega)) | (with_reducible refine AH.le.kill hw ?_ ?_; · first | omega | (simp only [up_nx, put_nx, kill_nx]; done) | (simp only [up_nx, put_nx, kill_nx]; omega))))
  have hMa : M.get H.nx = some (.box 25 a.cs) := by rw [← hM]; simp (disch := first | omega | simp) [put_get_ne]
  have hMb : M.get (H.nx + 1) = some (.box 25 b.cs) := by rw [← hM]; simp (disch := first | omega | simp)
  clear hM
  refine loop_st (fun x : Int × Nat => [iv x.1, iv (x.2 : Int)]) (fun x H' => M = H' ∧ x.2 ≤ I.length + 1 ∧ Least (fun c => ∃ i j, i < x.2 ∧ j ≤ O.length ∧ ∃ d e, Acc a true (I.take i) (O.take j) d ∧ Acc b true (I.drop i) (O.drop j) e ∧ c = d + e) x.1) (fun x => I.length + 1 - x.2) (dear, 0) (.refl (Nat.le_refl _)) ⟨rfl, Nat.zero_le _, ⟨fun c ⟨i, j, h, _⟩ => by omega, Int.le_refl _, fun h => absurd h (Int.lt_irrefl _)⟩⟩ ?_
  rintro ⟨v, i⟩ _ _ ⟨rfl, hi, hv⟩ k hk
  dsimp only at hi hv hk ⊢
  unfold S_wordhoardlaw_parted_L3
  by_cases hil : i ≤ I.length
  · have hil' : (i : Int) ≤ (I.length : Int) := by omega
    simp (disch := first | omega | simp) [iv, hil']
    refine loop_st (fun x : Int × Nat => [iv x.1, iv (x.2 : Int)]) (fun x H' => M = H' ∧ x.2 ≤ O.length + 1 ∧ Least (fun c => ∃ i' j, (i' < i ∨ (i' = i ∧ j < x.2)) ∧ j ≤ O.length ∧ ∃ d e, Acc a true (I.take i') (O.take j) d ∧ Acc b true (I.drop i') (O.drop j) e ∧ c = d + e) x.1) (fun x => O.length + 1 - x.2) (v, 0) (.refl (Nat.le_refl _)) ⟨rfl, Nat.zero_le _, hv.congr fun c => ⟨fun ⟨i', j, h1, h2⟩ => ⟨i', j, .inl h1, h2⟩, fun ⟨i', j, h1, h2⟩ => ⟨i', j, by omega, h2⟩⟩⟩ ?_
    rintro ⟨u, j⟩ _ _ ⟨rfl, hj, hu⟩ k2 hk2
    dsimp only at hj hu hk2 ⊢
    unfold S_wordhoardlaw_parted_L2
    by_cases hjl : j ≤ O.length
    · have hjl' : (j : Int) ≤ (O.length : Int) := by omega
      simp (disch := first | omega | simp) [iv, hjl']
      unfold S_wordhoardlaw_parted_C1
      have eIt : (nE I).take i = nE (I.take i) := by simp [nE, List.map_take]
      have eOt : (nE O).take j = nE (O.take j) := by simp [nE, List.map_take]
      have eId : (nE I).drop i = nE (I.drop i) := by simp [nE, List.map_drop]
      have eOd : (nE O).drop j = nE (O.drop j) := by simp [nE, List.map_drop]
      have hC := costOf_spec ha (I.take i) (O.take j)
      have hD := costOf_spec hb (I.drop i) (O.drop j)
      have cC := fun H2 => c_Cost ha true (I := I.take i) (O := O.take j) (by rw [List.length_take]; omega) (by rw [List.length_take]; omega) H2
      have cD := fun H2 => c_Cost hb true (I := I.drop i) (O := O.drop j) (by rw [List.length_drop]; omega) (by rw [List.length_drop]; omega) H2
      have hC0 := hC.nonneg fun _ h => h.nonneg ha
      have hD0 := hD.nonneg fun _ h => h.nonneg hb
      have hu0 := hu.nonneg fun c ⟨_, _, _, _, d, e, h1, h2, h3⟩ => by have := h1.nonneg ha; have := h2.nonneg hb; omega
      have hC1 := hC.top
      have hD1 := hD.top
      have hu1 := hu.top
      generalize costOf a true (I.take i) (O.take j) = C at *
      generalize costOf b true (I.drop i) (O.drop j) = D at *
      have hdr : dear = 1152921504606846976 := rfl
      have hw1 : IntKind.i64.wrap (C + D) = C + D := by rw [IntKind.wrap_i64]; omega
      have hjv := ivn (i := j) (by omega)
      have hnext : ∀ u', Least (fun c => ∃ d e, Acc a true (I.take i) (O.take j) d ∧ Acc b true (I.drop i) (O.drop j) e ∧ c = d + e) u' → ∀ r, r = min u u' → k2 [.p (.int .i64 r), .p (.int .i64 ((j + 1 : Nat) : Int))] M := fun u' hu' r hr => by
        refine hk2 (r, j + 1) _ _ _ (.refl (Nat.le_refl _)) ⟨rfl, by dsimp only; omega, ?_⟩ (by dsimp only; omega)
        dsimp only
        have hall : ∀ c, (∃ i' j', (i' < i ∨ (i' = i ∧ j' < j + 1)) ∧ j' ≤ O.length ∧ ∃ d e, Acc a true (I.take i') (O.take j') d ∧ Acc b true (I.drop i') (O.drop j') e ∧ c = d + e) ↔ ((∃ i' j', (i' < i ∨ (i' = i ∧ j' < j)) ∧ j' ≤ O.length ∧ ∃ d e, Acc a true (I.take i') (O.take j') d ∧ Acc b true (I.drop i') (O.drop j') e ∧ c = d + e) ∨ (∃ d e, Acc a true (I.take i) (O.take j) d ∧ Acc b true (I.drop i) (O.drop j) e ∧ c = d + e)) := fun c => by
          constructor
          · rintro ⟨i', j', h1, h2, h3⟩
            by_cases e : i' = i ∧ j' = j
            · obtain ⟨rfl, rfl⟩ := e; exact .inr h3
            · exact .inl ⟨i', j', by omega, h2, h3⟩
          · rintro (⟨i', j', h1, h2, h3⟩ | h3)
            · exact ⟨i', j', by omega, h2, h3⟩
            · exact ⟨i, j, .inr ⟨rfl, by omega⟩, by omega, h3⟩
        have h1 := hu'.top
        refine ⟨fun c hc => ?_, by omega, fun hlt => (hall _).2 ?_⟩
        · rcases (hall c).1 hc with h | h
          · have := hu.le c h; omega
          · have := hu'.le c h; omega
        · by_cases e : u ≤ u'
          · have : r = u := by omega
            rw [this]; exact .inl (hu.at_ (by omega))
          · have : r = u' := by omega
            rw [this]; exact .inr (hu'.at_ (by omega))
      have hbig : ¬ (C < dear ∧ D < dear) → k2 [.p (.int .i64 u), .p (.int .i64 ((j + 1 : Nat) : Int))] M := fun hn => hnext dear ⟨fun c ⟨d, e, h1, h2, h3⟩ => by have := hC.le d h1; have := hD.le e h2; have := h1.nonneg ha; have := h2.nonneg hb; omega, Int.le_refl _, fun h => absurd h (Int.lt_irrefl _)⟩ u (by omega)
      simp (disch := first | omega | simp) [iv, hMa, Mac.cs, eIt, eOt]
      refine ⟨hil, hjl, ?_⟩
      refine cav_pure (by kernel_rfl) (fun H2 _ => cC H2) ?_
      simp (disch := first | omega | simp) [iv, hMb, Mac.cs, eId, eOd]
      refine ⟨hil, hjl, ?_⟩
      refine cav_pure (by kernel_rfl) (fun H2 _ => cD H2) ?_
      by_cases q1 : C < 1152921504606846976
      · by_cases q2 : D < 1152921504606846976
        · simp (disch := first | omega | simp) [iv, q1, q2, hw1, hjv]
          by_cases hCD : C + D < dear
          · refine hnext (C + D) ⟨fun c ⟨d, e, h1, h2, h3⟩ => by have := hC.le d h1; have := hD.le e h2; omega, by omega, fun _ => ⟨C, D, hC.at_ q1, hD.at_ q2, rfl⟩⟩ _ ?_
            split <;> omega
          · refine hnext dear ⟨fun c ⟨d, e, h1, h2, h3⟩ => by have := hC.le d h1; have := hD.le e h2; omega, Int.le_refl _, fun h => absurd h (Int.lt_irrefl _)⟩ _ ?_
            split <;> omega
        · simp (disch := first | omega | simp) [iv, q1, q2, hjv]
          exact hbig (by omega)
      · simp (disch := first | omega | simp) [iv, q1, hjv]
        exact hbig (by omega)
    · have hjl' : ¬ (j : Int) ≤ (O.length : Int) := by omega
      have hiv := ivn (i := i) (by omega)
      simp (disch := first | omega | simp) [iv, hjl', hiv]
      refine hk (u, i + 1) _ _ _ (.refl (Nat.le_refl _)) ⟨rfl, by dsimp only; omega, hu.congr fun c => ⟨fun ⟨i', j', h1, h2⟩ => ⟨i', j', by omega, h2⟩, fun ⟨i', j', h1, h2, h3⟩ => ⟨i', j', by omega, h2, h3⟩⟩⟩ (by dsimp only; omega)
  · have hil' : ¬ (i : Int) ≤ (I.length : Int) := by omega
    simp (disch := first | omega | simp) [iv, hil']
    refine rt_one hw hMl (by repeat (first | exact Cl.p _ | exact Cl.dsl _ _ | exact Cl.any | refine Cl.tup ?_ | refine Cl.agg ?_ | exact Clo.nil | refine Clo.cons ?_ ?_)) ⟨rfl, ?_⟩
    rw [splitC, leastOf_eq (S := Split a b I O) (v := v) (hv.congr fun c => ⟨fun ⟨i', j, h1, h2, h3⟩ => ⟨i', j, by omega, h2, h3⟩, fun ⟨i', j, h1, h2, h3⟩ => ⟨i', j, by omega, h2, h3⟩⟩)])
end Go.Proofs.Ytgkkilbeingleaa

/- Machines that are made are machines; what they cost. Plain. -/
namespace Go.Proofs.Ytgkkilbeingleaa
theorem nodup_shift {l : List Fin_} {s : Int} (h : (l.map Fin_.st).Nodup) : ((l.map (Fin_.shift s)).map Fin_.st).Nodup := by
  rw [List.map_map]
  have e : (Fin_.st ∘ Fin_.shift s) = (fun x => s + x) ∘ Fin_.st := rfl
  rw [e, ← List.map_map]
  exact List.pairwise_map.2 (List.Pairwise.imp (fun {x y} (hne : x ≠ y) (e : s + x = s + y) => hne (by omega)) h)
theorem either_ok {a b : Mac} (ha : a.Ok) (hb : b.Ok) (fa : a.Few) (fb : b.Few) : (a.either b).Ok := by
  obtain ⟨a1, a2, a3, a4, a5, a6, a7⟩ := ha
  obtain ⟨b1, b2, b3, b4, b5, b6, b7⟩ := hb
  obtain ⟨f1, f2, f3⟩ := fa
  obtain ⟨g1, g2, g3⟩ := fb
  refine ⟨?_, ?_, ?_, ?_, fun x hx => ?_, fun f hf => ?_, ?_⟩
  · show 1 ≤ 1 + a.states + b.states; omega
  · show 1 + a.states + b.states ≤ 3000; omega
  · simp [Mac.either]; omega
  · simp [Mac.either]; omega
  · have hs : (a.either b).states = 1 + a.states + b.states := rfl
    rw [hs]
    rcases mem_append4.1 (show x ∈ a.arcs.map (Arc.shift 1) ++ [⟨0, 1, 0, 0, 0⟩] ++ b.arcs.map (Arc.shift (1 + a.states)) ++ [⟨0, 1 + a.states, 0, 0, 0⟩] from hx) with h | h | h | h
    · obtain ⟨y, hy, rfl⟩ := List.mem_map.1 h
      have := a5 y hy
      unfold Arc.shift; dsimp only; omega
    · simp at h; subst h; dsimp only; omega
    · obtain ⟨y, hy, rfl⟩ := List.mem_map.1 h
      have := b5 y hy
      unfold Arc.shift; dsimp only; omega
    · simp at h; subst h; dsimp only; omega
  · have hs : (a.either b).states = 1 + a.states + b.states := rfl
    rw [hs]
    rcases List.mem_append.1 (show f ∈ a.fins.map (Fin_.shift 1) ++ b.fins.map (Fin_.shift (1 + a.states)) from hf) with h | h
    · obtain ⟨y, hy, rfl⟩ := List.mem_map.1 h
      have := a6 y hy
      unfold Fin_.shift; dsimp only; omega
    · obtain ⟨y, hy, rfl⟩ := List.mem_map.1 h
      have := b6 y hy
      unfold Fin_.shift; dsimp only; omega
  · show ((a.fins.map (Fin_.shift 1) ++ b.fins.map (Fin_.shift (1 + a.states))).map Fin_.st).Nodup
    rw [List.map_append, List.nodup_append]
    refine ⟨nodup_shift a7, nodup_shift b7, fun x hx y hy e => ?_⟩
    obtain ⟨p, hp, rfl⟩ := List.mem_map.1 hx
    obtain ⟨q, hq, rfl⟩ := List.mem_map.1 hy
    obtain ⟨p', hp', rfl⟩ := List.mem_map.1 hp
    obtain ⟨q', hq', rfl⟩ := List.mem_map.1 hq
    have := a6 p' hp'
    have := b6 q' hq'
    unfold Fin_.shift at e; dsimp only at e; omega
theorem chain_ok {a b : Mac} (ha : a.Ok) (hb : b.Ok) (fa : a.Few) (fb : b.Few) : (a.chain b).Ok := by
  obtain ⟨a1, a2, a3, a4, a5, a6, a7⟩ := ha
  obtain ⟨b1, b2, b3, b4, b5, b6, b7⟩ := hb
  obtain ⟨f1, f2, f3⟩ := fa
  obtain ⟨g1, g2, g3⟩ := fb
  refine ⟨?_, ?_, ?_, ?_, fun x hx => ?_, fun f hf => ?_, ?_⟩
  · show 1 ≤ 0 + a.states + b.states; omega
  · show 0 + a.states + b.states ≤ 3000; omega
  · simp [Mac.chain]; omega
  · simp [Mac.chain]; omega
  · have hs : (a.chain b).states = 0 + a.states + b.states := rfl
    rw [hs]
    have hx' : x ∈ a.arcs.map (Arc.shift 0) ++ b.arcs.map (Arc.shift (0 + a.states)) ++ a.fins.map (fun f => ⟨f.st, 0 + a.states, 0, 0, f.w⟩) := hx
    rw [List.mem_append, List.mem_append] at hx'
    rcases hx' with (h | h) | h
    · obtain ⟨y, hy, rfl⟩ := List.mem_map.1 h
      have := a5 y hy
      unfold Arc.shift; dsimp only; omega
    · obtain ⟨y, hy, rfl⟩ := List.mem_map.1 h
      have := b5 y hy
      unfold Arc.shift; dsimp only; omega
    · obtain ⟨y, hy, rfl⟩ := List.mem_map.1 h
      have := a6 y hy
      dsimp only; omega
  · have hs : (a.chain b).states = 0 + a.states + b.states := rfl
    rw [hs]
    obtain ⟨y, hy, rfl⟩ := List.mem_map.1 (show f ∈ b.fins.map (Fin_.shift (0 + a.states)) from hf)
    have := b6 y hy
    unfold Fin_.shift; dsimp only; omega
  · exact nodup_shift b7
theorem rep_ok {a : Mac} (ha : a.Ok) (fa : a.Few) : a.rep.Ok := by
  obtain ⟨a1, a2, a3, a4, a5, a6, a7⟩ := ha
  obtain ⟨f1, f2, f3⟩ := fa
  refine ⟨?_, ?_, ?_, ?_, fun x hx => ?_, fun f hf => ?_, ?_⟩
  · show 1 ≤ 1 + a.states; omega
  · show 1 + a.states ≤ 3000; omega
  · simp [Mac.rep]; omega
  · simp [Mac.rep]; omega
  · have hs : a.rep.states = 1 + a.states := rfl
    rw [hs]
    have hx' : x ∈ a.arcs.map (Arc.shift 1) ++ [⟨0, 1, 0, 0, 0⟩] ++ a.fins.map (fun f => ⟨1 + f.st, 0, 0, 0, f.w⟩) := hx
    rw [List.mem_append, List.mem_append, List.mem_singleton] at hx'
    rcases hx' with (h | h) | h
    · obtain ⟨y, hy, rfl⟩ := List.mem_map.1 h
      have := a5 y hy
      unfold Arc.shift; dsimp only; omega
    · subst h; dsimp only; omega
    · obtain ⟨y, hy, rfl⟩ := List.mem_map.1 h
      have := a6 y hy
      dsimp only; omega
  · have hs : a.rep.states = 1 + a.states := rfl
    rw [hs]
    have := List.mem_singleton.1 (show f ∈ [⟨0, 0⟩] from hf)
    subst this; dsimp only; omega
  · show ([⟨0, 0⟩].map Fin_.st).Nodup
    simp
theorem turn_ok {a : Mac} (ha : a.Ok) (T : Arc → Arc) (hT : ∀ x, (T x).fr = x.fr ∧ (T x).to = x.to ∧ (T x).w = x.w ∧ ((T x).inn = x.inn ∨ (T x).inn = x.out) ∧ ((T x).out = x.inn ∨ (T x).out = x.out)) : (a.turn T).Ok := by
  obtain ⟨a1, a2, a3, a4, a5, a6, a7⟩ := ha
  refine ⟨a1, a2, by simpa [Mac.turn] using a3, a4, fun x hx => ?_, a6, a7⟩
  obtain ⟨y, hy, rfl⟩ := List.mem_map.1 (show x ∈ a.arcs.map T from hx)
  have := a5 y hy
  have := hT y
  show _ ∧ (T y).fr < a.states ∧ _ ∧ (T y).to < a.states ∧ _
  omega
theorem either_cost {a b : Mac} (ha : a.Ok) (hb : b.Ok) {I O : List Int} : costOf (a.either b) true I O = min (costOf a true I O) (costOf b true I O) := by
  have h1 := costOf_spec ha I O
  have h2 := costOf_spec hb I O
  refine leastOf_eq ((⟨fun c hc => ?_, ?_, fun hlt => ?_⟩ : Least (fun c => Acc a true I O c ∨ Acc b true I O c) _).congr fun c => (acc_either ha hb).symm)
  · rcases hc with h | h
    · have := h1.le c h; omega
    · have := h2.le c h; omega
  · have := h1.top; omega
  · by_cases e : costOf a true I O ≤ costOf b true I O
    · rw [Int.min_eq_left e] at hlt ⊢
      exact .inl (h1.at_ hlt)
    · rw [Int.min_eq_right (by omega)] at hlt ⊢
      exact .inr (h2.at_ hlt)
theorem chain_cost {a b : Mac} (ha : a.Ok) (hb : b.Ok) {I O : List Int} : costOf (a.chain b) true I O = splitC a b I O := by
  refine leastOf_eq ((leastOf_spec (S := Split a b I O) fun c ⟨_, _, _, _, d, e, h1, h2, h3⟩ => ?_).congr fun c => (acc_split ha hb).symm)
  have := h1.nonneg ha
  have := h2.nonneg hb
  omega
noncomputable def starC (a : Mac) (I O : List Int) : Int := leastOf (Star a I O)
theorem rep_cost {a : Mac} (ha : a.Ok) {I O : List Int} : costOf a.rep true I O = starC a I O :=
  leastOf_eq ((leastOf_spec (S := Star a I O) fun _c h => h.nonneg ha).congr fun _c => (acc_rep ha).symm)
theorem turn_cost {a : Mac} (ha : a.Ok) {I O : List Int} : costOf (a.turn turnA) true I O = costOf a true O I :=
  leastOf_eq ((costOf_spec ha O I).congr fun _c => acc_turn.symm)
theorem side_cost {a : Mac} (ha : a.Ok) {I O : List Int} : costOf (a.turn sideA) true I O = if I = O then costOf a false I [] else dear := by
  by_cases e : I = O
  · rw [if_pos e]
    exact leastOf_eq ((leastOf_spec (S := Acc a false I []) fun _ h => h.nonneg ha).congr fun c => ⟨fun h => acc_side.2 ⟨e, h⟩, fun h => (acc_side.1 h).2⟩)
  · rw [if_neg e]
    exact leastOf_eq ⟨fun c hc => absurd (acc_side.1 hc).1 e, Int.le_refl _, fun h => absurd h (Int.lt_irrefl _)⟩
end Go.Proofs.Ytgkkilbeingleaa

/- Any number of walks: the table of again. -/
namespace Go.Proofs.Ytgkkilbeingleaa
open Go.RowKit Go.Maps
def Cand (a : Mac) (I O : List Int) (i j r w : Nat) (c : Int) : Prop := (i = 0 ∧ j = 0 ∧ c = 0) ∨ ∃ r' w', (r' < r ∨ (r' = r ∧ w' < w)) ∧ r' ≤ i ∧ w' ≤ j ∧ ¬ (r' = i ∧ w' = j) ∧ ∃ d e, Star a (I.take r') (O.take w') d ∧ Acc a true ((I.take i).drop r') ((O.take j).drop w') e ∧ c = d + e
theorem take_le_drop {α : Type} {l : List α} {r i : Nat} (h : r ≤ i) : l.take i = l.take r ++ (l.take i).drop r := by
  have := (List.take_append_drop r (l.take i)).symm
  rw [List.take_take, Nat.min_eq_left h] at this
  exact this
theorem cand_least {a : Mac} (ha : a.Ok) {I O : List Int} {i j : Nat} {u : Int} (hi : i ≤ I.length) (hj : j ≤ O.length) (h : Least (Cand a I O i j (i + 1) 0) u) : Least (Star a (I.take i) (O.take j)) u := by
  refine h.dom (fun c hc => ?_) fun c hc => ?_
  · rcases hc with ⟨rfl, rfl, rfl⟩ | ⟨r, w, _, h2, h3, _, d, e, h5, h6, rfl⟩
    · exact .nil
    · rw [take_le_drop h2, take_le_drop h3]
      rw [take_le_drop (l := I) h2, take_le_drop (l := O) h3] at h6
      have e1 : (I.take r ++ (I.take i).drop r).drop r = (I.take i).drop r := by rw [← take_le_drop h2]
      have e2 : (O.take w ++ (O.take j).drop w).drop w = (O.take j).drop w := by rw [← take_le_drop h3]
      rw [e1, e2] at h6
      exact h5.snoc h6
  · rcases hc.last ha with ⟨h1, h2, h0⟩ | ⟨X1, X2, Y1, Y2, d, e, h1, h2, h3, h4, h5, h6⟩
    · have l1 := congrArg List.length h1
      have l2 := congrArg List.length h2
      rw [List.length_take] at l1 l2
      simp at l1 l2
      refine ⟨0, h0, .inl ⟨?_, ?_, rfl⟩⟩
      · rcases l1 with l | l
        · exact l
        · subst l; simp at hi; exact hi
      · rcases l2 with l | l
        · exact l
        · subst l; simp at hj; exact hj
    · have l1 := congrArg List.length h1
      have l2 := congrArg List.length h2
      rw [List.length_take, List.length_append] at l1 l2
      have m1 : X1.length ≤ i := by omega
      have m2 : Y1.length ≤ j := by omega
      have e1 : I.take X1.length = X1 := by
        have := congrArg (List.take X1.length) h1
        rw [List.take_take, Nat.min_eq_left m1] at this
        rw [this]; simp
      have e2 : O.take Y1.length = Y1 := by
        have := congrArg (List.take Y1.length) h2
        rw [List.take_take, Nat.min_eq_left m2] at this
        rw [this]; simp
      refine ⟨d + e, h6, .inr ⟨X1.length, Y1.length, by omega, m1, m2, ?_, d, e, by rw [e1, e2]; exact h4, by rw [h1, h2]; simpa using h5, rfl⟩⟩
      rintro ⟨q1, q2⟩
      rcases h3 with h | h
      · have : X2.length ≠ 0 := fun z => h (List.length_eq_zero_iff.1 z)
        omega
      · have : Y2.length ≠ 0 := fun z => h (List.length_eq_zero_iff.1 z)
        omega
/-- what stands in the table so far -/
def Bst (a : Mac) (I O : List Int) (n k : Nat) (L : List Int) (i j : Nat) : Prop := ∀ i' j', i' < n → j' < k → (i' < i ∨ (i' = i ∧ j' < j)) → ∃ v, L[i' * k + j']? = some v ∧ Least (Star a (I.take i') (O.take j')) v
theorem pl_inj {k i j i' j' : Nat} (hj : j < k) (hj' : j' < k) (h : i * k + j = i' * k + j') : i = i' ∧ j = j' := by
  have := ix_inj (n := i + i' + 1) (k := k) (s := 0) (s' := 0) (i := i) (i' := i') (by omega) hj (by omega) hj' (by unfold ix; simpa using h)
  exact ⟨this.2.1, this.2.2⟩
theorem pl_lt {n k i j : Nat} (hi : i < n) (hj : j < k) : i * k + j < n * k := by
  have := ix_lt (N := 1) (n := n) (k := k) (s := 0) (by omega) hi hj
  unfold ix at this
  simpa using this
theorem Bst.set {a : Mac} {I O : List Int} {n k : Nat} {L : List Int} {i j : Nat} (h : Bst a I O n k L i j) (hj : j < k) (x : Int) : Bst a I O n k (L.set (i * k + j) x) i j := fun i' j' h1 h2 h3 => by
  obtain ⟨v, hv, hl⟩ := h i' j' h1 h2 h3
  refine ⟨v, ?_, hl⟩
  rw [List.getElem?_set_ne (fun e => by obtain ⟨e1, e2⟩ := pl_inj hj h2 e; omega)]
  exact hv
theorem Bst.next {a : Mac} {I O : List Int} {n k : Nat} {L : List Int} {i j : Nat} {u : Int} (h : Bst a I O n k L i j) (hu : L[i * k + j]? = some u) (hl : Least (Star a (I.take i) (O.take j)) u) : Bst a I O n k L i (j + 1) := fun i' j' h1 h2 h3 => by
  by_cases e : i' = i ∧ j' = j
  · obtain ⟨rfl, rfl⟩ := e; exact ⟨u, hu, hl⟩
  · exact h i' j' h1 h2 (by omega)
theorem Bst.row {a : Mac} {I O : List Int} {n k : Nat} {L : List Int} {i : Nat} (h : Bst a I O n k L i k) : Bst a I O n k L (i + 1) 0 := fun i' j' h1 h2 h3 => h i' j' h1 h2 (by omega)
theorem cand_start (a : Mac) (I O : List Int) (i j : Nat) : Least (Cand a I O i j 0 0) (if i + j = 0 then 0 else dear) := by
  split
  · refine ⟨fun c hc => ?_, by decide, fun _ => .inl ⟨by omega, by omega, rfl⟩⟩
    rcases hc with ⟨_, _, rfl⟩ | ⟨_, _, h, _⟩ <;> omega
  · refine ⟨fun c hc => ?_, Int.le_refl _, fun h => absurd h (Int.lt_irrefl _)⟩
    rcases hc with ⟨_, _, rfl⟩ | ⟨_, _, h, _⟩ <;> omega
/-- one more place from which a last walk may begin -/
theorem cand_step {a : Mac} (ha : a.Ok) {I O : List Int} {i j r w : Nat} {u p C u' : Int} (h : Least (Cand a I O i j r w) u) (hr : r ≤ i) (hw : w ≤ j) (hne : ¬ (r = i ∧ w = j)) (hp : Least (Star a (I.take r) (O.take w)) p) (hC : Least (Acc a true ((I.take i).drop r) ((O.take j).drop w)) C)
    (hu : u' = if p < dear ∧ C < dear ∧ p + C < u then p + C else u) : Least (Cand a I O i j r (w + 1)) u' := by
  have hall : ∀ c, Cand a I O i j r (w + 1) c ↔ (Cand a I O i j r w c ∨ ∃ d e, Star a (I.take r) (O.take w) d ∧ Acc a true ((I.take i).drop r) ((O.take j).drop w) e ∧ c = d + e) := fun c => by
    constructor
    · rintro (h | ⟨r', w', h1, h2, h3, h4, h5⟩)
      · exact .inl (.inl h)
      · by_cases e : r' = r ∧ w' = w
        · obtain ⟨rfl, rfl⟩ := e; exact .inr h5
        · exact .inl (.inr ⟨r', w', by omega, h2, h3, h4, h5⟩)
    · rintro ((h | ⟨r', w', h1, h2⟩) | h)
      · exact .inl h
      · exact .inr ⟨r', w', by omega, h2⟩
      · exact .inr ⟨r, w, by omega, hr, hw, hne, h⟩
  have hp0 := hp.nonneg fun _ h => h.nonneg ha
  have hC0 := hC.nonneg fun _ h => h.nonneg ha
  have ht := h.top
  refine ⟨fun c hc => ?_, ?_, fun hlt => (hall _).2 ?_⟩
  · rcases (hall c).1 hc with k | ⟨d, e, k1, k2, k3⟩
    · have := h.le c k
      rw [hu]; split <;> omega
    · have := hp.le d k1
      have := hC.le e k2
      have := k1.nonneg ha
      have := k2.nonneg ha
      rw [hu]; split <;> omega
  · rw [hu]; split <;> omega
  · by_cases q : p < dear ∧ C < dear ∧ p + C < u
    · rw [if_pos q] at hu
      exact .inr ⟨p, C, hp.at_ q.1, hC.at_ q.2.1, hu⟩
    · rw [if_neg q] at hu
      rw [hu]; exact .inl (h.at_ (by omega))
theorem pl_int {n k i j : Nat} (hn : n ≤ 61) (hk : k ≤ 61) (hi : i < n) (hj : j < k) : IntKind.i64.wrap (IntKind.i64.wrap ((i : Int) * (k : Int)) + (j : Int)) = ((i * k + j : Nat) : Int) := by
  have h1 : i * k ≤ 61 * 61 := Nat.mul_le_mul (by omega) hk
  have e : (i : Int) * (k : Int) = ((i * k : Nat) : Int) := by rw [Int.natCast_mul]
  rw [e]
  generalize i * k = z at h1
  have w1 : IntKind.i64.wrap (z : Int) = z := by rw [IntKind.wrap_i64]; omega
  rw [w1, IntKind.wrap_i64]; omega
set_option maxHeartbeats 2000000 in
theorem c_again {a : Mac} (ha : a.Ok) {I O : List Int} (hI : I.length ≤ 60) (hO : O.length ≤ 60) : PF Try.prog 22 [a.av, .dsl 1 (nE I), .dsl 1 (nE O)] (iv (starC a I O)) := fun H => tri_wf fun hw => tri_wordhoardlaw_again (by
  have hml : maxLen = 9223372036854775807 := by decide
  obtain ⟨n, hn⟩ : ∃ n, n = I.length + 1 := ⟨_, rfl⟩
  obtain ⟨k, hk⟩ : ∃ k, k = O.length + 1 := ⟨_, rfl⟩
  have hlI := ivn (i := I.length) (by omega)
  have hlO := ivn (i := O.length) (by omega)
  rw [← hn] at hlI
  rw [← hk] at hlO
  obtain ⟨N, hN⟩ : ∃ N, N = n * k := ⟨_, rfl⟩
  have hNle : N ≤ 61 * 61 := by rw [hN]; exact Nat.mul_le_mul (by omega) (by omega)
  have hNw : IntKind.i64.wrap ((n : Int) * (k : Int)) = (N : Int) := by
    have e : (n : Int) * (k : Int) = (N : Int) := by rw [hN, Int.natCast_mul]
    rw [e, IntKind.wrap_i64]; omega
  unfold S_wordhoardlaw_again Mac.av
  simp (disch := first | omega | simp) [hlI, hlO, hNw]
  refine ⟨by omega, by omega, ?_⟩
  obtain ⟨R, hR⟩ : ∃ R, R = H.nx + 2 + 3 := ⟨_, rfl⟩
  rw [← hR]
  generalize hMe : AH.put _ _ _ = M
  have hMl : H.le M := by rw [← hMe]; exact (by repeat (first | with_reducible assumption | with_reducible exact AH.le.refl _ | with_reducible apply AH.le.up | (with_reducible refine AH.le.put hw ?_ ?_; · first | omega | (simp only [up_nx, put_nx, kill_nx]; done) | (simp only [up_nx, put_nx, kill_nx]; omega)) | (with_reducible refine AH.le.kill hw ?_ ?_; · first | omega | (simp only [up_nx, put_nx, kill_nx]; done) | (simp only [up_nx, put_nx, kill_nx]; omega))))
  have hMn : M.nx = H.nx + 7 := by rw [← hMe]; rfl
  have hMa : M.get H.nx = some (.box 25 a.cs) := by rw [← hMe]; simp (disch := first | omega | simp) [put_get_ne]
  have hMR : M.get R = some (.row 3 1 (nE (List.replicate N 0))) := by rw [← hMe, put_get]; simp [nE, iv]
  clear hMe
  have hne : R ≠ H.nx := by omega
  -- all that is kept: the machine's box
  refine loop_wf (fun i : Nat => [iv i]) (fun i H' => H.le H' ∧ M.nx ≤ H'.nx ∧ H'.get H.nx = some (.box 25 a.cs) ∧ i ≤ n ∧ ∃ L, H'.get R = some (.row 3 1 (nE L)) ∧ L.length = N ∧ Bst a I O n k L i 0) (fun i => n - i) 0 (.refl (Nat.le_refl _)) ⟨hMl, Nat.le_refl _, hMa, Nat.zero_le _, _, hMR, by simp, fun i' j' _ _ h => by omega⟩ ?_
  rintro i H1 hn1 hw1 ⟨hle1, hnx1, ha1, hi1, L1, hR1, hL1, hb1⟩ ki hki
  unfold S_wordhoardlaw_again_L7
  by_cases hin : i < n
  · have hin' : (i : Int) < (n : Int) := by omega
    simp (disch := first | omega | simp) [iv, hin']
    refine loop_wf (fun i : Nat => [iv i]) (fun j H' => H.le H' ∧ H1.nx ≤ H'.nx ∧ H'.get H.nx = some (.box 25 a.cs) ∧ j ≤ k ∧ ∃ L, H'.get R = some (.row 3 1 (nE L)) ∧ L.length = N ∧ Bst a I O n k L i j) (fun j => k - j) 0 (.refl (Nat.le_refl _)) ⟨hle1, Nat.le_refl _, ha1, Nat.zero_le _, L1, hR1, hL1, hb1⟩ ?_
    rintro j H2 hn2 hw2 ⟨hle2, hnx2, ha2, hj2, L2, hR2, hL2, hb2⟩ kj hkj
    unfold S_wordhoardlaw_again_L6
    by_cases hjk : j < k
    · have hjk' : (j : Int) < (k : Int) := by omega
      have hpl := pl_int (n := n) (k := k) (i := i) (j := j) (by omega) (by omega) hin hjk
      have hq : i * k + j < N := by rw [hN]; exact pl_lt hin hjk
      obtain ⟨q, hqe⟩ : ∃ q, q = i * k + j := ⟨_, rfl⟩
      rw [← hqe] at hpl hq
      have hb2' : Bst a I O n k (L2.set q dear) i j := by rw [hqe]; exact hb2.set hjk dear
      have hs2 := nE_set L2 q dear
      obtain ⟨x2, hx2⟩ : ∃ x, L2[q]? = some x := ⟨_, List.getElem?_eq_getElem (by omega)⟩
      have hxe2 := nE_get hx2
      unfold iv dear at hs2
      unfold iv at hxe2
      have hqL : q < L2.length := by omega
      simp (disch := first | omega | simp) [iv, hjk', hpl, hR2, hxe2, hq]
      rw [hs2]
      generalize hMe : AH.put _ _ _ = M3
      have hM3l : H.le M3 := by rw [← hMe]; exact AH.le.put hw (by omega) (AH.le.up hle2)
      have hM3n : M3.nx = H2.nx + 8 := by rw [← hMe]; rfl
      have hM3a : M3.get H.nx = some (.box 25 a.cs) := by rw [← hMe, AH.get_put_ne (Ne.symm hne)]; exact ha2
      have hM3R : M3.get R = some (.row 3 1 (nE (L2.set q dear))) := by rw [← hMe]; exact put_get _ _
      clear hMe
      have hq3 : (L2.set q dear)[q]? = some dear := List.getElem?_set_self hqL
      have hL3 : (L2.set q dear).length = N := by rw [List.length_set]; exact hL2
      generalize L2.set q dear = L3 at hM3R hb2' hq3 hL3
      refine cut_wf (fun _ : Unit => []) (fun _ H' => H.le H' ∧ M3.nx ≤ H'.nx ∧ H'.get H.nx = some (.box 25 a.cs) ∧ ∃ L, H'.get R = some (.row 3 1 (nE L)) ∧ L.length = N ∧ Bst a I O n k L i j ∧ L[q]? = some (if i + j = 0 then 0 else dear)) (fun kc hkc => ?_) ?_
      · have hwij : IntKind.i64.wrap ((i : Int) + (j : Int)) = ((i + j : Nat) : Int) := by rw [IntKind.wrap_i64]; omega
        by_cases h0 : i + j = 0
        · have i0 : i = 0 := by omega
          have j0 : j = 0 := by omega
          subst i0 j0
          have q0 : q = 0 := by omega
          subst q0
          have hs3 := nE_set L3 0 0
          have hxe3 := nE_get hq3
          unfold iv at hs3 hxe3
          have hb3 : Bst a I O n k (L3.set 0 0) 0 0 := by have := hb2'.set hjk 0; simpa using this
          have hz : IntKind.i64.wrap ((0 : Int) + 0) = 0 := by rw [IntKind.wrap_i64]; omega
          simp (disch := first | omega | simp) [hM3R, hxe3, hq]
          rw [hs3]
          refine hkc () _ _ _ (.refl (by first | omega | (simp only [up_nx, put_nx]; done) | (simp only [up_nx, put_nx]; omega))) ⟨AH.le.put hw (by omega) (AH.le.up hM3l), (by first | omega | (simp only [up_nx, put_nx]; done) | (simp only [up_nx, put_nx]; omega)), by rw [AH.get_put_ne (Ne.symm hne)]; exact hM3a, _, put_get _ _, by rw [List.length_set]; exact hL3, hb3, ?_⟩
          rw [List.getElem?_set_self (by omega)]; rfl
        · have h0' : ¬ ((i + j : Nat) : Int) = 0 := by omega
          simp (disch := first | omega | simp) [hwij]
          refine ⟨fun e => absurd e (by omega), fun _ => ?_⟩
          exact hkc () _ _ _ (.refl (Nat.le_refl _)) ⟨hM3l, Nat.le_refl _, hM3a, L3, hM3R, hL3, hb2', by rw [if_neg h0]; exact hq3⟩
      rintro _ H4 hn4 hw4 ⟨hle4, hnx4, ha4, L4, hR4, hL4, hb4, hq4⟩
      unfold S_wordhoardlaw_again_K5
      refine loop_wf (fun i : Nat => [iv i]) (fun r H' => H.le H' ∧ H4.nx ≤ H'.nx ∧ H'.get H.nx = some (.box 25 a.cs) ∧ r ≤ i + 1 ∧ ∃ L u, H'.get R = some (.row 3 1 (nE L)) ∧ L.length = N ∧ Bst a I O n k L i j ∧ L[q]? = some u ∧ Least (Cand a I O i j r 0) u) (fun r => i + 1 - r) 0 (.refl (Nat.le_refl _)) ⟨hle4, Nat.le_refl _, ha4, Nat.zero_le _, L4, _, hR4, hL4, hb4, hq4, cand_start a I O i j⟩ ?_
      rintro r H5 hn5 hw5 ⟨hle5, hnx5, ha5, hr5, L5, u5, hR5, hL5, hb5, hq5, hu5⟩ kr hkr
      unfold S_wordhoardlaw_again_L4
      by_cases hri : r ≤ i
      · have hri' : (r : Int) ≤ (i : Int) := by omega
        simp (disch := first | omega | simp) [iv, hri']
        refine loop_wf (fun i : Nat => [iv i]) (fun w H' => H.le H' ∧ H5.nx ≤ H'.nx ∧ H'.get H.nx = some (.box 25 a.cs) ∧ w ≤ j + 1 ∧ ∃ L u, H'.get R = some (.row 3 1 (nE L)) ∧ L.length = N ∧ Bst a I O n k L i j ∧ L[q]? = some u ∧ Least (Cand a I O i j r w) u) (fun w => j + 1 - w) 0 (.refl (Nat.le_refl _)) ⟨hle5, Nat.le_refl _, ha5, Nat.zero_le _, L5, u5, hR5, hL5, hb5, hq5, hu5⟩ ?_
        rintro w H6 hn6 hw6 ⟨hle6, hnx6, ha6, hw6', L6, u, hR6, hL6, hb6, hq6, hu6⟩ kw hkw
        unfold S_wordhoardlaw_again_L3
        have hwv := ivn (i := w) (by omega)
        by_cases hwj : w ≤ j
        · have hwj' : (w : Int) ≤ (j : Int) := by omega
          simp (disch := first | omega | simp) [iv, hwj']
          unfold S_wordhoardlaw_again_C2
          have hsame : ∀ b : Prop, Least (Cand a I O i j r (w + 1)) u → kw [.p (.int .i64 ((w + 1 : Nat) : Int))] H6 := fun _ h => hkw (w + 1) _ _ _ (.refl (by omega)) ⟨hle6, by omega, ha6, by omega, L6, u, hR6, hL6, hb6, hq6, h⟩ (by omega)
          have hplr := pl_int (n := n) (k := k) (i := r) (j := w) (by omega) (by omega) (by omega) (by omega)
          have hqr : r * k + w < N := by rw [hN]; exact pl_lt (by omega) (by omega)
          by_cases hself : r = i ∧ w = j
          · obtain ⟨rfl, rfl⟩ := hself
            simp (disch := first | omega | simp) [hwv]
            refine hsame True (hu6.congr fun c => ⟨?_, ?_⟩)
            · rintro (h | ⟨r', w', h1, h2, h3, h4, h5⟩)
              · exact .inl h
              · exact .inr ⟨r', w', by omega, h2, h3, h4, h5⟩
            · rintro (h | ⟨r', w', h1, h2, h3, h4, h5⟩)
              · exact .inl h
              · exact .inr ⟨r', w', by omega, h2, h3, h4, h5⟩
          obtain ⟨p, hp, hlp⟩ := hb6 r w (by omega) (by omega) (by omega)
          obtain ⟨t, ht⟩ : ∃ t, t = r * k + w := ⟨_, rfl⟩
          rw [← ht] at hplr hqr hp
          have hpe := nE_get hp
          have hpL := (List.getElem?_eq_some_iff.1 hp).1
          unfold iv at hpe
          have hC := costOf_spec ha ((I.take i).drop r) ((O.take j).drop w)
          have cC := fun H2 => c_Cost ha true (I := (I.take i).drop r) (O := (O.take j).drop w) (by simp; omega) (by simp; omega) H2
          have hp0 := hlp.nonneg fun _ h => h.nonneg ha
          have hp1 := hlp.top
          have hC0 := hC.nonneg fun _ h => h.nonneg ha
          have hC1 := hC.top
          generalize costOf a true ((I.take i).drop r) ((O.take j).drop w) = C at *
          have hdr : dear = 1152921504606846976 := rfl
          have hstep := fun u' hu' => cand_step (u' := u') ha hu6 hri hwj hself hlp hC hu'
          have hsplit : (r = i ∧ ¬ (w : Int) = (j : Int)) ∨ ¬ (r : Int) = (i : Int) := by omega
          by_cases hpd : p = dear
          · have hres := hsame True (hstep u (by rw [if_neg (by omega)]))
            rw [hpd] at hpe
            unfold dear at hpe
            rcases hsplit with ⟨h1, h2⟩ | h1
            · subst h1
              simp (disch := first | omega | simp) [h2, hplr, hqr, hR6, hpe, hwv]
              exact hres
            · simp (disch := first | omega | simp) [h1, hplr, hqr, hR6, hpe, hwv]
              exact hres
          have hpd' : ¬ p = 1152921504606846976 := hpd
          suffices hC1 : S_wordhoardlaw_again_C1 (.dsl 1 (nE I)) (.dsl 1 (nE O)) (.ptr H.nx 0) (.p (.int .i64 (k : Int))) (.osl R 1 0 N) [.p (.int .i64 (i : Int))] [.p (.int .i64 (j : Int))] [.p (.int .i64 (r : Int))] kw [.p (.int .i64 (w : Int))] H6 by
            rcases hsplit with ⟨h1, h2⟩ | h1
            · subst h1
              simp (disch := first | omega | simp) [h2, hplr, hqr, hR6, hpe, hpd']
              exact hC1
            · simp (disch := first | omega | simp) [h1, hplr, hqr, hR6, hpe, hpd']
              exact hC1
          unfold S_wordhoardlaw_again_C1
          have eI : ((nE I).drop r).take (i - r) = nE ((I.take i).drop r) := by simp [nE, List.map_take, List.map_drop, List.drop_take]
          have eO : ((nE O).drop w).take (j - w) = nE ((O.take j).drop w) := by simp [nE, List.map_take, List.map_drop, List.drop_take]
          simp (disch := first | omega | simp) [iv, ha6, Mac.cs, eI, eO]
          refine ⟨hri, by omega, hwj, by omega, ?_⟩
          refine cav_pure (by kernel_rfl) (fun H2 _ => cC H2) ?_
          by_cases hcd : C < 1152921504606846976
          · have hw1 : IntKind.i64.wrap (p + C) = p + C := by rw [IntKind.wrap_i64]; omega
            have hqe6 := nE_get hq6
            have hqL6 := (List.getElem?_eq_some_iff.1 hq6).1
            have hse := fun y => nE_set L6 q y
            unfold iv at hqe6 hse
            simp (disch := first | omega | simp) [iv, hcd, hpl, hplr, hR6, hqe6, hq, hqr, hpe, hw1, hwv]
            rw [hse]
            have hstp := hstep (if p + C < u then p + C else u) (by
              by_cases z : p + C < u
              · rw [if_pos z, if_pos ⟨by omega, by omega, z⟩]
              · rw [if_neg z, if_neg (fun h => z h.2.2)])
            exact hkw (w + 1) _ _ _ (.refl (by first | omega | (simp only [up_nx, put_nx]; done) | (simp only [up_nx, put_nx]; omega))) ⟨AH.le.put hw (by omega) (AH.le.up hle6), (by first | omega | (simp only [up_nx, put_nx]; done) | (simp only [up_nx, put_nx]; omega)), by rw [AH.get_put_ne (Ne.symm hne)]; exact ha6, by omega, _, _, put_get _ _, by rw [List.length_set]; exact hL6, by rw [hqe]; exact hb6.set hjk _, List.getElem?_set_self hqL6, hstp⟩ (by omega)
          · simp (disch := first | omega | simp) [iv, hcd, hwv]
            exact hsame True (hstep u (by rw [if_neg (by omega)]))
        · have hwj' : ¬ (w : Int) ≤ (j : Int) := by omega
          have hrv := ivn (i := r) (by omega)
          simp (disch := first | omega | simp) [iv, hwj', hrv]
          refine hkr (r + 1) _ _ _ (.refl (by omega)) ⟨hle6, by omega, ha6, by omega, L6, u, hR6, hL6, hb6, hq6, hu6.congr fun c => ⟨?_, ?_⟩⟩ (by omega)
          · rintro (h | ⟨r', w', h1, h2, h3, h4, h5⟩)
            · exact .inl h
            · exact .inr ⟨r', w', by omega, h2, h3, h4, h5⟩
          · rintro (h | ⟨r', w', h1, h2, h3, h4, h5⟩)
            · exact .inl h
            · exact .inr ⟨r', w', by omega, h2, h3, h4, h5⟩
      · have hri' : ¬ (r : Int) ≤ (i : Int) := by omega
        have hjv := ivn (i := j) (by omega)
        have hre : r = i + 1 := by omega
        rw [hre] at hu5
        simp (disch := first | omega | simp) [iv, hri', hjv]
        exact hkj (j + 1) _ _ _ (.refl (by omega)) ⟨hle5, by omega, ha5, hjk, L5, hR5, hL5, hb5.next (by rw [← hqe]; exact hq5) (cand_least ha (by omega) (by omega) hu5)⟩ (by omega)
    · have hje : j = k := by omega
      have hjk' : ¬ (j : Int) < (k : Int) := by omega
      have hiv := ivn (i := i) (by omega)
      subst hje
      simp (disch := first | omega | simp) [iv, hjk', hiv]
      exact hki (i + 1) _ _ _ (.refl (by omega)) ⟨hle2, by omega, ha2, hin, L2, hR2, hL2, hb2.row⟩ (by omega)
  · have hin' : ¬ (i : Int) < (n : Int) := by omega
    have hie : i = n := by omega
    have hw1' : IntKind.i64.wrap ((N : Int) - 1) = ((N - 1 : Nat) : Int) := by
      have : 0 < N := by rw [hN]; exact Nat.mul_pos (by omega) (by omega)
      rw [IntKind.wrap_i64]; omega
    obtain ⟨v, hv, hl⟩ := hb1 I.length O.length (by omega) (by omega) (by omega)
    have hNe : I.length * k + O.length = N - 1 := by
      rw [hN, hn, Nat.add_mul, Nat.one_mul]; omega
    rw [hNe] at hv
    rw [List.take_length, List.take_length] at hl
    have hve := nE_get hv
    have hvl := (List.getElem?_eq_some_iff.1 hv).1
    unfold iv at hve
    have hvN : N - 1 < N := by omega
    simp (disch := first | omega | simp) [iv, hin', hNw, hw1', hR1, hve, hvN]
    exact rt_one hw hle1 (by repeat (first | exact Cl.p _ | exact Cl.dsl _ _ | exact Cl.any | refine Cl.tup ?_ | refine Cl.agg ?_ | exact Clo.nil | refine Clo.cons ?_ ?_)) ⟨rfl, by rw [starC, leastOf_eq hl]⟩)
end Go.Proofs.Ytgkkilbeingleaa

/- The arcs of each state. -/
namespace Go.Proofs.Ytgkkilbeingleaa
open Go.RowKit Go.Maps
section
variable {P : Program} {H H1 H2 : AH} {B : Nat}
/-- what a row holds is told anew -/
theorem Gst.resub {r : Nat} {t : TypeId} {sz : Nat} {es es' : List (List AV)} (hg : H.get r = some (.row t sz es)) (hl : es'.length = es.length) (h : ∀ (i : Nat) (e e' : List AV), es[i]? = some e → es'[i]? = some e' → Subs P H e e') : Gst P H (H.put r (.row t sz es')) := by
  have hget : ∀ id o, (H.put r (.row t sz es')).get id = some o → ∃ o', H.get id = some o' ∧ o'.owned = o.owned ∧ ((id = r ∧ o = .row t sz es') ∨ (id ≠ r ∧ o' = o)) := by
    intro id o ho
    by_cases e : id = r
    · subst e; rw [AH.get_put_self] at ho; injection ho with ho; subst ho; exact ⟨_, hg, rfl, .inl ⟨rfl, rfl⟩⟩
    · rw [AH.get_put_ne e] at ho; exact ⟨o, ho, rfl, .inr ⟨e, rfl⟩⟩
  refine ⟨Nat.le_refl _, fun w S σ hs => ⟨S, ⟨hs.sb, hs.dom, fun id o ho => ?_, fun i j o o' b h h' k k' => ?_, fun i o b h k hb => ?_, hs.sl⟩, fun _ h => h, fun _ h => .inl h, ?_⟩⟩
  · obtain ⟨o', h1, _, ⟨rfl, rfl⟩ | ⟨_, rfl⟩⟩ := hget id o ho
    · obtain ⟨A, c, h1, h2, h3, h4, h5⟩ := hs.obj id _ hg
      have hlen : ∀ i e', es'[i]? = some e' → ∃ e, es[i]? = some e := fun i e' he' => by
        have := (List.getElem?_eq_some_iff.1 he').1
        exact ⟨_, List.getElem?_eq_getElem (by omega)⟩
      refine ⟨A, c, by rw [hl]; exact h1, fun e' he' => ?_, by omega, h4, ?_⟩
      · obtain ⟨i, hi⟩ := List.getElem?_of_mem he'
        obtain ⟨e, he⟩ := hlen i e' hi
        rw [← (h i e e' he hi).1]; exact h2 e (List.mem_of_getElem? he)
      · refine h5.imp_right fun ⟨g, o, arr, k0, k1, k2, k3, k4⟩ => ⟨g, o, arr, k0, k1, k2, k3, fun i e' j a' he' ha' => ?_⟩
        obtain ⟨e, he⟩ := hlen i e' he'
        have hsub := h i e e' he he'
        obtain ⟨a, ha⟩ : ∃ a, e[j]? = some a := ⟨_, List.getElem?_eq_getElem (by have := (List.getElem?_eq_some_iff.1 ha').1; have := hsub.1; omega)⟩
        obtain ⟨v, hv, hr⟩ := k4 i e j a he ha
        exact ⟨v, hv, hsub.2 j a a' ha ha' w S σ v hs hr⟩
    · exact hs.obj id _ h1
  · obtain ⟨o1, h1, e1, _⟩ := hget i o h
    obtain ⟨o2, h2, e2, _⟩ := hget j o' h'
    exact hs.dj i j o1 o2 b h1 h2 (e1.trans k) (e2.trans k')
  · obtain ⟨o1, h1, e1, _⟩ := hget i o h
    exact hs.sep i o1 b h1 (e1.trans k) hb
  · rintro b ⟨i, o, h, k, hb⟩
    obtain ⟨o1, h1, e1, _⟩ := hget i o h
    exact ⟨i, o1, h1, e1.trans k, hb⟩
theorem rt_st {v : AV} {Q : AV → AH → Prop} (hs : Gst P H1 H2) (hb : B ≤ H1.nx) (h : Rt P B v Q H2) : Rt P B v Q H1 := Gh.step (.st hs hb) h
end
/-- the arcs that begin at a state -/
def outs (l : List Arc) (s : Nat) : List Arc := l.filter fun a => decide (a.fr = (s : Int))
theorem outs_snoc (l : List Arc) (a : Arc) (s : Nat) : outs (l ++ [a]) s = if a.fr = (s : Int) then outs l s ++ [a] else outs l s := by
  unfold outs
  rw [List.filter_append]
  by_cases h : a.fr = (s : Int) <;> simp [h]
theorem outs_le (l : List Arc) (s : Nat) : (outs l s).length ≤ l.length := List.length_filter_le _ _
/-- a row of slices -/
def oV (V : Nat → AV) (n : Nat) : List (List AV) := (List.range n).map fun i => [V i]
@[simp] theorem oV_len (V : Nat → AV) (n : Nat) : (oV V n).length = n := by simp [oV]
theorem oV_get {V : Nat → AV} {n i : Nat} (h : i < n) : (oV V n)[i]? = some [V i] := by simp [oV, h]
theorem oV_set {V : Nat → AV} {n j : Nat} (x : AV) : (oV V n).set j [x] = oV (fun k => if k = j then x else V k) n := by
  refine List.ext_getElem (by simp [oV]) fun i h1 h2 => ?_
  rw [List.getElem_set]
  simp only [oV, List.getElem_map, List.getElem_range]
  by_cases e : j = i
  · subst e; simp
  · rw [if_neg e, if_neg (fun c => e c.symm)]
def fromE (m : Mac) : List (List AV) := oV (fun s => .dsl 5 ((outs m.arcs s).map Arc.cs)) m.states.toNat
/-- the rows of the states as they lie -/
structure FrAt (B H : AH) (R n : Nat) (V : Nat → AV) (l : List Arc) : Prop where
  le : B.le H
  bR : B.nx ≤ R
  row : H.get R = some (.row 22 1 (oV V n))
  at_ : ∀ s, s < n → (V s = .p (.slice none 0 0) ∧ outs l s = []) ∨ ∃ r, V s = .osl r 5 0 (outs l s).length ∧ B.nx ≤ r ∧ H.get r = some (.row 53 5 ((outs l s).map Arc.cs))
  inj : ∀ s t r a b, s < n → t < n → V s = .osl r 5 0 a → V t = .osl r 5 0 b → s = t
theorem FrAt.same {B H H' : AH} {R n : Nat} {V : Nat → AV} {l : List Arc} (h : FrAt B H R n V l) (_hw : WF B) (hwH : WF H) (hk : ∀ j, j < H.nx → H'.get j = H.get j) : FrAt B H' R n V l := by
  have hb : ∀ j o, H.get j = some o → H'.get j = some o := fun j o ho => by rw [hk j (hwH _ _ ho).1]; exact ho
  exact ⟨fun j o ho => hb _ _ (h.le _ _ ho), h.bR, hb _ _ h.row, fun s hs => (h.at_ s hs).imp id fun ⟨r, h1, h2, h3⟩ => ⟨r, h1, h2, hb _ _ h3⟩, h.inj⟩
/-- the rows become data, one after the other -/
theorem from_frz {B H1 : AH} {R n : Nat} {V : Nat → AV} {l : List Arc} (hw : WF B) (hn : B.nx ≤ H1.nx) (h : FrAt B H1 R n V l) : ∀ k, k ≤ n → ∃ H2, Gst Try.prog H1 H2 ∧ B.le H2 ∧ H2.nx = H1.nx ∧ H2.get R = some (.row 22 1 (oV (fun s => if s < k then .dsl 5 ((outs l s).map Arc.cs) else V s) n)) ∧
    ∀ s, k ≤ s → s < n → ∀ r a, V s = .osl r 5 0 a → H2.get r = H1.get r
  | 0, _ => ⟨H1, .refl _, h.le, rfl, by simpa using h.row, fun _ _ _ _ _ _ => rfl⟩
  | k + 1, hk => by
    obtain ⟨H2, g1, g2, g3, g4, g5⟩ := from_frz hw hn h k (by omega)
    have hup : ∀ (H3 : AH), Sub Try.prog H3 (V k) (.dsl 5 ((outs l k).map Arc.cs)) → H3.get R = some (.row 22 1 (oV (fun s => if s < k then .dsl 5 ((outs l s).map Arc.cs) else V s) n)) →
        Gst Try.prog H3 (H3.put R (.row 22 1 (oV (fun s => if s < k + 1 then .dsl 5 ((outs l s).map Arc.cs) else V s) n))) := fun H3 hs hg => by
      refine .resub hg (by simp) fun i e e' he he' => ?_
      have hi : i < n := by have := (List.getElem?_eq_some_iff.1 he).1; simpa using this
      rw [oV_get hi] at he he'
      injection he with he; injection he' with he'
      subst he he'
      by_cases e : i = k
      · subst e
        rw [if_neg (by omega), if_pos (by omega)]
        exact .cons hs .nil
      · by_cases e2 : i < k
        · rw [if_pos e2, if_pos (by omega)]; exact .refl _
        · rw [if_neg e2, if_neg (by omega)]; exact .refl _
    have hrR : ∀ s, s < n → ∀ r a, V s = .osl r 5 0 a → r ≠ R := fun s hs r a e q => by
      rcases h.at_ s hs with ⟨h1, _⟩ | ⟨r', h1, _, h3⟩
      · rw [h1] at e; cases e
      · rw [h1] at e; injection e with e; subst e; subst q
        rw [h.row] at h3; injection h3 with h3; injection h3 with h3; exact absurd h3 (by decide)
    rcases h.at_ k (by omega) with ⟨h1, h2⟩ | ⟨r, h1, h2, h3⟩
    · refine ⟨_, g1.trans (hup H2 (by rw [h1, h2]; exact .nil _ _ (Nat.zero_le _)) g4), AH.le.put hw h.bR g2, by simp only [put_nx]; exact g3, put_get _ _, fun s hs1 hs2 r a e => ?_⟩
      rw [AH.get_put_ne (hrR s hs2 r a e)]
      exact g5 s (by omega) hs2 r a e
    · have hg := (g5 k (Nat.le_refl _) (by omega) r _ h1).trans h3
      have hne := hrR k (by omega) r _ h1
      have hg4 : (H2.put r (.frz 5 ((outs l k).map Arc.cs))).get R = _ := (AH.get_put_ne (Ne.symm hne)).trans g4
      have hsub : Sub Try.prog (H2.put r (.frz 5 ((outs l k).map Arc.cs))) (V k) (.dsl 5 ((outs l k).map Arc.cs)) := by
        rw [h1]
        have := Sub.frz (P := Try.prog) (H := H2.put r (.frz 5 ((outs l k).map Arc.cs))) (r := r) (off := 0) (n := (outs l k).length) (put_get _ _) (by simp)
        rw [List.drop_zero, List.take_of_length_le (by simp)] at this
        exact this
      refine ⟨_, g1.trans ((Gst.freeze hg (dt_arcs _)).trans (hup _ hsub hg4)), AH.le.put hw h.bR (AH.le.put hw h2 g2), by simp only [put_nx]; exact g3, put_get _ _, fun s hs1 hs2 r' a e => ?_⟩
      rw [AH.get_put_ne (hrR s hs2 r' a e), AH.get_put_ne (fun q => by subst q; have := h.inj s k r' a _ hs2 (by omega) e h1; omega)]
      exact g5 s (by omega) hs2 r' a e
set_option maxHeartbeats 1000000 in
theorem c_from {m : Mac} (h1 : 1 ≤ m.states) (h2 : m.states ≤ 3000) (h3 : m.arcs.length ≤ 20000) (h4 : ∀ a ∈ m.arcs, 0 ≤ a.fr ∧ a.fr < m.states) : PF Try.prog 36 [m.av] (.dsl 1 (fromE m)) := fun H => tri_wf fun hw => tri_machine_from (by
  have hml : maxLen = 9223372036854775807 := by decide
  obtain ⟨n, hn⟩ : ∃ n : Nat, m.states = (n : Int) := ⟨m.states.toNat, by omega⟩
  unfold S_machine_from Mac.av Mac.cs
  rw [hn]
  simp (disch := first | omega | simp) [iv, put_get_ne]
  refine ⟨by omega, by omega, ?_⟩
  obtain ⟨R, hR⟩ : ∃ R, R = H.nx + 2 + 2 := ⟨_, rfl⟩
  rw [← hR]
  generalize hMe : AH.put _ _ _ = M
  have hMl : H.le M := by rw [← hMe]; exact (by repeat (first | with_reducible assumption | with_reducible exact AH.le.refl _ | with_reducible apply AH.le.up | (with_reducible refine AH.le.put hw ?_ ?_; · first | omega | (simp only [up_nx, put_nx, kill_nx]; done) | (simp only [up_nx, put_nx, kill_nx]; omega)) | (with_reducible refine AH.le.kill hw ?_ ?_; · first | omega | (simp only [up_nx, put_nx, kill_nx]; done) | (simp only [up_nx, put_nx, kill_nx]; omega))))
  have hMn : M.nx = H.nx + 6 := by rw [← hMe]; rfl
  have hMR : M.get R = some (.row 22 1 (oV (fun _ => .p (.slice none 0 0)) n)) := by
    rw [← hMe, put_get]
    congr 2
    refine List.ext_getElem (by simp) fun i h1 h2 => ?_
    simp [oV]
  clear hMe
  refine loop_wf (fun i : Nat => [iv i]) (fun i H' => M.nx ≤ H'.nx ∧ i ≤ m.arcs.length ∧ ∃ V, FrAt H H' R n V (m.arcs.take i)) (fun i => m.arcs.length - i) 0 (.refl (Nat.le_refl _)) ⟨Nat.le_refl _, Nat.zero_le _, _, hMl, by omega, hMR, fun s hs => .inl ⟨rfl, rfl⟩, fun s t r a b _ _ e => by cases e⟩ ?_
  rintro i H1 hn1 hw1 ⟨hnx, hi, V, hf⟩ k hk
  unfold S_machine_from_L1
  by_cases hil : i < m.arcs.length
  · obtain ⟨x, hx⟩ : ∃ x, m.arcs[i]? = some x := ⟨_, List.getElem?_eq_getElem hil⟩
    have hxg : ∀ h, m.arcs[i]'h = x := fun h => (List.getElem?_eq_some_iff.1 hx).2
    have hiv := ivn (i := i) (by omega)
    have hb := h4 x (List.mem_of_getElem? hx)
    obtain ⟨s, hs⟩ : ∃ s : Nat, x.fr = (s : Int) := ⟨x.fr.toNat, by omega⟩
    have hsn : s < n := by omega
    have hge := oV_get (V := V) hsn
    have htk : m.arcs.take (i + 1) = m.arcs.take i ++ [x] := by rw [List.take_add_one, hx]; rfl
    have hol := outs_le (m.arcs.take i) s
    rw [List.length_take] at hol
    have hRl : R < H1.nx := by omega
    have hrow := hf.row
    simp (disch := first | omega | simp) [iv, hil, hxg, Arc.cs]
    rw [hs]
    generalize hNe : AH.up _ 13 = N
    have hNn : N.nx = H1.nx + 17 := by rw [← hNe]; rfl
    have hNk : ∀ j, j < H1.nx → N.get j = H1.get j := fun j hj => by rw [← hNe, up_get, AH.get_put_ne (by omega), AH.get_put_ne (by omega), up_get]
    have hNx : N.get (H1.nx + 2) = some (.box 53 [.p (.int .i64 (s : Int)), .p (.int .i64 x.to), .p (.int .i64 x.inn), .p (.int .i64 x.out), .p (.int .i64 x.w)]) := by rw [← hNe, up_get, put_get]
    clear hNe
    have hNf := hf.same hw hw1 hNk
    have hNR := hNf.row
    have hxc : [AV.p (.int .i64 (s : Int)), .p (.int .i64 x.to), .p (.int .i64 x.inn), .p (.int .i64 x.out), .p (.int .i64 x.w)] = x.cs := by unfold Arc.cs iv; rw [hs]
    have hbR := hf.bR
    have hX2 : H1.nx + 2 ≠ R := by omega
    -- what is laid: the new row, and the state's place
    have hgo : ∀ (H5 : AH) (c : Nat), c = (outs (m.arcs.take i) s).length + 1 → H5.nx = N.nx → H5.get R = some (.row 22 1 (oV V n)) → (∀ j o, j < H1.nx → N.get j = some o → (∀ a, V s ≠ .osl j 5 0 a) → H5.get j = some o) → H5.get (H1.nx + 4 + 10) = some (.row 53 5 ((outs (m.arcs.take i) s ++ [x]).map Arc.cs)) →
        k [.p (.int .i64 ((i + 1 : Nat) : Int))] (H5.put R (.row 22 1 ((oV V n).set s [.osl (H1.nx + 4 + 10) 5 0 c]))) := fun H5 c hc hn5 hr5 hk5 hid => by
      refine hk (i + 1) _ _ _ (.refl (by first | omega | (simp only [put_nx]; done) | (simp only [put_nx]; omega))) ⟨(by first | omega | (simp only [put_nx]; done) | (simp only [put_nx]; omega)), hil, fun t => if t = s then .osl (H1.nx + 4 + 10) 5 0 c else V t, ?_⟩ (by omega)
      rw [htk]
      have hVr : ∀ t r a, t < n → V t = .osl r 5 0 a → r < H1.nx ∧ r ≠ R ∧ N.get r = some (.row 53 5 ((outs (m.arcs.take i) t).map Arc.cs)) ∧ H.nx ≤ r := fun t r a ht e => by
        rcases hf.at_ t ht with ⟨g1, _⟩ | ⟨r', g1, g2, g3⟩
        · rw [g1] at e; cases e
        · rw [g1] at e; injection e with e; subst e
          have hlt := (hw1 _ _ g3).1
          exact ⟨hlt, fun q => by subst q; rw [hf.row] at g3; injection g3 with g3; injection g3 with g3; exact absurd g3 (by decide), by rw [hNk _ hlt]; exact g3, g2⟩
      refine ⟨AH.le.put hw hbR (fun j o ho => hk5 j o (by have := (hw _ _ ho).1; omega) (hNf.le _ _ ho) fun a e => by have := (hVr s j a hsn e).2.2.2; have := (hw _ _ ho).1; omega), hbR, by rw [put_get, oV_set], fun t ht => ?_, fun t u r a b ht hu e1 e2 => ?_⟩
      · by_cases e : t = s
        · subst e
          refine .inr ⟨H1.nx + 4 + 10, ?_, by omega, ?_⟩
          · rw [if_pos rfl, outs_snoc, if_pos hs, hc]; simp
          · rw [AH.get_put_ne (by omega), hid, outs_snoc, if_pos hs]
        · rw [if_neg e, outs_snoc, if_neg (by omega)]
          rcases hf.at_ t ht with g | ⟨r, g1, g2, g3⟩
          · exact .inl g
          · obtain ⟨q1, q2, q3, q4⟩ := hVr t r _ ht g1
            refine .inr ⟨r, g1, g2, ?_⟩
            rw [AH.get_put_ne q2]
            exact hk5 r _ q1 q3 fun a e' => e (hf.inj t s r _ a ht hsn g1 e')
      · by_cases et : t = s
        · by_cases eu : u = s
          · rw [et, eu]
          · rw [if_pos et] at e1; rw [if_neg eu] at e2
            injection e1 with e1
            have := (hVr u r b hu e2).1
            omega
        · by_cases eu : u = s
          · rw [if_neg et] at e1; rw [if_pos eu] at e2
            injection e2 with e2
            have := (hVr t r a ht e1).1
            omega
          · rw [if_neg et] at e1; rw [if_neg eu] at e2
            exact hf.inj t u r a b ht hu e1 e2
    rcases hf.at_ s hsn with ⟨g1, g2⟩ | ⟨r, g1, g2, g3⟩
    · refine ⟨[], ?_⟩
      rw [g1] at hge
      simp (disch := first | omega | simp) [hNx, hNR, hge, hsn]
      refine wro_nil (elF_whole (t := 53) (es := [x.cs]) rfl (by rw [put_get, ← hxc]) rfl) (by simp; omega) (by simp) ?_
      have hR9 : R ≠ H1.nx + 4 + 9 := by omega
      have hR10 : R ≠ H1.nx + 4 + 10 := by omega
      simp (disch := first | omega | simp) [put_get_ne, hNR, hge, hsn, hiv]
      refine hgo _ 1 (by rw [g2]; rfl) rfl ?_ (fun j o hj ho _ => ?_) ?_
      · rw [AH.get_put_ne hR10, AH.get_put_ne hR9]; exact hNR
      · rw [AH.get_put_ne (by omega), AH.get_put_ne (by omega)]; exact ho
      · rw [put_get, g2]; rfl
    · refine ⟨[r], ?_⟩
      rw [g1] at hge
      have hlt := (hw1 _ _ g3).1
      have hrR : R ≠ r := fun q => by subst q; rw [hf.row] at g3; injection g3 with g3; injection g3 with g3; exact absurd g3 (by decide)
      have hNr := (hNk r hlt).trans g3
      have hX3 : H1.nx + 2 ≠ r := by omega
      simp (disch := first | omega | simp) [del_get_ne, hNx, hNR, hge, hsn]
      refine wro_own (es := (outs (m.arcs.take i) s).map Arc.cs) (by omega) AH.get_del_self (by rw [AH.get_put_ne (by omega)]; exact hNr) (by simp) (elF_whole (t := 53) (es := [x.cs]) rfl (by rw [put_get, ← hxc]) rfl) (by simp; omega) (by simp; omega) ?_
      have hR9 : R ≠ H1.nx + 4 + 9 := by omega
      have hR10 : R ≠ H1.nx + 4 + 10 := by omega
      have hes : (outs (m.arcs.take i) s).map Arc.cs ++ [x.cs] = (outs (m.arcs.take i) s ++ [x]).map Arc.cs := by simp
      rw [hes]
      simp (disch := first | omega | simp) [put_get_ne, hNR, hge, hsn, hiv, AH.kill]
      refine hgo _ _ (by simp) rfl ?_ (fun j o hj ho hv => ?_) ?_
      · rw [AH.get_put_ne hR10, AH.get_put_ne hrR, AH.get_put_ne hR9]; exact hNR
      · rw [AH.get_put_ne (by omega), AH.get_put_ne (fun e => hv _ (by rw [e]; exact g1)), AH.get_put_ne (by omega)]; exact ho
      · rw [put_get]; simp
  · have hie : m.arcs.take i = m.arcs := List.take_of_length_le (by omega)
    rw [hie] at hf
    simp (disch := first | omega | simp) [iv, hil]
    obtain ⟨H2, g1, g2, g3, g4, _⟩ := from_frz hw (by omega) hf n (Nat.le_refl _)
    refine rt_st g1 (by omega) (rt_st (.freeze g4 ?_) (by omega) ?_)
    · intro e he a ha
      simp only [oV, List.mem_map, List.mem_range] at he
      obtain ⟨s, hs, rfl⟩ := he
      simp only [List.mem_singleton] at ha
      subst ha
      rw [if_pos hs]; exact Dt.dsl _ _
    have hfe : oV (fun s => if s < n then AV.dsl 5 ((outs m.arcs s).map Arc.cs) else V s) n = fromE m := by
      unfold fromE
      rw [show m.states.toNat = n by omega]
      unfold oV
      exact List.map_congr_left fun s hs => by dsimp only; rw [if_pos (List.mem_range.1 hs)]
    rw [hfe] at g4 ⊢
    refine rt_sub (v' := .dsl 1 (fromE m)) hw (AH.le.put hw hf.bR g2) (by simp only [put_nx]; omega) ?_ (by repeat (first | exact Cl.p _ | exact Cl.dsl _ _ | exact Cl.any | refine Cl.tup ?_ | refine Cl.agg ?_ | exact Clo.nil | refine Clo.cons ?_ ?_)) ⟨rfl, rfl⟩
    have := Sub.frz (P := Try.prog) (H := H2.put R (.frz 1 (fromE m))) (r := R) (off := 0) (n := n) (put_get _ _) (by rw [← hfe]; simp)
    rw [List.drop_zero, List.take_of_length_le (by rw [← hfe]; simp)] at this
    exact this)
end Go.Proofs.Ytgkkilbeingleaa

/- Abstract walks of functions, written by a program (wip/aw/aw.py): each equation is checked by the kernel. -/
namespace Go.Proofs.Ytgkkilbeingleaa
open Go.RowKit

/-! slices.IndexFunc[[]int,int] -/
def ac_slices_IndexFunc_s_int_int : AC := (.seq (.reg 0) (.seq (.seq (.reg 1) (.block 0 (.loop [8] [(4, 6), (9, 19)] (.seq (.reg 2) (.seq (.cond (.tmp 9) .skip (.exit 0)) (.seq (.block 1 (.seq (.reg 3) (.seq (.reg 4) (.cond (.tmp 16) (.seq (.reg 5) .ret) .skip)))) (.reg 6))))))) (.seq (.reg 7) .ret)))
def S_slices_IndexFunc_s_int_int_L1 (a0 : AV) (a1 : AV) (Q : AV → AH → Prop) (H : AH) (v7 : AV) (vs : List AV) (k : List AV → AH → Prop) : AH → Prop :=
  Pu Try.prog (.bin .lss 3) [(vs.getD 0 .any), v7] fun v9 =>
  CdA v9
    (
    Pu Try.prog (.idx 1) [a0, (vs.getD 0 .any)] fun v14 =>
    RdS Try.prog (.ld 1 false) [v14] fun v15 =>
    Ca Try.prog a1 [v15] fun v16 =>
    CdA v16
      (
      Rt Try.prog H.nx (vs.getD 0 .any) Q
      ) (
      Pu Try.prog (.bin .add 3) [(vs.getD 0 .any), (.p (.int .i64 1))] fun v18 =>
      k [v18]
      )
    ) (
    Rt Try.prog H.nx (.p (.int .i64 (-1))) Q
    )
def S_slices_IndexFunc_s_int_int (a0 a1 : AV) (Q : AV → AH → Prop) (H : AH) : Prop := (
    Pu Try.prog .len [a0] fun v7 =>
    LoopA Try.prog 1 (S_slices_IndexFunc_s_int_int_L1 a0 a1 Q H v7) [(.p (.int .i64 0))]
    ) H
theorem eq_slices_IndexFunc_s_int_int (a0 a1 : AV) (Q : AV → AH → Prop) (H : AH) : FnA Try.prog 19 (regsF Try.f57) ac_slices_IndexFunc_s_int_int [.tm 4] [a0, a1] H Q = S_slices_IndexFunc_s_int_int a0 a1 Q H := by kernel_rfl
theorem tri_slices_IndexFunc_s_int_int {a0 a1 : AV} {H : AH} {Q : AV → AH → Prop} (h : S_slices_IndexFunc_s_int_int a0 a1 Q H) : Tri Try.prog 57 [a0, a1] H Q :=
  tri_of (Ms := [#[], #[], #[], #[], #[], #[], #[], #[]]) mixed Try.func57 rfl (by kernel_rfl) (by kernel_rfl) rfl (of_decide_eq_true rfl : 2 ≤ 19) (by rw [eq_slices_IndexFunc_s_int_int a0 a1 Q H]; exact h : FnA Try.prog 19 (regsF Try.f57) ac_slices_IndexFunc_s_int_int [.tm 4] [a0, a1] H Q)
end Go.Proofs.Ytgkkilbeingleaa
