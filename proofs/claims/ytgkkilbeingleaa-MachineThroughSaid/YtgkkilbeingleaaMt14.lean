/- Texts that the proof rests on, part 14: what each holds stands at its head. -/
import Derived.Test.YtgkkilbeingleaaMt13

/- Either, Chain, Repeat. -/
namespace Go.Proofs.Ytgkkilbeingleaa
open Go.RowKit Go.Maps
def Mac.Few (m : Mac) : Prop := m.states ≤ 40 ∧ m.arcs.length ≤ 120 ∧ m.fins.length ≤ 40
noncomputable def bothE (a b : Mac) : Int := if a.chk = 0 then b.chk else a.chk
def zeroM : Mac := ⟨0, [], []⟩
/-- what a maker answers: a machine, or what is wrong -/
noncomputable def made (x : Mac) (e : Int) : AV := .tup [(if e = 0 then x else zeroM).av, iv e]
def Fin_.shift (s : Int) (f : Fin_) : Fin_ := ⟨s + f.st, f.w⟩
theorem chk_I64 (m : Mac) : m.chk = 0 ∨ m.chk = 3 ∨ m.chk = 6 ∨ m.chk = 7 := by
  unfold Mac.chk
  repeat' split
  all_goals simp
theorem zero_sub {H : AH} : Sub Try.prog H (.agg [iv 0, .p (.slice none 0 0), .p (.slice none 0 0)]) zeroM.av :=
  Sub.agg (.cons (.refl _) (.cons (Sub.nil _ _ (Nat.zero_le _)) (.cons (Sub.nil _ _ (Nat.zero_le _)) .nil)))
theorem rt_zero {H0 H1 : AH} {x : Mac} {e : Int} (he : e ≠ 0) (hw : WF H0) (h0 : H0.le H1) (hn : H0.nx ≤ H1.nx) : Rt Try.prog H0.nx (.tup [.agg [.p (.int .i64 0), .p (.slice none 0 0), .p (.slice none 0 0)], .p (.int .i64 e)]) (fun r H' => H' = H0 ∧ r = made x e) H1 := by
  refine rt_sub (v' := made x e) hw h0 hn ?_ ?_ ⟨rfl, rfl⟩
  · unfold made; rw [if_neg he]
    exact Sub.tup (.cons zero_sub (.cons (.refl _) .nil))
  · unfold made Mac.av Mac.cs iv; exact (by repeat (first | exact Cl.p _ | exact Cl.dsl _ _ | exact Cl.any | refine Cl.tup ?_ | refine Cl.agg ?_ | exact Clo.nil | refine Clo.cons ?_ ?_))
/-- a machine that was made is given back -/
theorem rt_mac {H0 H1 : AH} {x : Mac} {va vf : AV} (hw : WF H0) (h0 : H0.le H1) (hn : H0.nx ≤ H1.nx) (ga : Grows 53 5 H0 H1 va (x.arcs.map Arc.cs)) (gf : Grows 56 2 H0 H1 vf (x.fins.map Fin_.cs)) :
    Rt Try.prog H0.nx (.tup [.agg [.p (.int .i64 x.states), va, vf], .p (.int .i64 0)]) (fun r H' => H' = H0 ∧ r = made x 0) H1 := by
  obtain ⟨H2, k1, k2, k3, k4, k5⟩ := ga.fz (P := Try.prog) hw h0 hn
  have gf2 : Grows 56 2 H0 H2 vf (x.fins.map Fin_.cs) := gf.same (by omega) fun j hj ⟨n, hn⟩ => by
    obtain ⟨_, _, xs, hr⟩ := grows_at gf hn
    refine k4 j fun n' e => ?_
    obtain ⟨_, _, ys, hy⟩ := grows_at ga e
    rw [hr] at hy; injection hy with hy; injection hy with hy; exact absurd hy (by decide)
  obtain ⟨H3, q1, q2, q3, q4, q5⟩ := gf2.fz (P := Try.prog) hw k2 (by omega)
  refine Gh.step (((GW.st k1 hn).trans (GW.sub (.cons (Sub.tup (.cons (Sub.agg (.cons (.refl _) (.cons k5 (.cons (.refl _) .nil)))) (.cons (.refl _) .nil))) .nil) (by omega))).trans ((GW.st q1 (by omega)).trans (GW.sub (.cons (Sub.tup (.cons (Sub.agg (.cons (.refl _) (.cons (.refl _) (.cons q5 .nil)))) (.cons (.refl _) .nil))) .nil) (by omega)))) (Gh.back hw q2 (.one ?_) ⟨_, rfl, rfl, ?_⟩)
  · exact (by repeat (first | exact Cl.p _ | exact Cl.dsl _ _ | exact Cl.any | refine Cl.tup ?_ | refine Cl.agg ?_ | exact Clo.nil | refine Clo.cons ?_ ?_))
  · unfold made; rw [if_pos rfl]; rfl
theorem rt_last {H0 H1 : AH} {b : Nat} {t : Nat} {cs : List AV} {z : AO} {x : Mac} {va vf : AV} (hw : WF H0) (h0 : H0.le H1) (hb : H0.nx ≤ b) (hn : H0.nx ≤ H1.nx) (hg : H1.get b = some (.box t cs)) (ga : Grows 53 5 H0 H1 va (x.arcs.map Arc.cs)) (gf : Grows 56 2 H0 H1 vf (x.fins.map Fin_.cs)) :
    Rt Try.prog H0.nx (.tup [.agg [.p (.int .i64 x.states), va, vf], .p (.int .i64 0)]) (fun r H' => H' = H0 ∧ r = made x 0) (H1.put b z) :=
  rt_mac hw (AH.le.put hw hb h0) (by simp only [put_nx]; omega)
    (ga.same (by simp only [put_nx]; omega) fun j hj ⟨n, hn⟩ => AH.get_put_ne fun e => by obtain ⟨_, _, xs, hr⟩ := grows_at ga hn; subst e; rw [hg] at hr; cases hr)
    (gf.same (by simp only [put_nx]; omega) fun j hj ⟨n, hn⟩ => AH.get_put_ne fun e => by obtain ⟨_, _, xs, hr⟩ := grows_at gf hn; subst e; rw [hg] at hr; cases hr)
theorem c_both (a b : Mac) : PF Try.prog 39 [a.av, b.av] (iv (bothE a b)) := fun H => tri_wf fun hw => tri_machine_both (by
  unfold S_machine_both Mac.av
  simp (disch := first | omega | simp) [Mac.cs, put_get_ne]
  refine ca_pure (by kernel_rfl) (c_Check a _) ?_
  rcases chk_I64 a with h | h | h | h
  · simp (disch := first | omega | simp) [iv, h, Mac.cs, put_get_ne]
    refine ca_pure (by kernel_rfl) (c_Check b _) ?_
    exact rt_one hw (by repeat (first | with_reducible assumption | with_reducible exact AH.le.refl _ | with_reducible apply AH.le.up | (with_reducible refine AH.le.put hw ?_ ?_; · first | omega | (simp only [up_nx, put_nx, kill_nx]; done) | (simp only [up_nx, put_nx, kill_nx]; omega)) | (with_reducible refine AH.le.kill hw ?_ ?_; · first | omega | (simp only [up_nx, put_nx, kill_nx]; done) | (simp only [up_nx, put_nx, kill_nx]; omega)))) (by repeat (first | exact Cl.p _ | exact Cl.dsl _ _ | exact Cl.any | refine Cl.tup ?_ | refine Cl.agg ?_ | exact Clo.nil | refine Clo.cons ?_ ?_)) ⟨rfl, by rw [bothE, if_pos h]; rfl⟩
  all_goals
    simp (disch := first | omega | simp) [iv, h, Mac.cs, put_get_ne]
    exact rt_one hw (by repeat (first | with_reducible assumption | with_reducible exact AH.le.refl _ | with_reducible apply AH.le.up | (with_reducible refine AH.le.put hw ?_ ?_; · first | omega | (simp only [up_nx, put_nx, kill_nx]; done) | (simp only [up_nx, put_nx, kill_nx]; omega)) | (with_reducible refine AH.le.kill hw ?_ ?_; · first | omega | (simp only [up_nx, put_nx, kill_nx]; done) | (simp only [up_nx, put_nx, kill_nx]; omega)))) (by repeat (first | exact Cl.p _ | exact Cl.dsl _ _ | exact Cl.any | refine Cl.tup ?_ | refine Cl.agg ?_ | exact Clo.nil | refine Clo.cons ?_ ?_)) ⟨rfl, by rw [bothE, if_neg (by omega), h]⟩)
def mk1 : Mac := ⟨1, [], []⟩
/-- any number of walks one behind the other -/
def Mac.rep (a : Mac) : Mac := ⟨1 + a.states, a.arcs.map (Arc.shift 1) ++ [⟨0, 1, 0, 0, 0⟩] ++ a.fins.map (fun f => ⟨1 + f.st, 0, 0, 0, f.w⟩), [⟨0, 0⟩]⟩
set_option maxHeartbeats 1000000 in
theorem c_Repeat {a : Mac} (ha : a.Few) : PF Try.prog 24 [a.av] (made a.rep a.chk) := fun H => tri_wf fun hw => tri_machine_Repeat (by
  unfold S_machine_Repeat Mac.av
  simp (disch := first | omega | simp) [Mac.cs, put_get_ne]
  refine ca_pure (by kernel_rfl) (c_Check a _) ?_
  by_cases hc : a.chk = 0
  case neg =>
    simp (disch := first | omega | simp) [iv, hc, Mac.cs, put_get_ne]
    exact rt_zero hc hw (by repeat (first | with_reducible assumption | with_reducible exact AH.le.refl _ | with_reducible apply AH.le.up | (with_reducible refine AH.le.put hw ?_ ?_; · first | omega | (simp only [up_nx, put_nx, kill_nx]; done) | (simp only [up_nx, put_nx, kill_nx]; omega)) | (with_reducible refine AH.le.kill hw ?_ ?_; · first | omega | (simp only [up_nx, put_nx, kill_nx]; done) | (simp only [up_nx, put_nx, kill_nx]; omega)))) (by first | omega | (simp only [up_nx, put_nx, kill_nx]; done) | (simp only [up_nx, put_nx, kill_nx]; omega))
  have hok := Mac.chk_ok.1 hc
  have hcc := hok
  obtain ⟨o1, o2, o3, o4, o5, o6, o7⟩ := hok
  obtain ⟨f1, f2, f3⟩ := ha
  rw [hc]
  simp (disch := first | omega | simp) [iv, Mac.cs, put_get_ne]
  obtain ⟨X, hX⟩ : ∃ X, X = H.nx + 3 + 1 := ⟨_, rfl⟩
  rw [← hX]
  generalize hMe : AH.put _ _ _ = M
  have hMn : M.nx = H.nx + 11 := by rw [← hMe]; rfl
  have hM0 : MkAt H M X mk1 false := ⟨by rw [← hMe]; exact (by repeat (first | with_reducible assumption | with_reducible exact AH.le.refl _ | with_reducible apply AH.le.up | (with_reducible refine AH.le.put hw ?_ ?_; · first | omega | (simp only [up_nx, put_nx, kill_nx]; done) | (simp only [up_nx, put_nx, kill_nx]; omega)) | (with_reducible refine AH.le.kill hw ?_ ?_; · first | omega | (simp only [up_nx, put_nx, kill_nx]; done) | (simp only [up_nx, put_nx, kill_nx]; omega)))), by omega, by omega, _, _, by rw [← hMe, put_get]; rfl, .nil _ _ _ _, .nil _ _ _ _⟩
  have hMa : M.get H.nx = some (.box 25 a.cs) := by rw [← hMe]; simp (disch := first | omega | simp) [put_get_ne]; rfl
  have hMr : M.get (H.nx + 1) = some (.box 25 [.p (.int .i64 0), .p (.slice none 0 0), .p (.slice none 0 0)]) := by rw [← hMe]; simp (disch := first | omega | simp) [put_get_ne]
  clear hMe
  refine ca_of (by kernel_rfl) (c_lay (n := a) hw hM0 (by decide) (by decide) (by decide) hc ⟨o1, o2⟩ (by omega) (fun x hx => by have := o5 x hx; omega)) ?_
  rintro _ H2 ⟨rfl, h2, k2⟩
  refine ca_of (by kernel_rfl) (c_arc hw h2 (by simp [Mac.lay, mk1]; omega) ⟨0, 1, 0, 0, 0⟩) ?_
  rintro _ H3 ⟨rfl, h3, k3⟩
  refine ca_of (by kernel_rfl) (c_final hw h3 (by simp [Mac.lay, Mac.arc, mk1]) ⟨0, 0⟩) ?_
  rintro _ H4 ⟨rfl, h4, k4⟩
  have kb4 := (k2.trans k3).trans k4
  have g4 := kb4.box (by omega) hMa
  unfold Mac.cs iv at g4
  simp (disch := first | omega | simp) [iv, g4]
  have hM4 : MkAt H H4 X ⟨1 + a.states, a.arcs.map (Arc.shift 1) ++ [⟨0, 1, 0, 0, 0⟩], [⟨0, 0⟩]⟩ false := h4
  refine loop_wf (fun i : Nat => [iv i]) (fun i H' => Kb X M H' ∧ H4.nx ≤ H'.nx ∧ i ≤ a.fins.length ∧ MkAt H H' X ⟨1 + a.states, a.arcs.map (Arc.shift 1) ++ [⟨0, 1, 0, 0, 0⟩] ++ (a.fins.take i).map (fun f => ⟨1 + f.st, 0, 0, 0, f.w⟩), [⟨0, 0⟩]⟩ false) (fun i => a.fins.length - i) 0 (.refl (Nat.le_refl _)) ⟨kb4, Nat.le_refl _, Nat.zero_le _, by simpa using hM4⟩ ?_
  rintro i H5 hn5 hw5 ⟨kb5, hnx5, hi, hmk⟩ k hk
  unfold S_machine_Repeat_L1
  by_cases hil : i < a.fins.length
  · obtain ⟨f, hf⟩ : ∃ f, a.fins[i]? = some f := ⟨_, List.getElem?_eq_getElem hil⟩
    have hfg : ∀ h, a.fins[i]'h = f := fun h => (List.getElem?_eq_some_iff.1 hf).2
    have hiv := ivn (i := i) (by omega)
    have hb := o6 f (List.mem_of_getElem? hf)
    have hw1 : IntKind.i64.wrap (1 + f.st) = 1 + f.st := by rw [IntKind.wrap_i64]; omega
    have hms : mk1.states = 1 := rfl
    simp (disch := first | omega | simp) [iv, hil, hf, hfg, Fin_.cs, put_get_ne, hms, hw1]
    generalize hMe : AH.put _ _ _ = M6
    have hM6n : M6.nx = H5.nx + 4 := by rw [← hMe]; rfl
    have hM6k : ∀ j, j < H5.nx → M6.get j = H5.get j := fun j hj => by rw [← hMe, AH.get_put_ne (by omega), AH.get_put_ne (by omega), up_get]
    clear hMe
    have hmk6 := hmk.same hw (by omega) hM6k
    have kb6 : Kb X M M6 := kb5.trans ⟨by omega, fun j o _ ho _ _ => by rw [hM6k j (hw5 _ _ ho).1]; exact ho⟩
    refine ca_of (by kernel_rfl) (c_arc hw hmk6 (by simp; omega) ⟨1 + f.st, 0, 0, 0, f.w⟩) ?_
    rintro _ H7 ⟨rfl, h7, k7⟩
    simp (disch := first | omega | simp) [iv, hiv]
    refine hk (i + 1) _ _ _ (.refl (by have := k7.1; omega)) ⟨kb6.trans k7, by have := k7.1; omega, hil, ?_⟩ (by omega)
    have e1 : (false || decide (1000000 < f.w)) = false := by simp; omega
    dsimp only at h7
    rw [e1] at h7
    rw [List.take_add_one, hf, Option.toList_some, List.map_append, ← List.append_assoc]
    exact h7
  · have hie : i = a.fins.length := by omega
    simp (disch := first | omega | simp) [iv, hil]
    rw [hie, List.take_length] at hmk
    refine ca_of (by kernel_rfl) (c_done hw (hmk.same hw (by simp only [up_nx]; omega) (fun _ _ => rfl))) ?_
    rintro r H7 ⟨l7, n7, s7, hq⟩
    rcases hq with ⟨hbad, _⟩ | ⟨_, hbad, _⟩ | ⟨_, _, va, vf, rfl, ga, gf⟩
    · simp at hbad; omega
    · cases hbad
    have hM7r := kb5.box (by omega) hMr
    have g7 : H7.get (H.nx + 1) = _ := (s7 (H.nx + 1) (by have := (hw5 _ _ hM7r).1; simp only [up_nx]; omega)).trans hM7r
    obtain ⟨pa, ca⟩ := ga.part
    obtain ⟨pf, cf⟩ := gf.part
    simp (disch := first | omega | simp) [iv, g7, pa, ca, pf, cf, put_get]
    exact rt_last (x := a.rep) hw l7 (by omega) (by have := kb5.1; simp only [up_nx] at n7; omega) g7 ga gf)
def mk0 : Mac := ⟨0, [], []⟩
/-- walks of a, and of b behind them -/
def Mac.chain (a b : Mac) : Mac := ⟨0 + a.states + b.states, a.arcs.map (Arc.shift 0) ++ b.arcs.map (Arc.shift (0 + a.states)) ++ a.fins.map (fun f => ⟨f.st, 0 + a.states, 0, 0, f.w⟩), b.fins.map (Fin_.shift (0 + a.states))⟩
set_option maxHeartbeats 1000000 in
theorem c_Chain {a b : Mac} (ha : a.Few) (hb : b.Few) : PF Try.prog 21 [a.av, b.av] (made (a.chain b) (bothE a b)) := fun H => tri_wf fun hw => tri_machine_Chain (by
  unfold S_machine_Chain Mac.av
  simp (disch := first | omega | simp) [Mac.cs, put_get_ne]
  refine ca_pure (by kernel_rfl) (c_both a b _) ?_
  by_cases hc : bothE a b = 0
  case neg =>
    simp (disch := first | omega | simp) [iv, hc, Mac.cs, put_get_ne]
    exact rt_zero hc hw (by repeat (first | with_reducible assumption | with_reducible exact AH.le.refl _ | with_reducible apply AH.le.up | (with_reducible refine AH.le.put hw ?_ ?_; · first | omega | (simp only [up_nx, put_nx, kill_nx]; done) | (simp only [up_nx, put_nx, kill_nx]; omega)) | (with_reducible refine AH.le.kill hw ?_ ?_; · first | omega | (simp only [up_nx, put_nx, kill_nx]; done) | (simp only [up_nx, put_nx, kill_nx]; omega)))) (by first | omega | (simp only [up_nx, put_nx, kill_nx]; done) | (simp only [up_nx, put_nx, kill_nx]; omega))
  have hca : a.chk = 0 := by unfold bothE at hc; split at hc <;> assumption
  have hcb : b.chk = 0 := by unfold bothE at hc; rw [if_pos hca] at hc; exact hc
  obtain ⟨o1, o2, o3, o4, o5, o6, o7⟩ := Mac.chk_ok.1 hca
  obtain ⟨p1, p2, p3, p4, p5, p6, p7⟩ := Mac.chk_ok.1 hcb
  obtain ⟨f1, f2, f3⟩ := ha
  obtain ⟨e1, e2, e3⟩ := hb
  rw [hc]
  simp (disch := first | omega | simp) [iv, Mac.cs, put_get_ne]
  obtain ⟨X, hX⟩ : ∃ X, X = H.nx + 4 + 1 := ⟨_, rfl⟩
  rw [← hX]
  generalize hMe : AH.put _ _ _ = M
  have hMn : M.nx = H.nx + 7 := by rw [← hMe]; rfl
  have hM0 : MkAt H M X mk0 false := ⟨by rw [← hMe]; exact (by repeat (first | with_reducible assumption | with_reducible exact AH.le.refl _ | with_reducible apply AH.le.up | (with_reducible refine AH.le.put hw ?_ ?_; · first | omega | (simp only [up_nx, put_nx, kill_nx]; done) | (simp only [up_nx, put_nx, kill_nx]; omega)) | (with_reducible refine AH.le.kill hw ?_ ?_; · first | omega | (simp only [up_nx, put_nx, kill_nx]; done) | (simp only [up_nx, put_nx, kill_nx]; omega)))), by omega, by omega, _, _, by rw [← hMe, put_get]; rfl, .nil _ _ _ _, .nil _ _ _ _⟩
  have hMb : M.get (H.nx + 1) = some (.box 25 b.cs) := by rw [← hMe]; simp (disch := first | omega | simp) [put_get_ne]; rfl
  have hMa : M.get H.nx = some (.box 25 a.cs) := by rw [← hMe]; simp (disch := first | omega | simp) [put_get_ne]; rfl
  have hMr : M.get (H.nx + 2) = some (.box 25 [.p (.int .i64 0), .p (.slice none 0 0), .p (.slice none 0 0)]) := by rw [← hMe]; simp (disch := first | omega | simp) [put_get_ne]
  clear hMe
  refine ca_of (by kernel_rfl) (c_lay (n := a) hw hM0 (by decide) (by decide) (by decide) hca ⟨o1, o2⟩ (by omega) (fun x hx => by have := o5 x hx; omega)) ?_
  rintro _ H2 ⟨rfl, h2, k2⟩
  have g2 := k2.box (by omega) hMb
  unfold Mac.cs iv at g2
  simp (disch := first | omega | simp) [iv, g2]
  refine ca_of (by kernel_rfl) (c_lay (n := b) hw h2 (by simp [Mac.lay, mk0]; omega) (by simp [Mac.lay, mk0]; omega) (by simp [Mac.lay, mk0]; omega) hcb ⟨p1, p2⟩ (by omega) (fun x hx => by have := p5 x hx; omega)) ?_
  rintro _ H4 ⟨rfl, h4, k4⟩
  have kb4 := k2.trans k4
  have g4 := kb4.box (by omega) hMa
  unfold Mac.cs iv at g4
  simp (disch := first | omega | simp) [iv, g4]
  have hM4 : MkAt H H4 X ⟨0 + a.states + b.states, a.arcs.map (Arc.shift 0) ++ b.arcs.map (Arc.shift (0 + a.states)), []⟩ false := h4
  refine loop_wf (fun i : Nat => [iv i]) (fun i H' => Kb X M H' ∧ H4.nx ≤ H'.nx ∧ i ≤ a.fins.length ∧ MkAt H H' X ⟨0 + a.states + b.states, a.arcs.map (Arc.shift 0) ++ b.arcs.map (Arc.shift (0 + a.states)) ++ (a.fins.take i).map (fun f => ⟨f.st, 0 + a.states, 0, 0, f.w⟩), []⟩ false) (fun i => a.fins.length - i) 0 (.refl (Nat.le_refl _)) ⟨kb4, Nat.le_refl _, Nat.zero_le _, by simpa using hM4⟩ ?_
  rintro i H5 hn5 hw5 ⟨kb5, hnx5, hi, hmk⟩ k hk
  unfold S_machine_Chain_L2
  by_cases hil : i < a.fins.length
  · obtain ⟨f, hf⟩ : ∃ f, a.fins[i]? = some f := ⟨_, List.getElem?_eq_getElem hil⟩
    have hfg : ∀ h, a.fins[i]'h = f := fun h => (List.getElem?_eq_some_iff.1 hf).2
    have hiv := ivn (i := i) (by omega)
    have hb := o6 f (List.mem_of_getElem? hf)
    simp (disch := first | omega | simp) [iv, hil, hf, hfg, Fin_.cs, put_get_ne]
    generalize hMe : AH.put _ _ _ = M6
    have hM6n : M6.nx = H5.nx + 4 := by rw [← hMe]; rfl
    have hM6k : ∀ j, j < H5.nx → M6.get j = H5.get j := fun j hj => by rw [← hMe, AH.get_put_ne (by omega), AH.get_put_ne (by omega), up_get]
    clear hMe
    have hmk6 := hmk.same hw (by omega) hM6k
    have kb6 : Kb X M M6 := kb5.trans ⟨by omega, fun j o _ ho _ _ => by rw [hM6k j (hw5 _ _ ho).1]; exact ho⟩
    refine ca_of (by kernel_rfl) (c_arc hw hmk6 (by simp; omega) ⟨f.st, 0 + a.states, 0, 0, f.w⟩) ?_
    rintro _ H7 ⟨rfl, h7, k7⟩
    simp (disch := first | omega | simp) [iv, hiv]
    refine hk (i + 1) _ _ _ (.refl (by have := k7.1; omega)) ⟨kb6.trans k7, by have := k7.1; omega, hil, ?_⟩ (by omega)
    have e1 : (false || decide (1000000 < f.w)) = false := by simp; omega
    dsimp only at h7
    rw [e1] at h7
    rw [List.take_add_one, hf, Option.toList_some, List.map_append, ← List.append_assoc]
    exact h7
  have hie : i = a.fins.length := by omega
  have g5 := kb5.box (by omega) hMb
  unfold Mac.cs iv at g5
  simp (disch := first | omega | simp) [iv, hil, g5]
  rw [hie, List.take_length] at hmk
  have hnx5' := kb5.1
  clear hk hie
  refine loop_wf (fun i : Nat => [iv i]) (fun i H' => Kb X M H' ∧ H5.nx ≤ H'.nx ∧ i ≤ b.fins.length ∧ MkAt H H' X ⟨0 + a.states + b.states, a.arcs.map (Arc.shift 0) ++ b.arcs.map (Arc.shift (0 + a.states)) ++ a.fins.map (fun f => ⟨f.st, 0 + a.states, 0, 0, f.w⟩), (b.fins.take i).map (Fin_.shift (0 + a.states))⟩ false) (fun i => b.fins.length - i) 0 (.refl (Nat.le_refl _)) ⟨kb5, Nat.le_refl _, Nat.zero_le _, by simpa using hmk⟩ ?_
  rintro i H5 hn5 hw5 ⟨kb5, hnx5, hi, hmk⟩ k hk
  unfold S_machine_Chain_L1
  by_cases hil : i < b.fins.length
  · obtain ⟨f, hf⟩ : ∃ f, b.fins[i]? = some f := ⟨_, List.getElem?_eq_getElem hil⟩
    have hfg : ∀ h, b.fins[i]'h = f := fun h => (List.getElem?_eq_some_iff.1 hf).2
    have hiv := ivn (i := i) (by omega)
    have hb := p6 f (List.mem_of_getElem? hf)
    have hms : (mk0.lay a).states = 0 + a.states := rfl
    have hw1 : IntKind.i64.wrap (0 + a.states + f.st) = 0 + a.states + f.st := by rw [IntKind.wrap_i64]; omega
    have hw1' : IntKind.i64.wrap (a.states + f.st) = a.states + f.st := by rw [IntKind.wrap_i64]; omega
    simp (disch := first | omega | simp) [iv, hil, hf, hfg, Fin_.cs, put_get_ne, hms, hw1, hw1']
    generalize hMe : AH.put _ _ _ = M6
    have hM6n : M6.nx = H5.nx + 4 := by rw [← hMe]; rfl
    have hM6k : ∀ j, j < H5.nx → M6.get j = H5.get j := fun j hj => by rw [← hMe, AH.get_put_ne (by omega), AH.get_put_ne (by omega), up_get]
    clear hMe
    have hmk6 := hmk.same hw (by omega) hM6k
    have kb6 : Kb X M M6 := kb5.trans ⟨by omega, fun j o _ ho _ _ => by rw [hM6k j (hw5 _ _ ho).1]; exact ho⟩
    rw [show a.states + f.st = 0 + a.states + f.st by omega]
    refine ca_of (by kernel_rfl) (c_final hw hmk6 (by simp; omega) (Fin_.shift (0 + a.states) f)) ?_
    rintro _ H7 ⟨rfl, h7, k7⟩
    simp (disch := first | omega | simp) [iv, hiv]
    refine hk (i + 1) _ _ _ (.refl (by have := k7.1; omega)) ⟨kb6.trans k7, by have := k7.1; omega, hil, ?_⟩ (by omega)
    rw [List.take_add_one, hf, Option.toList_some, List.map_append]
    exact h7
  · have hie : i = b.fins.length := by omega
    simp (disch := first | omega | simp) [iv, hil]
    rw [hie, List.take_length] at hmk
    refine ca_of (by kernel_rfl) (c_done hw (hmk.same hw (by simp only [up_nx]; omega) (fun _ _ => rfl))) ?_
    rintro r H7 ⟨l7, n7, s7, hq⟩
    rcases hq with ⟨hbad, _⟩ | ⟨_, hbad, _⟩ | ⟨_, _, va, vf, rfl, ga, gf⟩
    · simp at hbad; omega
    · cases hbad
    have hM7r := kb5.box (by omega) hMr
    have g7 : H7.get (H.nx + 2) = _ := (s7 (H.nx + 2) (by have := (hw5 _ _ hM7r).1; simp only [up_nx]; omega)).trans hM7r
    obtain ⟨pa, ca⟩ := ga.part
    obtain ⟨pf, cf⟩ := gf.part
    simp (disch := first | omega | simp) [iv, g7, pa, ca, pf, cf, put_get]
    rw [show a.states + b.states = 0 + a.states + b.states by omega]
    exact rt_last (x := a.chain b) hw l7 (by omega) (by have := kb5.1; simp only [up_nx] at n7; omega) g7 ga gf)
/-- the walks of both -/
def Mac.either (a b : Mac) : Mac := ⟨1 + a.states + b.states, a.arcs.map (Arc.shift 1) ++ [⟨0, 1, 0, 0, 0⟩] ++ b.arcs.map (Arc.shift (1 + a.states)) ++ [⟨0, 1 + a.states, 0, 0, 0⟩], a.fins.map (Fin_.shift 1) ++ b.fins.map (Fin_.shift (1 + a.states))⟩
def Mac.half (x m : Mac) : Mac := { (x.lay m).arc ⟨0, x.states, 0, 0, 0⟩ with fins := x.fins ++ m.fins.map (Fin_.shift x.states) }
theorem either_half (a b : Mac) : (mk1.half a).half b = a.either b := by
  simp [Mac.half, Mac.either, Mac.lay, Mac.arc, mk1]
def eiN (a b : Mac) : Nat → Mac
  | 0 => mk1
  | 1 => mk1.half a
  | _ => (mk1.half a).half b
set_option maxHeartbeats 1000000 in
theorem c_Either {a b : Mac} (ha : a.Few) (hb : b.Few) : PF Try.prog 20 [a.av, b.av] (made (a.either b) (bothE a b)) := fun H => tri_wf fun hw => tri_machine_Either (by
  unfold S_machine_Either Mac.av
  simp (disch := first | omega | simp) [Mac.cs, put_get_ne]
  refine ca_pure (by kernel_rfl) (c_both a b _) ?_
  by_cases hc : bothE a b = 0
  case neg =>
    simp (disch := first | omega | simp) [iv, hc, Mac.cs, put_get_ne]
    exact rt_zero hc hw (by repeat (first | with_reducible assumption | with_reducible exact AH.le.refl _ | with_reducible apply AH.le.up | (with_reducible refine AH.le.put hw ?_ ?_; · first | omega | (simp only [up_nx, put_nx, kill_nx]; done) | (simp only [up_nx, put_nx, kill_nx]; omega)) | (with_reducible refine AH.le.kill hw ?_ ?_; · first | omega | (simp only [up_nx, put_nx, kill_nx]; done) | (simp only [up_nx, put_nx, kill_nx]; omega)))) (by first | omega | (simp only [up_nx, put_nx, kill_nx]; done) | (simp only [up_nx, put_nx, kill_nx]; omega))
  have hca : a.chk = 0 := by unfold bothE at hc; split at hc <;> assumption
  have hcb : b.chk = 0 := by unfold bothE at hc; rw [if_pos hca] at hc; exact hc
  obtain ⟨f1, f2, f3⟩ := ha
  obtain ⟨e1, e2, e3⟩ := hb
  rw [hc]
  simp (disch := first | omega | simp) [iv, Mac.cs, put_get_ne]
  obtain ⟨X, hX⟩ : ∃ X, X = H.nx + 4 + 1 := ⟨_, rfl⟩
  rw [← hX]
  obtain ⟨R, hR⟩ : ∃ R, R = H.nx + 4 + 3 + 5 + 2 := ⟨_, rfl⟩
  rw [← hR]
  generalize hMe : AH.put _ _ _ = M
  have hMn : M.nx = H.nx + 17 := by rw [← hMe]; rfl
  have hM0 : MkAt H M X mk1 false := ⟨by rw [← hMe]; exact (by repeat (first | with_reducible assumption | with_reducible exact AH.le.refl _ | with_reducible apply AH.le.up | (with_reducible refine AH.le.put hw ?_ ?_; · first | omega | (simp only [up_nx, put_nx, kill_nx]; done) | (simp only [up_nx, put_nx, kill_nx]; omega)) | (with_reducible refine AH.le.kill hw ?_ ?_; · first | omega | (simp only [up_nx, put_nx, kill_nx]; done) | (simp only [up_nx, put_nx, kill_nx]; omega)))), by omega, by omega, .p (.slice none 0 0), .p (.slice none 0 0), by rw [← hMe]; simp (disch := first | omega | simp) [put_get_ne, iv, bv, mk1], .nil _ _ _ _, .nil _ _ _ _⟩
  obtain ⟨rows, hrows⟩ : ∃ rows, rows = [a.cs, b.cs] := ⟨_, rfl⟩
  have hrl : rows.length = 2 := by rw [hrows]; rfl
  have hMR : M.get R = some (.row 25 3 rows) := by rw [← hMe, put_get, hrows]; rfl
  have hMr : M.get (H.nx + 2) = some (.box 25 [.p (.int .i64 0), .p (.slice none 0 0), .p (.slice none 0 0)]) := by rw [← hMe]; simp (disch := first | omega | simp) [put_get_ne]
  clear hMe
  refine loop_wf (fun i : Nat => [iv i]) (fun i H' => Kb X M H' ∧ i ≤ 2 ∧ MkAt H H' X (eiN a b i) false) (fun i => 2 - i) 0 (.refl (Nat.le_refl _)) ⟨.refl _ _, by omega, hM0⟩ ?_
  rintro i H5 hn5 hw5 ⟨kb5, hi, hmk⟩ k hk
  unfold S_machine_Either_L2
  by_cases hil : i < 2
  · obtain ⟨m, hm, ⟨f1, f2, f3⟩, hcm, hnext, hx1, hx2, hx3, hx4⟩ : ∃ m : Mac, rows[i]? = some m.cs ∧ m.Few ∧ m.chk = 0 ∧ eiN a b (i + 1) = (eiN a b i).half m ∧ 0 ≤ (eiN a b i).states ∧ (eiN a b i).states ≤ 50 ∧ (eiN a b i).arcs.length ≤ 200 ∧ (eiN a b i).fins.length ≤ 50 := by
      have h1 := (Mac.chk_ok.1 hca).1
      rcases (by omega : i = 0 ∨ i = 1) with rfl | rfl
      · exact ⟨a, by rw [hrows]; rfl, ⟨f1, f2, f3⟩, hca, rfl, by simp [eiN, mk1], by simp [eiN, mk1], by simp [eiN, mk1], by simp [eiN, mk1]⟩
      · refine ⟨b, by rw [hrows]; rfl, ⟨e1, e2, e3⟩, hcb, rfl, ?_, ?_, ?_, ?_⟩
        · simp [eiN, Mac.half, Mac.lay, Mac.arc, mk1]; omega
        · simp [eiN, Mac.half, Mac.lay, Mac.arc, mk1]; omega
        · simp [eiN, Mac.half, Mac.lay, Mac.arc, mk1]; omega
        · simp [eiN, Mac.half, Mac.lay, Mac.arc, mk1]; omega
    generalize eiN a b i = x at hmk hnext hx1 hx2 hx3 hx4
    obtain ⟨o1, o2, o3, o4, o5, o6, o7⟩ := Mac.chk_ok.1 hcm
    have hil' : (i : Int) < 2 := by omega
    have hiv := ivn (i := i) (by omega)
    have hgR := kb5.2 R _ (by omega) hMR (fun _ e => by injection e with e; exact absurd e (by decide)) (fun _ e => by injection e with e; exact absurd e (by decide))
    have hmg : ∀ h, rows[i]'h = m.cs := fun h => (List.getElem?_eq_some_iff.1 hm).2
    clear hrows
    simp (disch := first | omega | simp) [iv, hil, hil', hgR, hm, hmg, hrl, Mac.cs, put_get_ne]
    generalize hMe : AH.put _ _ _ = M6
    have hM6n : M6.nx = H5.nx + 4 := by rw [← hMe]; rfl
    have hM6k : ∀ j, j < H5.nx → M6.get j = H5.get j := fun j hj => by rw [← hMe, AH.get_put_ne (by omega), AH.get_put_ne (by omega), up_get]
    have hM6m : M6.get (H5.nx + 2) = some (.box 25 m.cs) := by rw [← hMe, put_get]; rfl
    clear hMe
    have hmk6 := hmk.same hw (by omega) hM6k
    have kb6 : Kb X M M6 := kb5.trans ⟨by omega, fun j o _ ho _ _ => by rw [hM6k j (hw5 _ _ ho).1]; exact ho⟩
    refine ca_of (by kernel_rfl) (c_lay (n := m) hw hmk6 (by omega) hx1 (by omega) hcm ⟨o1, o2⟩ (by omega) (fun x hx => by have := o5 x hx; omega)) ?_
    rintro _ H7 ⟨rfl, h7, k7⟩
    refine ca_of (by kernel_rfl) (c_arc hw h7 (by simp [Mac.lay]; omega) ⟨0, x.states, 0, 0, 0⟩) ?_
    rintro _ H8 ⟨rfl, h8, k8⟩
    have kb8 := k7.trans k8
    have g8 := kb8.box (by have := kb5.1; omega) hM6m
    unfold Mac.cs iv at g8
    simp (disch := first | omega | simp) [iv, g8]
    have hM8 : MkAt H H8 X ⟨x.states + m.states, x.arcs ++ m.arcs.map (Arc.shift x.states) ++ [⟨0, x.states, 0, 0, 0⟩], x.fins⟩ false := h8
    have hM8m := kb8.box (by have := kb5.1; omega) hM6m
    refine loop_wf (fun i : Nat => [iv i]) (fun y H' => Kb X M6 H' ∧ H8.nx ≤ H'.nx ∧ y ≤ m.fins.length ∧ MkAt H H' X ⟨x.states + m.states, x.arcs ++ m.arcs.map (Arc.shift x.states) ++ [⟨0, x.states, 0, 0, 0⟩], x.fins ++ (m.fins.take y).map (Fin_.shift x.states)⟩ false) (fun y => m.fins.length - y) 0 (.refl (Nat.le_refl _)) ⟨kb8, Nat.le_refl _, Nat.zero_le _, by simpa using hM8⟩ ?_
    rintro y H9 hn9 hw9 ⟨kb9, hnx9, hy, hmk9⟩ ky hky
    unfold S_machine_Either_L1
    by_cases hyl : y < m.fins.length
    · obtain ⟨f, hf⟩ : ∃ f, m.fins[y]? = some f := ⟨_, List.getElem?_eq_getElem hyl⟩
      have hfg : ∀ h, m.fins[y]'h = f := fun h => (List.getElem?_eq_some_iff.1 hf).2
      have hyv := ivn (i := y) (by omega)
      have hb := o6 f (List.mem_of_getElem? hf)
      have hw1 : IntKind.i64.wrap (x.states + f.st) = x.states + f.st := by rw [IntKind.wrap_i64]; omega
      simp (disch := first | omega | simp) [iv, hyl, hf, hfg, Fin_.cs, put_get_ne, hw1]
      generalize hMe : AH.put _ _ _ = N6
      have hN6n : N6.nx = H9.nx + 4 := by rw [← hMe]; rfl
      have hN6k : ∀ j, j < H9.nx → N6.get j = H9.get j := fun j hj => by rw [← hMe, AH.get_put_ne (by omega), AH.get_put_ne (by omega), up_get]
      clear hMe
      have hmkN := hmk9.same hw (by omega) hN6k
      have kbN : Kb X M6 N6 := kb9.trans ⟨by omega, fun j o _ ho _ _ => by rw [hN6k j (hw9 _ _ ho).1]; exact ho⟩
      refine ca_of (by kernel_rfl) (c_final hw hmkN (by simp; omega) (Fin_.shift x.states f)) ?_
      rintro _ Ha ⟨rfl, ha', ka⟩
      simp (disch := first | omega | simp) [iv, hyv]
      refine hky (y + 1) _ _ _ (.refl (by have := ka.1; omega)) ⟨kbN.trans ka, by have := ka.1; omega, hyl, ?_⟩ (by omega)
      rw [List.take_add_one, hf, Option.toList_some, List.map_append, ← List.append_assoc]
      exact ha'
    · have hye : y = m.fins.length := by omega
      simp (disch := first | omega | simp) [iv, hyl, hiv]
      rw [hye, List.take_length] at hmk9
      refine hk (i + 1) _ _ _ (.refl (by have := kb9.1; omega)) ⟨kb6.trans kb9, hil, ?_⟩ (by omega)
      rw [hnext]
      exact hmk9
  · have hie : i = 2 := by omega
    subst hie
    simp (disch := first | omega | simp) [iv]
    have e : eiN a b 2 = a.either b := either_half a b
    rw [e] at hmk
    refine ca_of (by kernel_rfl) (c_done hw (hmk.same hw (by simp only [up_nx]; omega) (fun _ _ => rfl))) ?_
    rintro r H7 ⟨l7, n7, s7, hq⟩
    have q1 := (Mac.chk_ok.1 hca).1
    rcases hq with ⟨hbad, _⟩ | ⟨_, hbad, _⟩ | ⟨_, _, va, vf, rfl, ga, gf⟩
    · simp [Mac.either] at hbad; omega
    · cases hbad
    have hM7r := kb5.box (by omega) hMr
    have g7 : H7.get (H.nx + 2) = _ := (s7 (H.nx + 2) (by have := (hw5 _ _ hM7r).1; simp only [up_nx]; omega)).trans hM7r
    obtain ⟨pa, ca⟩ := ga.part
    obtain ⟨pf, cf⟩ := gf.part
    simp (disch := first | omega | simp) [iv, g7, pa, ca, pf, cf, put_get]
    exact rt_last (x := a.either b) hw l7 (by omega) (by have := kb5.1; simp only [up_nx] at n7; omega) g7 ga gf)
end Go.Proofs.Ytgkkilbeingleaa
