/- The law MachineThrough holds: whatever comes in, the call returns true and its arguments read as they did. No condition. -/
import Derived.Test.YtgkkilbeingleaaMt20
import Derived.JoinedOf
import Derived.JoinedAt

/- Through: all of it. -/
namespace Go.Proofs.Ytgkkilbeingleaa
open Go.RowKit Go.Maps
noncomputable def thE (P : Mac) : Int := if costlyN P = true then 3 else 0
theorem finsN_take (a b : Mac) (l : List Int) (u : Nat) (f : Fin_) (h : a.fins[u]? = some f) : (a.fins.take (u + 1)).flatMap (fun f => b.fins.filterMap (endG b.states l f)) = (a.fins.take u).flatMap (fun f => b.fins.filterMap (endG b.states l f)) ++ b.fins.filterMap (endG b.states l f) := by
  rw [List.take_add_one, h, Option.toList_some, List.flatMap_append]
  simp
set_option maxHeartbeats 1000000 in
theorem w_L10 {H H1 : AH} {a b : Mac} {n : ThN} {D R : Nat} {s : NS} (hwB : WF H) (hn1 : H.nx ≤ H1.nx) (ha : a.Ok) (fa : a.Few) (hb : b.Ok) (fb : b.Few) (hw1 : WF H1) (hc : FnAt H H1 b n D R s []) (hs : s.l.length ≤ 3000 ∧ s.arcs.length ≤ 20000) (hR : H.nx ≤ R) (hsE : s = endN (prodM a b)) :
    LoopA Try.prog 1 (S_machine_Through_L10 (fun r H' => H' = H ∧ r = made (macN (prodM a b)) (thE (prodM a b))) H (.ptr D 0) (.ptr R 0) (.ptr n.xb 0) (.ptr n.nb 0) (.dsl 2 (a.fins.map Fin_.cs)) (iv a.fins.length)) [iv 0] H1 := by
  have hml : maxLen = 9223372036854775807 := by decide
  have hfl := fa.2.2
  have has := ha.2.1
  refine loop_wf (fun u : Nat => [iv u]) (fun u H' => Kx n H1 H' ∧ u ≤ a.fins.length ∧ FnAt H H' b n D R s ((a.fins.take u).flatMap fun f => b.fins.filterMap (endG b.states s.l f))) (fun u => a.fins.length - u) 0 (.refl (Nat.le_refl _)) ⟨⟨Nat.le_refl _, fun _ _ _ _ h => h⟩, Nat.zero_le _, by simpa using hc⟩ ?_
  rintro u H2 hn2 hw2 ⟨hkt, hu, hc2⟩ kk hkk
  unfold S_machine_Through_L10
  by_cases hul : u < a.fins.length
  · obtain ⟨f, hf⟩ : ∃ f, a.fins[u]? = some f := ⟨_, List.getElem?_eq_getElem hul⟩
    have hff : ∀ h, a.fins[u]'h = f := fun h => (List.getElem?_eq_some_iff.1 hf).2
    have of := ha.2.2.2.2.2.1 f (List.mem_of_getElem? hf)
    have hll : ((a.fins.take u).flatMap fun f => b.fins.filterMap (endG b.states s.l f)).length < 900000 := by
      have := flat_len2 (fun f => b.fins.filterMap (endG b.states s.l f)) 40 (a.fins.take u) fun f _ => by
        have := endG_len b.states s.l b.fins f
        have := fb.2.2
        omega
      rw [List.length_take] at this
      have h2 : min u a.fins.length * 40 ≤ 40 * 40 := Nat.mul_le_mul_right _ (by omega)
      omega
    have hgD := hc2.gD
    have hDl := (hw2 _ _ hgD).1
    unfold Mac.cs iv at hgD
    have hMw : WF (((H2.up 4).put (H2.nx + 2) (.box 56 [.p (.int .i64 0), .p (.int .i64 0)])).put (H2.nx + 2) (.box 56 [.p (.int .i64 f.st), .p (.int .i64 f.w)])) := ((hw2.up 4).box (by first | omega | (simp only [up_nx, put_nx, kill_nx]; done) | (simp only [up_nx, put_nx, kill_nx]; omega)) (by repeat (first | exact Cl.p _ | exact Cl.dsl _ _ | exact Cl.any | refine Cl.tup ?_ | refine Cl.agg ?_ | exact Clo.nil | refine Clo.cons ?_ ?_))).box (by first | omega | (simp only [up_nx, put_nx, kill_nx]; done) | (simp only [up_nx, put_nx, kill_nx]; omega)) (by repeat (first | exact Cl.p _ | exact Cl.dsl _ _ | exact Cl.any | refine Cl.tup ?_ | refine Cl.agg ?_ | exact Clo.nil | refine Clo.cons ?_ ?_))
    simp (disch := first | omega | simp) [iv, hul, hf, hff, Fin_.cs, put_get_ne, hgD]
    generalize hMe : AH.put _ (H2.nx + 2) _ = M at hMw ⊢
    have hMn : M.nx = H2.nx + 4 := by rw [← hMe]; rfl
    have hMk : ∀ q, q < H2.nx → M.get q = H2.get q := fun q hq => by rw [← hMe, AH.get_put_ne (by omega), AH.get_put_ne (by omega), up_get]
    have hMf : M.get (H2.nx + 2) = some (.box 56 f.cs) := by rw [← hMe, put_get]; rfl
    clear hMe
    refine w_L9 (u := u) hwB hb fb hMw (hc2.same hwB hw2 (by omega) hMk) hll hMf (by omega) (by omega) kk ?_
    intro H3 hw3 hk3 hc3
    refine hkk (u + 1) _ _ _ (.refl (by have := hk3.1; omega)) ⟨hkt.trans ((kx_same hw2 (by omega) hMk).trans hk3), hul, ?_⟩ (by omega)
    rw [finsN_take a b s.l u f hf]
    exact hc3
  · have hue : a.fins.take u = a.fins := List.take_of_length_le (by omega)
    rw [hue, ← finsN_prod, hsE] at hc2
    have hcE : ((endN (prodM a b)).c || cF (finsN (prodM a b) (endN (prodM a b)).l)) = costlyN (prodM a b) := (costly_eq _).symm
    have hgx := hc2.gx
    have hnx2 := hkt.1
    simp (disch := first | omega | simp) [iv, hul, hgx]
    refine ca_wf (by kernel_rfl) (c_done hwB (hc2.mk_.same hwB (by simp only [up_nx]; omega) (fun _ _ => rfl))) ?_
    rintro r H7 hw7 ⟨l7, n7, s7, hq⟩
    have hRl := (hw2 _ _ hc2.gR).1
    have g7 : H7.get R = _ := (s7 R (by simp only [up_nx]; omega)).trans hc2.gR
    rw [hcE] at hq
    simp only [up_nx] at n7
    rw [hsE] at hs
    rcases hq with ⟨hbad, _⟩ | ⟨_, hcc, rfl⟩ | ⟨_, hcc, va, vf, rfl, ga, gf⟩
    · exfalso; dsimp only at hbad; omega
    · unfold iv at g7
      simp (disch := first | omega | simp) [iv, g7, put_get_ne]
      have he : thE (prodM a b) = 3 := by unfold thE; rw [if_pos hcc]
      rw [he]
      exact rt_zero (x := macN (prodM a b)) (e := 3) (by decide) hwB (AH.le.put hwB hR l7) (by simp only [put_nx]; omega)
    · have he : thE (prodM a b) = 0 := by unfold thE; rw [hcc]; rfl
      rw [he]
      obtain ⟨pa, ca⟩ := ga.part
      obtain ⟨pf, cf⟩ := gf.part
      unfold iv at g7
      simp (disch := first | omega | simp) [iv, g7, pa, ca, pf, cf, put_get]
      exact rt_last (x := macN (prodM a b)) hwB l7 hR (by omega) g7 ga gf
theorem prod_few {a b : Mac} (fa : a.Few) (fb : b.Few) : (prodM a b).arcs.length ≤ 20000 := by
  have e : (prodM a b).arcs.length = (a.arcs.flatMap (fam12 b)).length + (b.arcs.flatMap (fam3 a b)).length := List.length_append
  have h1 := flat_len2 (fam12 b) 120 a.arcs fun f _ => by
    unfold fam12
    split
    · have := fb.1; simp; omega
    · rw [List.length_map]
      have := List.length_filter_le (fun g => decide (g.inn = f.out)) b.arcs
      have := fb.2.1
      omega
  have h2 := flat_len2 (fam3 a b) 40 b.arcs fun g _ => by
    unfold fam3
    split
    · have := fa.1; simp; omega
    · simp
  have h3 : a.arcs.length * 120 ≤ 120 * 120 := Nat.mul_le_mul_right _ fa.2.1
  have h4 : b.arcs.length * 40 ≤ 120 * 40 := Nat.mul_le_mul_right _ fb.2.1
  omega
set_option maxHeartbeats 2000000 in
theorem c_Through {a b : Mac} (fa : a.Few) (fb : b.Few) : PF Try.prog 15 [a.av, b.av] (made (macN (prodM a b)) (if bothE a b = 0 then thE (prodM a b) else bothE a b)) := fun H => tri_wf fun hw => tri_machine_Through (by
  have hml : maxLen = 9223372036854775807 := by decide
  unfold S_machine_Through Mac.av
  simp (disch := first | omega | simp) [Mac.cs, put_get_ne]
  refine ca_pure (by kernel_rfl) (c_both a b _) ?_
  by_cases hc : bothE a b = 0
  case neg =>
    rw [if_neg hc]
    simp (disch := first | omega | simp) [iv, hc, Mac.cs, put_get_ne]
    exact rt_zero hc hw (by repeat (first | with_reducible assumption | with_reducible exact AH.le.refl _ | with_reducible apply AH.le.up | (with_reducible refine AH.le.put hw ?_ ?_; · first | omega | (simp only [up_nx, put_nx, kill_nx]; done) | (simp only [up_nx, put_nx, kill_nx]; omega)) | (with_reducible refine AH.le.kill hw ?_ ?_; · first | omega | (simp only [up_nx, put_nx, kill_nx]; done) | (simp only [up_nx, put_nx, kill_nx]; omega)))) (by first | omega | (simp only [up_nx, put_nx, kill_nx]; done) | (simp only [up_nx, put_nx, kill_nx]; omega))
  rw [if_pos hc]
  obtain ⟨ha, hb⟩ := both_ok hc
  have hP := prod_fit ha hb
  have hPs := few_prod ha hb fa fb
  have hPst : (prodM a b).states = a.states * b.states := rfl
  have hPa := prod_few fa fb
  rw [hc]
  simp (disch := first | omega | simp) [iv]
  unfold S_machine_Through_C12
  have lawM : Keyed Try.prog 72 := lawI2
  have hk0 := keyI2 (a := 0) (b := 0) (by unfold I64; omega) (by unfold I64; omega)
  unfold kv at hk0
  simp (disch := first | omega | simp) [put_get_ne, lawM, hk0]
  refine ⟨by omega, ?_⟩
  have hput0 : putA (fun _ => none) (.agg #[.int .i64 0, .int .i64 0]) (.p (.int .i64 0)) = numF b.states [0] := by
    have h := numF_put (B := b.states) (l := []) (i := 0) (j := 0) (by omega) (by have := hb.1; omega) (by simp)
    have h0 : numF b.states [] = fun _ => none := by
      funext v
      unfold numF
      split
      · split
        · simp
        · rfl
      · rfl
    rw [h0] at h
    simp only [Int.zero_mul, Int.add_zero, List.nil_append] at h
    exact h
  rw [hput0]
  obtain ⟨n, hn⟩ : ∃ n : ThN, n = ⟨H.nx + 4 + 1, H.nx + 4 + 2, H.nx + 4 + 4 + 4, H.nx + 4 + 4 + 6 + 2, H.nx + 8⟩ := ⟨_, rfl⟩
  have hnX : H.nx + 4 + 1 = n.X := by rw [hn]
  have hnx : H.nx + 4 + 2 = n.xb := by rw [hn]
  have hnn : H.nx + 4 + 4 + 4 = n.nb := by rw [hn]
  have hnl : H.nx + 4 + 4 + 6 + 2 = n.lb := by rw [hn]
  have hnm : H.nx + 8 = n.mp := by rw [hn]
  obtain ⟨r0, hr0⟩ : ∃ r0, H.nx + 4 + 4 + 6 + 1 = r0 := ⟨_, rfl⟩
  rw [hnn, hnl, hr0, hnX, hnx, hnm]
  generalize hMe : AH.put _ n.X _ = M
  have hMn : M.nx = H.nx + 23 := by rw [← hMe]; rfl
  have hMl : H.le M := by rw [← hMe]; exact (by repeat (first | with_reducible assumption | with_reducible exact AH.le.refl _ | with_reducible apply AH.le.up | (with_reducible refine AH.le.put hw ?_ ?_; · first | omega | (simp only [up_nx, put_nx, kill_nx]; done) | (simp only [up_nx, put_nx, kill_nx]; omega)) | (with_reducible refine AH.le.kill hw ?_ ?_; · first | omega | (simp only [up_nx, put_nx, kill_nx]; done) | (simp only [up_nx, put_nx, kill_nx]; omega))))
  have gA : M.get H.nx = some (.box 25 a.cs) := by rw [← hMe]; simp (disch := first | omega | simp) [put_get_ne]; rfl
  have gD : M.get (H.nx + 1) = some (.box 25 b.cs) := by rw [← hMe]; simp (disch := first | omega | simp) [put_get_ne]; rfl
  have gR : M.get (H.nx + 2) = some (.box 25 [iv 0, .p (.slice none 0 0), .p (.slice none 0 0)]) := by rw [← hMe]; simp (disch := first | omega | simp) [put_get_ne]; rfl
  have gX : M.get n.X = some (.box 71 [iv 1, .p (.slice none 0 0), .p (.slice none 0 0), bv false]) := by rw [← hMe, put_get]; rfl
  have gx : M.get n.xb = some (.box 69 [.ptr n.X 0]) := by rw [← hMe]; simp (disch := first | omega | simp) [put_get_ne]
  have gn : M.get n.nb = some (.box 73 [.mp n.mp]) := by rw [← hMe]; simp (disch := first | omega | simp) [put_get_ne]
  have gl : M.get n.lb = some (.box 74 [.osl r0 2 0 1]) := by rw [← hMe]; simp (disch := first | omega | simp) [put_get_ne]
  have gm : M.get n.mp = some (.map 72 1 (numF b.states [0])) := by rw [← hMe]; simp (disch := first | omega | simp) [put_get_ne]
  have gr : M.get r0 = some (.row 72 2 [[.p (.int .i64 0), .p (.int .i64 0)]]) := by rw [← hMe]; simp (disch := first | omega | simp) [put_get_ne]
  clear hMe
  have hpc : pc b.states 0 = [.p (.int .i64 0), .p (.int .i64 0)] := by
    have h := pc_at (B := b.states) (i := 0) (j := 0) (by omega) (by have := hb.1; omega)
    simp only [Int.zero_mul, Int.add_zero] at h
    exact h
  have hT0 : ThC H M a b n H.nx (H.nx + 1) (H.nx + 2) (iterN (prodM a b) 0) := ⟨⟨.osl r0 2 0 1, ⟨hMl, by omega, by omega, _, _, gX, .nil _ _ _ _, .nil _ _ _ _⟩, gx, gn, gl, gm,
    .row (by omega) (by omega) (by rw [gr, ← hpc]; rfl) (dt_pcs _ _) rfl, by omega, by omega, by omega, by omega⟩, gA, gD, gR⟩
  have hfa : PF Try.prog 36 [a.av] (.dsl 1 (fromE a)) := c_from ha.1 ha.2.1 (by have := ha.2.2.1; omega) fun x hx => by have := ha.2.2.2.2.1 x hx; omega
  have hfb : PF Try.prog 36 [b.av] (.dsl 1 (fromE b)) := c_from hb.1 hb.2.1 (by have := hb.2.2.1; omega) fun x hx => by have := hb.2.2.2.2.1 x hx; omega
  refine cav_pure (by kernel_rfl) (fun H2 _ => hfa H2) ?_
  unfold Mac.cs iv at gD
  simp (disch := first | omega | simp) [gD]
  refine cav_pure (by kernel_rfl) (fun H2 _ => hfb H2) ?_
  have hfn : (AV.fn (.func 40) [] [.ptr n.nb 0, .ptr n.lb 0, .ptr n.xb 0]) = thFn n := rfl
  rw [hfn]
  refine loop_wf (fun k : Nat => [iv k]) (fun k H' => M.nx ≤ H'.nx ∧ k ≤ (iterN (prodM a b) k).l.length ∧ ThC H H' a b n H.nx (H.nx + 1) (H.nx + 2) (iterN (prodM a b) k)) (fun k => (prodM a b).states.toNat + 1 - k) 0 (.refl (Nat.le_refl _)) ⟨Nat.le_refl _, Nat.zero_le _, hT0⟩ ?_
  rintro k H2 hn2 hw2 ⟨hnx2, hk2, hT⟩ kk hkk
  have hlen := iter_len hP k
  have harc := iter_arcs hP k
  obtain ⟨v, hv⟩ := hT.at_
  have hgl := hv.gl
  unfold S_machine_Through_L11
  by_cases hkl : k < (iterN (prodM a b) k).l.length
  · obtain ⟨q, hq⟩ : ∃ q, (iterN (prodM a b) k).l[k]? = some q := ⟨_, List.getElem?_eq_getElem hkl⟩
    obtain ⟨hI, _⟩ := iter_inv hP k
    have hqr := hI.rg q (List.mem_of_getElem? hq)
    have hBp : 0 < b.states := by have := hb.1; omega
    obtain ⟨i, hi⟩ : ∃ i : Nat, q / b.states = (i : Int) := ⟨(q / b.states).toNat, by have := Int.ediv_nonneg hqr.1 (Int.le_of_lt hBp); omega⟩
    obtain ⟨j, hj⟩ : ∃ j : Nat, q % b.states = (j : Int) := ⟨(q % b.states).toNat, by have := Int.emod_nonneg q (by omega : b.states ≠ 0); omega⟩
    have hjb : (j : Int) < b.states := by rw [← hj]; exact Int.emod_lt_of_pos q hBp
    have hqe : q = (i : Int) * b.states + (j : Int) := by
      have := Int.mul_ediv_add_emod q b.states
      rw [hi, hj, Int.mul_comm] at this
      exact this.symm
    have hia : (i : Int) < a.states := by
      rcases Int.lt_or_le (i : Int) a.states with h | h
      · exact h
      · have := Int.mul_le_mul_of_nonneg_right h (Int.le_of_lt hBp)
        rw [hPst] at hqr
        omega
    obtain ⟨r, xs, hve, hrl, hrg, hrx⟩ := hv.gr.at_ (by rw [List.length_map]; omega)
    have hxk : xs[k]? = some [.p (.int .i64 (i : Int)), .p (.int .i64 (j : Int))] := by
      rw [hrx k (by rw [List.length_map]; exact hkl), List.getElem?_map, hq]
      show some (pc b.states q) = _
      rw [hqe, pc_at (by omega) hjb]; rfl
    have hxk2 : ∀ h, xs[k]'h = [.p (.int .i64 (i : Int)), .p (.int .i64 (j : Int))] := fun h => (List.getElem?_eq_some_iff.1 hxk).2
    have hxl : k < xs.length := (List.getElem?_eq_some_iff.1 hxk).1
    rw [List.length_map] at hve
    rw [hve] at hgl
    have hae : (fromE a)[i]? = some [.dsl 5 ((outs a.arcs i).map Arc.cs)] := oV_get (by omega)
    have hag : ∀ h, (fromE a)[i]'h = [.dsl 5 ((outs a.arcs i).map Arc.cs)] := fun h => (List.getElem?_eq_some_iff.1 hae).2
    have hal : (fromE a).length = a.states.toNat := oV_len _ _
    have hin : i < a.states.toNat := by omega
    have him : (i : Int) < max a.states 0 := by omega
    have hkl' : (k : Int) < ((iterN (prodM a b) k).l.length : Int) := by omega
    simp (disch := first | omega | simp) [iv, hgl, hkl, hrg, hxk, hxk2, hxl, hae, hag, hal, hin, him]
    refine w_L7 (k := k) (i := i) (j := j) hw ha fa hb fb hw2 hT (by omega) (by have := ha.2.1; omega) hjb _ H kk ?_
    intro H3 hw3 hk3 hT3
    have hjobs := jobs_eq ha hb hia hjb
    rw [← hqe] at hjobs
    rw [← hjobs] at hT3
    have hit : (jobsAt (prodM a b) q).foldl (NS.add k) (iterN (prodM a b) k) = iterN (prodM a b) (k + 1) := by
      show _ = (iterN (prodM a b) k).round (prodM a b) k
      unfold NS.round
      rw [hq]
    rw [hit] at hT3
    have hlen1 := iter_len hP (k + 1)
    have harc1 := iter_arcs hP (k + 1)
    refine w_C5 hT3 (by omega) (by omega) _ H kk ?_
    have hle := iter_le (prodM a b) k 1
    have hll : (iterN (prodM a b) k).l.length ≤ (iterN (prodM a b) (k + 1)).l.length := by
      obtain ⟨⟨e, he⟩, _⟩ := hle
      rw [he, List.length_append]; omega
    exact hkk (k + 1) _ _ _ (.refl (by have := hk3.1; omega)) ⟨by have := hk3.1; omega, by omega, hT3⟩ (by omega)
  · have hEnd := end_of hP (k := k) (by omega)
    have hgA := hT.gA
    unfold Mac.cs iv at hgA
    have hkl' : ¬ (k : Int) < ((iterN (prodM a b) k).l.length : Int) := by omega
    simp (disch := first | omega | simp) [iv, hgl, hv.gr.len, hkl, hkl', hgA]
    refine w_L10 hw (by omega) ha fa hb fb hw2 ⟨?_, hv.gx, hv.gn, hv.gm, hT.gD, hT.gR⟩ (by omega) (by omega) hEnd
    have : cF [] = false := rfl
    rw [this, Bool.or_false]
    exact hv.mk_)
/-- what Through answers -/
theorem throughC {a b : Mac} (fa : a.Few) (fb : b.Few) : ThroughC a b := by
  have hT := c_Through fa fb
  by_cases hc : bothE a b = 0
  · rw [if_pos hc] at hT
    obtain ⟨ha, hb⟩ := both_ok hc
    have hP := prod_fit ha hb
    have hPs := few_prod ha hb fa fb
    have hN := num_end hP
    cases he : costlyN (prodM a b) with
    | true =>
      have e3 : thE (prodM a b) = 3 := by unfold thE; rw [if_pos he]
      rw [e3] at hT
      refine ⟨zeroM, 3, hT, fun h => absurd hc h, fun _ => .inr (.inr rfl), fun _ la lb => ?_, fun _ h => by cases h⟩
      obtain ⟨_, l2, l3⟩ := prod_light la lb
      rw [cheapN l2 l3] at he; cases he
    | false =>
      have e0 : thE (prodM a b) = 0 := by unfold thE; rw [he]; rfl
      rw [e0] at hT
      refine ⟨macN (prodM a b), 0, hT, fun h => absurd hc h, fun _ => .inl rfl, fun _ _ _ => rfl, fun _ _ => ⟨macN_ok hP hPs (fun y hy => prod_arc ha hb hy) (prod_nodup ha hb) ?_ he, fun I O => ?_⟩⟩
      · have := iter_arcs hP (prodM a b).states.toNat
        have := prod_few fa fb
        unfold endN; omega
      · unfold costOf
        congr 1
        funext c
        exact propext hN.acc
  · rw [if_neg hc] at hT
    have hm : made (macN (prodM a b)) (bothE a b) = .tup [zeroM.av, iv (bothE a b)] := by unfold made; rw [if_neg hc]
    rw [hm] at hT
    exact ⟨zeroM, bothE a b, hT, fun _ => ⟨rfl, rfl⟩, fun h => absurd h hc, fun h => absurd h hc, fun h => absurd h hc⟩
end Go.Proofs.Ytgkkilbeingleaa

/- Machines as they come in. -/
namespace Go.Proofs.Ytgkkilbeingleaa
open Go.RowKit Go.Maps Go.ChangeShapes Go.WideShapes
def rArc : Rep (Int × Int × Int × Int × Int) := rPair rInt (rPair rInt (rPair rInt (rPair rInt rInt)))
def rFin : Rep (Int × Int) := rPair rInt rInt
def rMac : Rep (Int × List (Int × Int × Int × Int × Int) × List (Int × Int)) := rPair rInt (rPair (rList rArc) (rList rFin))
def toA (x : Int × Int × Int × Int × Int) : Arc := ⟨x.1, x.2.1, x.2.2.1, x.2.2.2.1, x.2.2.2.2⟩
def toF (x : Int × Int) : Fin_ := ⟨x.1, x.2⟩
def toM (x : Int × List (Int × Int × Int × Int × Int) × List (Int × Int)) : Mac := ⟨x.1, x.2.1.map toA, x.2.2.map toF⟩
theorem avs_arc : AvsG rArc toA Arc.cs (fun _ => True) := (avs_int.pair (avs_int.pair (avs_int.pair (avs_int.pair avs_int)))).map (fun x => (⟨x.1, x.2.1, x.2.2.1, x.2.2.2.1, x.2.2.2.2⟩ : Arc)) Arc.cs (fun _ => True) (fun _ => rfl) (fun _ _ => trivial)
theorem avs_fin : AvsG rFin toF Fin_.cs (fun _ => True) := (avs_int.pair avs_int).map (fun x => (⟨x.1, x.2⟩ : Fin_)) Fin_.cs (fun _ => True) (fun _ => rfl) (fun _ _ => trivial)
theorem avs_mac : AvsG rMac toM Mac.cs (fun _ => True) := (avs_int.pair ((avs_arc.list (by decide)).pair (avs_fin.list (by decide)))).map (fun x => (⟨x.1, x.2.1, x.2.2⟩ : Mac)) Mac.cs (fun _ => True) (fun _ => rfl) (fun _ _ => trivial)
theorem opens_arc : Opens Try.prog 53 rArc :=
  opens_struct (l := [_, _, _, _, _]) Try.underlying53 rfl (opens_more rfl rfl (opens_int Try.underlying3) (opens_more rfl rfl (opens_int Try.underlying3) (opens_more rfl rfl (opens_int Try.underlying3) (opens_more rfl rfl (opens_int Try.underlying3) (opens_last rfl rfl (opens_int Try.underlying3))))))
theorem opens_fin : Opens Try.prog 56 rFin :=
  opens_struct (l := [_, _]) Try.underlying56 rfl (opens_more rfl rfl (opens_int Try.underlying3) (opens_last rfl rfl (opens_int Try.underlying3)))
theorem opens_mac : Opens Try.prog 25 rMac :=
  opens_struct (l := [_, _, _]) Try.underlying25 rfl (opens_more rfl rfl (opens_int Try.underlying3) (opens_more rfl rfl (opens_slice Try.underlying22 rfl (by decide) opens_arc) (opens_last rfl rfl (opens_slice Try.underlying23 rfl (by decide) opens_fin))))
theorem opens_nums : Opens Try.prog 26 (rList rInt) := opens_slice Try.underlying26 rfl (by decide) (opens_int Try.underlying3)
theorem law_pf {f : FuncId} {ps : List AV} (h : PF Try.prog f ps (bv true)) : Tri Try.prog f ps ⟨0, []⟩ (fun v _ => v = .p (.bool true)) := (h ⟨0, []⟩).mono fun v H' h => h.2
end Go.Proofs.Ytgkkilbeingleaa

namespace Go.Proofs.Ytgkkilbeingleaa.machineThrough
open Go.ChangeShapes Go.WideShapes Go.ChangeAt Go.RowKit
open Go.ChangeMaps (open_string shut_string)

set_option maxRecDepth 100000 in
theorem contract (H : Type) (enc : TypeId × Value → H) (W : World) (base : Nat) (args : Array Value) (ds gs : List (DataW H)) (before : List MemPlace)
    (hval : ∀ (j : Nat) t v, Try.f4.params[j]? = some t → args[j]? = some v → Value.okWide Try.prog W .any base t v)
    (hW : DataW.Whole enc Try.prog Try.f4.params.toList Rows.machineThroughSpec.vars false W args.toList ds gs before) :
    Calls Try.prog 4 args W fun e W' => ∃ v, e = .returned v ∧ Rows.machineThroughSpec.post enc Try.prog Try.f4 false true false false W args v W' := by
  have hW' := hW
  obtain ⟨p, q, hA0, hV, rfl, hfz, hnd⟩ := hW
  have hA : DataW.TrodAll enc Try.prog W 0 (fun _ => true) true Try.f4.params.toList args.toList ds p := hA0
  rw [Try.params4] at hA hval
  obtain ⟨v0, v1, v2, v3, d0, d1, d2, d3, p0, p1, p2, p3, rfl, rfl, rfl, h0, h1, h2, h3⟩ := trodAll_four hA
  obtain ⟨rfl, rfl⟩ := trodVars_none hV
  obtain ⟨cs0, x0, rfl, hs0, hb0⟩ := arg_struct opens_mac Try.underlying25 (hval 0 25 v0 rfl rfl) h0
  obtain ⟨cs1, x1, rfl, hs1, hb1⟩ := arg_struct opens_mac Try.underlying25 (hval 1 25 v1 rfl rfl) h1
  obtain ⟨A2, c2, x2, rfl, hs2, hb2⟩ := arg_slice opens_nums Try.underlying26 (hval 2 26 v2 rfl rfl) h2
  obtain ⟨A3, c3, x3, rfl, hs3, hb3⟩ := arg_slice opens_nums Try.underlying26 (hval 3 26 v3 rfl rfl) h3
  obtain ⟨k0, r0⟩ := (avs_mac).agg (σ' := fun _ => none) hs0
  obtain ⟨k1, r1⟩ := (avs_mac).agg (σ' := fun _ => none) hs1
  obtain ⟨k2, r2⟩ := (avs_int).sl (by decide) (σ' := fun _ => none) hs2
  obtain ⟨k3, r3⟩ := (avs_int).sl (by decide) (σ' := fun _ => none) hs3
  refine (law_calls (us := [.agg cs0, .agg cs1, .slice A2 x2.length c2, .slice A3 x3.length c3]) (law_pf (w_MachineThrough (toM x0) (toM x1) (x2.map id) (x3.map id) fun fa fb => throughC fa fb)) (.cons r0 (.cons r1 (.cons r2 (.cons r3 .nil))))).mono fun e W' ⟨he, hg⟩ => ?_
  subst he
  exact ⟨_, rfl, post_true rfl Try.underlying4 rfl laidOut (by kernel_rfl) hW' rfl hg⟩

set_option maxRecDepth 100000 in
theorem lifted (os : Os) (started : os.Started) (H : Type) (enc : TypeId × Value → H) :
    ReturnsInHanded {} Try.checked os 4 .any (Rows.machineThroughSpec.pre6 enc Try.prog Try.f4 Rows.machineThroughRow.domain false) (Rows.machineThroughSpec.post enc Try.prog Try.f4 false true false false) := by
  refine returnsInHanded_of_change (C := Try.checked) own started (by kernel_rfl) Try.func4
    (ChangeSpec.witness6 (enc := enc) (C := Try.checked) false ⟨#[], #[.agg #[.int .i64 0,.slice none 0 0,.slice none 0 0], .agg #[.int .i64 0,.slice none 0 0,.slice none 0 0], .slice none 0 0, .slice none 0 0], []⟩ 8 (by kernel_rfl) (by kernel_rfl) (by kernel_rfl) (by kernel_rfl)) ?_
  intro W base args ds gs before hval hW _ _
  exact contract H enc W base args ds gs before hval hW

theorem proved : Rows.MachineThroughSaid :=
  OpenClaim.holds_of_wide 4 Try.f4 rfl rfl rfl rfl rfl rfl rfl ⟨rfl, rfl, rfl, rfl, rfl⟩ rfl rfl rfl rfl rfl (by kernel_rfl) Try.func4 (by kernel_rfl)
    (of_decide_eq_true (by kernel_rfl)) (by unfold Func.isWrapper; first | (rw [if_pos (by decide +kernel)]; kernel_rfl) | (rw [if_neg (by decide +kernel)]; exact ⟨rfl, rfl⟩))
    (fun os started H enc _ => lifted os started H enc)
end Go.Proofs.Ytgkkilbeingleaa.machineThrough
