/- Texts that the proof rests on, part 13: what each holds stands at its head. -/
import Derived.Test.YtpmnlikgldacaaaSv12

/- The prover's search. -/
namespace Go.Proofs.Ytpmnlikgldacaaa
open Go.RowKit Go.Maps
theorem rt_leaf {H H1 : AH} {m : Nat} {o : AO} {xs : List AV} {ok : AV} {Q : AV → AH → Prop} (hw : WF (H.put m o)) (hle : (H.put m o).le H1) (hn : H.nx ≤ H1.nx) (hc : Clo H.nx xs) (hok : Cl H.nx ok) (hq : Q (.tup [.agg (xs ++ [.dsl 8 []]), ok]) (H.put m o)) : Rt Try.prog H.nx (.tup [.agg (xs ++ [.p (.slice none 0 0)]), ok]) Q H1 := by
  have hxs : ∀ ys : List AV, Subs Try.prog H1 (ys ++ [.p (.slice none 0 0)]) (ys ++ [.dsl 8 []]) := fun ys => by
    induction ys with
    | nil => exact .cons (Sub.nil 8 0 (Nat.zero_le _)) .nil
    | cons y ys ih => exact .cons (.refl _) ih
  refine rt_sub (H0 := H.put m o) hw hle hn (.tup (.cons (.agg (hxs xs)) (.cons (.refl _) .nil))) (.tup (.cons (.agg fun a ha => ?_) (.cons hok .nil))) hq
  rcases List.mem_append.1 ha with ha | ha
  · exact hc a ha
  · simp at ha; subst ha; exact Cl.dsl _ _
/-- a call in a drawn region that gets a row as data and changes one thing that was there -/
theorem cap_frz {P : Program} {V H : AH} {b i m t sz : Nat} {o : AO} {es : List (List AV)} {sl : List Nat} {f : FuncId} {first ps cap : List AV} {r : AV} {k : AV → AH → AH → Prop} (hc : callable P f = true) (hi : i ∈ sl) (hv : V.get i = none) (hg : H.get i = some (.row t sz es)) (hd : DtR es) (hm : m < b)
    (h : ∀ H2, (∀ id, id < b ∨ id ∈ sl → H2.get id = (H.put i (.frz sz es)).get id) → Tri P f (first ++ ps ++ cap) H2 (fun v H' => H' = H2.put m o ∧ v = r)) (hk : k r (V.put m o) ((H.put i (.frz sz es)).put m o)) : CaP P V b sl (.fn (.func f) first cap) ps k H := by
  have he : frzL H [i] = H.put i (.frz sz es) := by simp [frzL, frzE, hg, frzO, apE]
  refine ⟨f, first, cap, r, [i], [(m, o)], rfl, hc, fun j hj => ?_, fun p hp => ?_, by rw [he]; exact h, by rw [he]; exact hk⟩
  · simp at hj; subst hj; exact ⟨hi, hv, by rw [hg]; exact hd⟩
  · simp at hp; subst hp; exact hm
def zero8 : List AV := [.p (.int .i64 0), .p (.slice none 0 0), .p (.int .i64 0), .p (.int .i64 0), .p (.slice none 0 0), .p (.int .i64 0), .p (.int .i64 0), .p (.slice none 0 0)]
def pz (st : Int) (l : List Ty) (g : Ty) (z : AV) : List AV := [.p (.int .i64 st), .dsl 3 (l.map Ty.cs), .p (.int .i64 g.kind), .p (.int .i64 g.num), .dsl 3 (g.kids.map Ty.cs), .p (.int .i64 0), .p (.int .i64 0), z]
/-- where a search begins to work -/
structure SM (H M : AH) (pr m : Nat) (s : Ded) (l : List Ty) (g : Ty) : Prop where
  wf : WF H
  wm : WF M
  ne : pr ≠ m
  pn : pr < H.nx
  mn : m < H.nx
  le : (H.put m (MO s)).le M
  nx : M.nx = H.nx + 8
  gb : M.get H.nx = some (.box 24 g.cs)
  zb : M.get (H.nx + 1) = some (.box 27 zero8)
  pb : M.get (H.nx + 3 + 3) = some (.box 27 (pz 0 l g (.p (.slice none 0 0))))
  pr_ : M.get pr = some (.box 63 [.mp m])
  mo : M.get m = some (MO s)
set_option maxHeartbeats 4000000 in
theorem search_o {N : Nat} (hP : PrC N) {H M : AH} {pr m : Nat} {s : Ded} {l : List Ty} {x y : Ty} (h : SM H M pr m s l (Ty.o x y)) (hl : Goods l) (hx : Good x) (hy : Good y) (hN : Ty.sls l + (y.sl + x.sl) < N) (hK : l.length + 1 + (Ty.sls l + (y.sl + x.sl)) ≤ 16) (hs : Snd s) (hc : s.length + cost (Ty.sls l + (y.sl + x.sl)) ≤ 9000000000000000000) :
    S_prover_search_C1 (.ptr pr 0) (.dsl 3 (l.map Ty.cs)) (fun r H' => H' = H.put m (MO (proofF N (l ++ [y]) x s).2.2) ∧ r = .tup [Pf.av ⟨2, l, Ty.o x y, 0, 0, [(proofF N (l ++ [y]) x s).1]⟩, bv (proofF N (l ++ [y]) x s).2.1]) H (.ptr H.nx 0) (.ptr (H.nx + 1) 0) (.ptr (H.nx + 3 + 3) 0) M := by
  have hml : maxLen = 9223372036854775807 := by decide
  obtain ⟨hw, hwm, hpm, hpn, hmn, hMl, hMn, hgb, hzb, hpb, hprb, hmo⟩ := h
  have hwM : ∀ s, WF (H.put m (MO s)) := fun s => hw.put hmn (MO_cl s _)
  unfold S_prover_search_C1
  simp (disch := first | omega | simp) []
  refine car_of 24 3 (l.map Ty.cs) (by kernel_rfl) (ty_len _) (fun H2 _ => c_CloneP l (by omega)) ?_
  simp (disch := first | omega | simp) [iv, Ty.cs_len, Ty.cs_take, hgb, Ty.cs_o]
  have hlen : ∀ z : Ty, l.length + [z.cs].length = (l ++ [z]).length := fun z => by simp
  refine wrf_row rfl (wf_none hwm (by first | omega | (simp only [up_nx, put_nx, kill_nx]; done) | (simp only [up_nx, put_nx, kill_nx]; omega))) (es := l.map Ty.cs) (by simp (disch := first | omega | simp) [put_get_ne]) (by simp) (elF_whole (t := 24) (es := [y.cs]) rfl (by simp (disch := first | omega | simp)) rfl) (by simp; omega) (by simp; omega) ?_
  have hes : ((l.map Ty.cs).drop 0).take l.length ++ [y.cs] = (l ++ [y]).map Ty.cs := by rw [List.drop_zero, List.take_of_length_le (by simp), List.map_append]; rfl
  rw [hlen, hes]
  simp (disch := first | omega | simp) [iv, Ty.cs_len, Ty.cs_take, hgb, Ty.cs_o]
  have hly : Goods (l ++ [y]) := hl.app (.cons hy .nil)
  have hsl : Ty.sls (l ++ [y]) + x.sl = Ty.sls l + (y.sl + x.sl) := by rw [Ty.sls_app, Ty.sls_cons, Ty.sls_nil]; omega
  have hll : (l ++ [y]).length = l.length + 1 := by simp
  generalize hR : proofF N (l ++ [y]) x s = R
  obtain ⟨R1, Rok, Rs⟩ := R
  refine cap_frz (i := M.nx + 8) (m := m) (t := 24) (sz := 3) (es := (l ++ [y]).map Ty.cs) (o := MO Rs) (r := .tup [R1.av, bv Rok]) (by kernel_rfl) (by simp) (wf_none hwm (by first | omega | (simp only [up_nx, put_nx, kill_nx]; done) | (simp only [up_nx, put_nx, kill_nx]; omega))) (by simp (disch := first | omega | simp)) (dt_ty _) (by omega) (fun H2 hag => ?_) ?_
  · have hf : H2.get (M.nx + 8) = some (.frz 3 ((l ++ [y]).map Ty.cs)) := by rw [hag _ (.inr (by simp)), put_get]
    have hsub := Sub.frz (P := Try.prog) (off := 0) (n := (l ++ [y]).length) hf (by simp)
    rw [List.drop_zero, List.take_of_length_le (by simp)] at hsub
    have := hP (l ++ [y]) x s pr m H2 hly hx (by omega) (by omega) hs (by rw [hsl]; exact hc) ⟨by rw [hag _ (.inl (by omega))]; simp (disch := first | omega | simp) [put_get_ne, kill_get_ne, hprb], by rw [hag _ (.inl (by omega))]; simp (disch := first | omega | simp) [put_get_ne, kill_get_ne, hmo]⟩
    rw [hR] at this
    rw [List.length_append] at hsub
    exact Tri.args (.cons (.refl _) (.cons hsub (.cons (.refl _) .nil))) this
  simp (disch := first | omega | simp) [Pf.av, bv, Pf.cs_len, put_get_ne]
  refine ⟨wf_none hwm (by first | omega | (simp only [up_nx, put_nx, kill_nx]; done) | (simp only [up_nx, put_nx, kill_nx]; omega)), [H.nx + 3 + 3], ?_⟩
  generalize hX : AH.up _ 6 = X
  have hXl : (H.put m (MO Rs)).le X := by
    have hM2 : (H.put m (MO Rs)).le (M.put m (MO Rs)) := le_rebase hMl
    have h3 : (H.put m (MO Rs)).le X := by
      rw [← hX]
      refine AH.le.up (AH.le.put (hwM _) (by first | omega | (simp only [put_nx]; done) | (simp only [put_nx]; omega)) (AH.le.put (hwM _) (by first | omega | (simp only [put_nx]; done) | (simp only [put_nx]; omega)) (le_rebase (a := MO s) ?_)))
      exact (by repeat (first | with_reducible assumption | with_reducible apply AH.le.up | (with_reducible refine AH.le.put (hwM _) ?_ ?_; · first | omega | (simp only [put_nx]; done) | (simp only [put_nx]; omega)) | (with_reducible refine AH.le.kill (hwM _) ?_ ?_; · first | omega | (simp only [put_nx]; done) | (simp only [put_nx]; omega)) | with_reducible refine le_base ?_ | (with_reducible refine AH.le.put hw ?_ ?_; · first | omega | (simp only [up_nx, put_nx, kill_nx]; done) | (simp only [up_nx, put_nx, kill_nx]; omega)) | with_reducible exact AH.le.refl _))
    exact h3
  have hXn : X.nx = H.nx + 34 := by rw [← hX]; simp only [up_nx, put_nx, kill_nx]; omega
  have hX6 : X.get (H.nx + 3 + 3) = some (.box 27 (pz 0 l (Ty.o x y) (.p (.slice none 0 0)))) := by rw [← hX]; simp (disch := first | omega | simp) [put_get_ne, kill_get_ne, hpb]
  have hX1 : X.get (H.nx + 1) = some (.box 27 zero8) := by rw [← hX]; simp (disch := first | omega | simp) [put_get_ne, kill_get_ne, hzb]
  have hX17 : X.get (M.nx + 17) = some (.box 27 R1.cs) := by rw [← hX]; simp (disch := first | omega | simp)
  clear hX
  rw [hMn] at hX17 ⊢
  unfold pz at hX6
  unfold zero8 at hX1
  simp (disch := first | omega | simp) [del_get_ne, hX17, Pf.cs_len, Pf.cs_take]
  refine wro_st (t := 27) (by omega) (by simp) (by simp (disch := first | omega | simp) [put_get_ne, hX6]; rfl) rfl (by simp) (by simp) ?_
  simp (disch := first | omega | simp) [put_get_ne, hX1]
  exact rt_kids (r := H.nx + 8 + 20 + 1) (es := [R1]) (xs := [iv 2, .dsl 3 (l.map Ty.cs), iv (Ty.o x y).kind, iv (Ty.o x y).num, .dsl 3 ((Ty.o x y).kids.map Ty.cs), iv 0, iv 0]) (hwM Rs) (by repeat (first | with_reducible assumption | with_reducible apply AH.le.up | (with_reducible refine AH.le.put (hwM _) ?_ ?_; · first | omega | (simp only [put_nx]; done) | (simp only [put_nx]; omega)) | (with_reducible refine AH.le.kill (hwM _) ?_ ?_; · first | omega | (simp only [up_nx, put_nx, kill_nx]; done) | (simp only [up_nx, put_nx, kill_nx]; omega)) | with_reducible refine le_base ?_ | (with_reducible refine AH.le.put hw ?_ ?_; · first | omega | (simp only [up_nx, put_nx, kill_nx]; done) | (simp only [up_nx, put_nx, kill_nx]; omega)) | with_reducible exact AH.le.refl _)) (by first | omega | (simp only [up_nx, put_nx]; done) | (simp only [up_nx, put_nx]; omega)) (by omega) (by simp (disch := first | omega | simp) [put_get_ne]) rfl (by repeat (first | exact Cl.p _ | exact Cl.dsl _ _ | exact Cl.any | refine Cl.tup ?_ | refine Cl.agg ?_ | exact Clo.nil | refine Clo.cons ?_ ?_)) (Cl.p _) ⟨rfl, by rw [Pf.cs_eq]; rfl⟩
set_option maxHeartbeats 4000000 in
theorem search_u {N : Nat} (hP : PrC N) {H M : AH} {pr m : Nat} {s : Ded} {l : List Ty} {x y : Ty} (h : SM H M pr m s l (Ty.u y x)) (hl : Goods l) (hx : Good x) (hy : Good y) (hN : Ty.sls l + (y.sl + x.sl) < N) (hK : l.length + 1 + (Ty.sls l + (y.sl + x.sl)) ≤ 16) (hs : Snd s) (hc : s.length + cost (Ty.sls l + (y.sl + x.sl)) ≤ 9000000000000000000) :
    S_prover_search_C2 (.ptr pr 0) (.dsl 3 (l.map Ty.cs)) (fun r H' => H' = H.put m (MO (proofF N (y :: l) x s).2.2) ∧ r = .tup [Pf.av ⟨3, l, Ty.u y x, 0, 0, [(proofF N (y :: l) x s).1]⟩, bv (proofF N (y :: l) x s).2.1]) H (.ptr H.nx 0) (.ptr (H.nx + 1) 0) (.ptr (H.nx + 3 + 3) 0) M := by
  have hml : maxLen = 9223372036854775807 := by decide
  obtain ⟨hw, hwm, hpm, hpn, hmn, hMl, hMn, hgb, hzb, hpb, hprb, hmo⟩ := h
  have hwM : ∀ s, WF (H.put m (MO s)) := fun s => hw.put hmn (MO_cl s _)
  unfold S_prover_search_C2
  simp (disch := first | omega | simp) []
  simp (disch := first | omega | simp) [iv, Ty.cs_len, Ty.cs_take, hgb, Ty.cs_u]
  refine wrf_row rfl (wf_none hwm (by first | omega | (simp only [up_nx, put_nx, kill_nx]; done) | (simp only [up_nx, put_nx, kill_nx]; omega))) (es := [y.cs]) (by simp (disch := first | omega | simp)) (by simp) (.old _ _ (.dsl _)) (by simp; omega) (by simp; omega) ?_
  have hes : (List.drop 0 [y.cs]).take 1 ++ l.map Ty.cs = (y :: l).map Ty.cs := rfl
  have hlen : 1 + (l.map Ty.cs).length = (y :: l).length := by simp; omega
  rw [hlen, hes]
  simp (disch := first | omega | simp) [iv, Ty.cs_len, Ty.cs_take, hgb, Ty.cs_u]
  have hly : Goods (y :: l) := .cons hy hl
  have hsl : Ty.sls (y :: l) + x.sl = Ty.sls l + (y.sl + x.sl) := by rw [Ty.sls_cons]; omega
  have hll : (y :: l).length = l.length + 1 := by simp
  generalize hR : proofF N (y :: l) x s = R
  obtain ⟨R1, Rok, Rs⟩ := R
  refine cap_frz (i := M.nx + 7) (m := m) (t := 24) (sz := 3) (es := (y :: l).map Ty.cs) (o := MO Rs) (r := .tup [R1.av, bv Rok]) (by kernel_rfl) (by simp) (wf_none hwm (by first | omega | (simp only [up_nx, put_nx, kill_nx]; done) | (simp only [up_nx, put_nx, kill_nx]; omega))) (by simp (disch := first | omega | simp)) (dt_ty _) (by omega) (fun H2 hag => ?_) ?_
  · have hf : H2.get (M.nx + 7) = some (.frz 3 ((y :: l).map Ty.cs)) := by rw [hag _ (.inr (by simp)), put_get]
    have hsub := Sub.frz (P := Try.prog) (off := 0) (n := (y :: l).length) hf (by simp)
    rw [List.drop_zero, List.take_of_length_le (by simp)] at hsub
    have := hP (y :: l) x s pr m H2 hly hx (by omega) (by omega) hs (by rw [hsl]; exact hc) ⟨by rw [hag _ (.inl (by omega))]; simp (disch := first | omega | simp) [put_get_ne, kill_get_ne, hprb], by rw [hag _ (.inl (by omega))]; simp (disch := first | omega | simp) [put_get_ne, kill_get_ne, hmo]⟩
    rw [hR] at this
    rw [List.length_cons] at hsub
    exact Tri.args (.cons (.refl _) (.cons hsub (.cons (.refl _) .nil))) this
  simp (disch := first | omega | simp) [Pf.av, bv, Pf.cs_len, put_get_ne]
  refine ⟨wf_none hwm (by first | omega | (simp only [up_nx, put_nx, kill_nx]; done) | (simp only [up_nx, put_nx, kill_nx]; omega)), [H.nx + 3 + 3], ?_⟩
  generalize hX : AH.up _ 6 = X
  have hXl : (H.put m (MO Rs)).le X := by
    have hM2 : (H.put m (MO Rs)).le (M.put m (MO Rs)) := le_rebase hMl
    have h3 : (H.put m (MO Rs)).le X := by
      rw [← hX]
      refine AH.le.up (AH.le.put (hwM _) (by first | omega | (simp only [put_nx]; done) | (simp only [put_nx]; omega)) (AH.le.put (hwM _) (by first | omega | (simp only [put_nx]; done) | (simp only [put_nx]; omega)) (le_rebase (a := MO s) ?_)))
      exact (by repeat (first | with_reducible assumption | with_reducible apply AH.le.up | (with_reducible refine AH.le.put (hwM _) ?_ ?_; · first | omega | (simp only [put_nx]; done) | (simp only [put_nx]; omega)) | (with_reducible refine AH.le.kill (hwM _) ?_ ?_; · first | omega | (simp only [put_nx]; done) | (simp only [put_nx]; omega)) | with_reducible refine le_base ?_ | (with_reducible refine AH.le.put hw ?_ ?_; · first | omega | (simp only [up_nx, put_nx, kill_nx]; done) | (simp only [up_nx, put_nx, kill_nx]; omega)) | with_reducible exact AH.le.refl _))
    exact h3
  have hXn : X.nx = H.nx + 33 := by rw [← hX]; simp only [up_nx, put_nx, kill_nx]; omega
  have hX6 : X.get (H.nx + 3 + 3) = some (.box 27 (pz 0 l (Ty.u y x) (.p (.slice none 0 0)))) := by rw [← hX]; simp (disch := first | omega | simp) [put_get_ne, kill_get_ne, hpb]
  have hX1 : X.get (H.nx + 1) = some (.box 27 zero8) := by rw [← hX]; simp (disch := first | omega | simp) [put_get_ne, kill_get_ne, hzb]
  have hX16 : X.get (M.nx + 16) = some (.box 27 R1.cs) := by rw [← hX]; simp (disch := first | omega | simp)
  clear hX
  rw [hMn] at hX16 ⊢
  unfold pz at hX6
  unfold zero8 at hX1
  simp (disch := first | omega | simp) [del_get_ne, hX16, Pf.cs_len, Pf.cs_take]
  refine wro_st (t := 27) (by omega) (by simp) (by simp (disch := first | omega | simp) [put_get_ne, hX6]; rfl) rfl (by simp) (by simp) ?_
  simp (disch := first | omega | simp) [put_get_ne, hX1]
  exact rt_kids (r := H.nx + 8 + 19 + 1) (es := [R1]) (xs := [iv 3, .dsl 3 (l.map Ty.cs), iv (Ty.u y x).kind, iv (Ty.u y x).num, .dsl 3 ((Ty.u y x).kids.map Ty.cs), iv 0, iv 0]) (hwM Rs) (by repeat (first | with_reducible assumption | with_reducible apply AH.le.up | (with_reducible refine AH.le.put (hwM _) ?_ ?_; · first | omega | (simp only [put_nx]; done) | (simp only [put_nx]; omega)) | (with_reducible refine AH.le.kill (hwM _) ?_ ?_; · first | omega | (simp only [up_nx, put_nx, kill_nx]; done) | (simp only [up_nx, put_nx, kill_nx]; omega)) | with_reducible refine le_base ?_ | (with_reducible refine AH.le.put hw ?_ ?_; · first | omega | (simp only [up_nx, put_nx, kill_nx]; done) | (simp only [up_nx, put_nx, kill_nx]; omega)) | with_reducible exact AH.le.refl _)) (by first | omega | (simp only [up_nx, put_nx]; done) | (simp only [up_nx, put_nx]; omega)) (by omega) (by simp (disch := first | omega | simp) [put_get_ne]) rfl (by repeat (first | exact Cl.p _ | exact Cl.dsl _ _ | exact Cl.any | refine Cl.tup ?_ | refine Cl.agg ?_ | exact Clo.nil | refine Clo.cons ?_ ?_)) (Cl.p _) ⟨rfl, by rw [Pf.cs_eq]; rfl⟩
end Go.Proofs.Ytpmnlikgldacaaa

/- The prover's search among the parts on the left. -/
namespace Go.Proofs.Ytpmnlikgldacaaa
open Go.RowKit Go.Maps
theorem both_spec {N : Nat} (p : Pf) (d : List Ty) (x : Ty) (rest : List Ty) (s : Ded) (hd : Goods d) (hx : Good x) (hr : Goods rest) (hg : Good p.goal) (h1 : Ty.sls d + x.sl < N) (h2 : Ty.sls rest + p.goal.sl < N) (h3 : d.length + (Ty.sls d + x.sl) ≤ 16) (h4 : rest.length + (Ty.sls rest + p.goal.sl) ≤ 16) (hs : Snd s) :
    Snd (both (proofF N) p d x rest s).2.2 ∧ (both (proofF N) p d x rest s).2.2.length ≤ s.length + cost (Ty.sls d + x.sl) + cost (Ty.sls rest + p.goal.sl) ∧ (both (proofF N) p d x rest s).1.left = p.left ∧ (both (proofF N) p d x rest s).1.goal = p.goal := by
  obtain ⟨t1, t2, t3, t4⟩ := proofF_spec N d x s hd hx h1 h3 hs
  unfold both
  generalize proofF N d x s = a at *
  obtain ⟨a1, aok, sa⟩ := a
  dsimp only at t1 t2 t3 t4 ⊢
  cases aok with
  | false => exact ⟨t2, by show sa.length ≤ _; omega, rfl, rfl⟩
  | true =>
    obtain ⟨u1, u2, u3, u4⟩ := proofF_spec N rest p.goal sa hr hg h2 h4 t2
    exact ⟨u2, by show (proofF N rest p.goal sa).2.2.length ≤ _; omega, rfl, rfl⟩
/-- while parts on the left are tried -/
structure LM (H M : AH) (pr m : Nat) (s : Ded) (l : List Ty) (g : Ty) (b : Nat) (f : Ty) : Prop where
  wf : WF H
  ne : pr ≠ m
  pn : pr < H.nx
  mn : m < H.nx
  le : (H.put m (MO s)).le M
  nx : H.nx + 8 ≤ M.nx
  zb : M.get (H.nx + 1) = some (.box 27 zero8)
  pb : M.get (H.nx + 3 + 3) = some (.box 27 (pz 0 l g (.p (.slice none 0 0))))
  pr_ : M.get pr = some (.box 63 [.mp m])
  mo : M.get m = some (MO s)
  bn : H.nx + 8 ≤ b
  fb : M.get b = some (.box 24 f.cs)
theorem three_parts {H : AH} {r : Nat} {a b c : List Ty} (h : H.get r = some (.row 22 1 [[.dsl 3 (a.map Ty.cs)], [.dsl 3 (b.map Ty.cs)], [.dsl 3 (c.map Ty.cs)]])) : PartsAt H (.osl r 1 0 3) [a, b, c] := by
  refine ⟨[.dsl 3 (a.map Ty.cs), .dsl 3 (b.map Ty.cs), .dsl 3 (c.map Ty.cs)], by simp [h], rfl, fun i r hr => ?_⟩
  match i with
  | 0 => simp at hr; subst hr; exact ⟨_, rfl, by simp⟩
  | 1 => simp at hr; subst hr; exact ⟨_, rfl, by simp⟩
  | 2 => simp at hr; subst hr; exact ⟨_, rfl, by simp⟩
  | i + 3 => simp at hr
def pB (l : List Ty) (g : Ty) : Pf := ⟨0, l, g, 0, 0, []⟩
theorem sub_pz {H : AH} (l : List Ty) (g : Ty) : Sub Try.prog H (.agg (pz 0 l g (.p (.slice none 0 0)))) (pB l g).av := by
  unfold Pf.av pz
  rw [Pf.cs_eq]
  exact .agg (.cons (.refl _) (.cons (.refl _) (.cons (.refl _) (.cons (.refl _) (.cons (.refl _) (.cons (.refl _) (.cons (.refl _) (.cons (Sub.nil 8 0 (Nat.zero_le _)) .nil))))))))
set_option maxHeartbeats 4000000 in
theorem body_o {N : Nat} (hP : PrC N) {H M : AH} {pr m b i to : Nat} {s : Ded} {l : List Ty} {g x y : Ty} {Q : AV → AH → Prop} {k : List AV → AH → Prop} (h : LM H M pr m s l g b (Ty.o x y)) (hwm : WF M) (hg : Good g) (hci : CandIn l (candO l i (Ty.o x y) to)) (hi : i + 2 ≤ to) (hto : to ≤ l.length) (hll : l.length ≤ 16) (hN : Ty.sls l + g.sl ≤ N) (hK : l.length + (Ty.sls l + g.sl) ≤ 16)
    (hs : Snd s) (hc : s.length + (cost (Ty.sls l + g.sl - 1) + 1) ≤ 9000000000000000000)
    (hq : ∀ r, both (proofF N) (pB l g) (candO l i (Ty.o x y) to).d (candO l i (Ty.o x y) to).x (candO l i (Ty.o x y) to).rest s = r → r.2.1 = true → Q (.tup [Pf.av ⟨4, r.1.left, r.1.goal, (candO l i (Ty.o x y) to).at_, (candO l i (Ty.o x y) to).num, r.1.kids⟩, bv true]) (H.put m (MO r.2.2)))
    (hk : ∀ r M2, both (proofF N) (pB l g) (candO l i (Ty.o x y) to).d (candO l i (Ty.o x y) to).x (candO l i (Ty.o x y) to).rest s = r → r.2.1 = false → LM H M2 pr m r.2.2 l g b (Ty.o x y) → M.nx ≤ M2.nx → k [iv ((to + 1 : Nat) : Int)] M2) :
    S_prover_search_C3 (.ptr pr 0) (.dsl 3 (l.map Ty.cs)) Q H (.ptr (H.nx + 1) 0) (.ptr (H.nx + 3 + 3) 0) [iv i] (.ptr b 0) k [iv to] M := by
  have hml : maxLen = 9223372036854775807 := by decide
  obtain ⟨hw, hpm, hpn, hmn, hMl, hMn, hzb, hpb, hprb, hmo, hbn, hfb⟩ := h
  have hwM : ∀ s, WF (H.put m (MO s)) := fun s => hw.put hmn (MO_cl s _)
  have hbm := (hwm _ _ hfb).1
  have hiv := ivn (i := i) (by omega)
  have htv := ivn (i := to) (by omega)
  have h1 : (0 : Int) ≤ (i : Int) + 1 := by omega
  have h2 : (i : Int) + 1 ≤ to := by omega
  have h3 : ((i : Int) + 1).toNat = i + 1 := by omega
  have h4 : i ≤ l.length := by omega
  unfold S_prover_search_C3
  simp (disch := first | omega | simp) [iv, hiv, h1, h2, h3, h4, hto, hfb, Ty.cs_o]
  simp only [← List.map_take, ← List.map_drop]
  have hfl : [l.take i, [x], l.drop to].flatten = (candO l i (Ty.o x y) to).rest := by simp [candO, Ty.o]
  have hdl : (l.drop (i + 1)).take (to - (i + 1)) = (candO l i (Ty.o x y) to).d := rfl
  have hcx : (candO l i (Ty.o x y) to).x = y := rfl
  have hnum : (candO l i (Ty.o x y) to).num = ((to - (i + 1) : Nat) : Int) := rfl
  have hat : (candO l i (Ty.o x y) to).at_ = ((i + 1 : Nat) : Int) := rfl
  have hdlen : (candO l i (Ty.o x y) to).d.length = to - (i + 1) := by rw [← hdl, List.length_take, List.length_drop]; omega
  have hrl := hci.len
  refine can_pure (by kernel_rfl) (fun H2 hle => c_Concat [l.take i, [x], l.drop to] (three_parts (hle _ _ (by simp (disch := first | omega | simp)))) (by rw [hfl]; omega) (by simp)) ?_
  rw [hfl, hdl]
  obtain ⟨c1, c2, c3, c4, c5, _, _⟩ := hci
  generalize (candO l i (Ty.o x y) to) = c at *
  subst hcx
  unfold tE
  simp (disch := first | omega | simp) [iv, hfb, Ty.cs_len, Ty.cs_take, put_get_ne, Ty.cs_o, hpb, pz]
  have hca := cost_add (Ty.sls c.d + c.x.sl) (Ty.sls c.rest + g.sl)
  rw [show Ty.sls c.d + c.x.sl + (Ty.sls c.rest + g.sl) = Ty.sls l + g.sl - 1 by omega] at hca
  have hb := c_both hP (pB l g) c.d c.x c.rest s pr m
  have hbs := both_spec (N := N) (pB l g) c.d c.x c.rest s c1 c2 c3 hg (by omega) (by show Ty.sls c.rest + g.sl < N; omega) (by omega) (by show c.rest.length + (Ty.sls c.rest + g.sl) ≤ 16; omega) hs
  generalize hR : both (proofF N) (pB l g) c.d c.x c.rest s = R at *
  obtain ⟨R1, Rok, Rs⟩ := R
  dsimp only at hbs hb
  refine cap_one (i := m) (o := MO Rs) (r := .tup [R1.av, bv Rok]) (by kernel_rfl) (by omega) (fun H2 hag => ?_) ?_
  · have hp2 : H2.get pr = some (.box 63 [.mp m]) := by rw [hag _ (by omega)]; simp (disch := first | omega | simp) [put_get_ne, hprb]
    have hm2 : H2.get m = some (MO s) := by rw [hag _ (by omega)]; simp (disch := first | omega | simp) [put_get_ne, hmo]
    exact Tri.args (.cons (.refl _) (.cons (sub_pz l g) (.cons (.refl _) (.cons (.refl _) (.cons (.refl _) .nil))))) (hb H2 c1 c2 c3 hg (by omega) (by show Ty.sls c.rest + g.sl < N; omega) (by omega) (by show c.rest.length + (Ty.sls c.rest + g.sl) ≤ 16; omega) hs (by show s.length + cost (Ty.sls c.d + c.x.sl) + cost (Ty.sls c.rest + g.sl) ≤ _; omega) ⟨hp2, hm2⟩)
  have hMs : (H.put m (MO Rs)).le ((((M.up 18).put (M.nx + 14) (.row 22 1 [[.dsl 3 (List.take i (l.map Ty.cs))], [.dsl 3 [x.cs]], [.dsl 3 (List.drop to (l.map Ty.cs))]])).up 15).put m (MO Rs)) := le_rebase (a := MO s) (by repeat (first | with_reducible assumption | with_reducible apply AH.le.up | (with_reducible refine AH.le.put (hwM _) ?_ ?_; · first | omega | (simp only [put_nx]; done) | (simp only [put_nx]; omega)) | (with_reducible refine AH.le.kill (hwM _) ?_ ?_; · first | omega | (simp only [up_nx, put_nx, kill_nx]; done) | (simp only [up_nx, put_nx, kill_nx]; omega)) | with_reducible refine le_base ?_ | (with_reducible refine AH.le.put hw ?_ ?_; · first | omega | (simp only [up_nx, put_nx, kill_nx]; done) | (simp only [up_nx, put_nx, kill_nx]; omega)) | with_reducible exact AH.le.refl _))
  have hiv' : IntKind.i64.wrap ((i : Int) + 1) = c.at_ := by rw [hiv, hat]
  have hfr : ∀ j, M.nx ≤ j → M.get j = none := fun j hj => wf_none hwm hj
  cases Rok with
  | true =>
    have hq := hq _ rfl rfl
    dsimp only at hq
    unfold Pf.av at hq ⊢
    rw [Pf.cs_eq] at hq ⊢
    simp (disch := first | omega | simp) [bv, put_get_ne, hfr, hzb, zero8, hiv']
    refine rt_tupP (hwM Rs) ?_ (.cons (.agg (by repeat (first | exact Cl.p _ | exact Cl.dsl _ _ | exact Cl.any | refine Cl.tup ?_ | refine Cl.agg ?_ | exact Clo.nil | refine Clo.cons ?_ ?_))) (.cons (Cl.p _) .nil)) ?_
    · exact (by repeat (first | with_reducible assumption | with_reducible apply AH.le.up | (with_reducible refine AH.le.put (hwM _) ?_ ?_; · first | omega | (simp only [put_nx]; done) | (simp only [put_nx]; omega)) | (with_reducible refine AH.le.kill (hwM _) ?_ ?_; · first | omega | (simp only [up_nx, put_nx, kill_nx]; done) | (simp only [up_nx, put_nx, kill_nx]; omega)) | with_reducible refine le_base ?_ | (with_reducible refine AH.le.put hw ?_ ?_; · first | omega | (simp only [up_nx, put_nx, kill_nx]; done) | (simp only [up_nx, put_nx, kill_nx]; omega)) | with_reducible exact AH.le.refl _))
    · rw [hdlen]; rw [hnum] at hq; exact hq
  | false =>
    simp (disch := first | omega | simp) [Pf.av, bv, Pf.cs_len, put_get_ne, hfr, htv]
    refine hk _ _ rfl rfl ⟨hw, hpm, hpn, hmn, (by repeat (first | with_reducible assumption | with_reducible apply AH.le.up | (with_reducible refine AH.le.put (hwM _) ?_ ?_; · first | omega | (simp only [put_nx]; done) | (simp only [put_nx]; omega)) | (with_reducible refine AH.le.kill (hwM _) ?_ ?_; · first | omega | (simp only [up_nx, put_nx, kill_nx]; done) | (simp only [up_nx, put_nx, kill_nx]; omega)) | with_reducible refine le_base ?_ | (with_reducible refine AH.le.put hw ?_ ?_; · first | omega | (simp only [up_nx, put_nx, kill_nx]; done) | (simp only [up_nx, put_nx, kill_nx]; omega)) | with_reducible exact AH.le.refl _)), by simp only [put_nx, up_nx]; omega, ?_, ?_, ?_, ?_, hbn, ?_⟩ (by simp only [put_nx, up_nx]; omega)
    all_goals simp (disch := first | omega | simp) [put_get_ne, hzb, hpb, hprb, hfb]
set_option maxHeartbeats 4000000 in
theorem body_u {N : Nat} (hP : PrC N) {H M : AH} {pr m b i to : Nat} {s : Ded} {l : List Ty} {g x y : Ty} {Q : AV → AH → Prop} {k : List AV → AH → Prop} (h : LM H M pr m s l g b (Ty.u x y)) (hwm : WF M) (hg : Good g) (hci : CandIn l (candU l i (Ty.u x y) to)) (hi : to < i) (hto : i < l.length) (hll : l.length ≤ 16) (hN : Ty.sls l + g.sl ≤ N) (hK : l.length + (Ty.sls l + g.sl) ≤ 16)
    (hs : Snd s) (hc : s.length + (cost (Ty.sls l + g.sl - 1) + 1) ≤ 9000000000000000000)
    (hq : ∀ r, both (proofF N) (pB l g) (candU l i (Ty.u x y) to).d (candU l i (Ty.u x y) to).x (candU l i (Ty.u x y) to).rest s = r → r.2.1 = true → Q (.tup [Pf.av ⟨5, r.1.left, r.1.goal, (candU l i (Ty.u x y) to).at_, (candU l i (Ty.u x y) to).num, r.1.kids⟩, bv true]) (H.put m (MO r.2.2)))
    (hk : ∀ r M2, both (proofF N) (pB l g) (candU l i (Ty.u x y) to).d (candU l i (Ty.u x y) to).x (candU l i (Ty.u x y) to).rest s = r → r.2.1 = false → LM H M2 pr m r.2.2 l g b (Ty.u x y) → M.nx ≤ M2.nx → k [iv ((to + 1 : Nat) : Int)] M2) :
    S_prover_search_C5 (.ptr pr 0) (.dsl 3 (l.map Ty.cs)) Q H (.ptr (H.nx + 1) 0) (.ptr (H.nx + 3 + 3) 0) [iv i] (.ptr b 0) k [iv to] M := by
  have hml : maxLen = 9223372036854775807 := by decide
  obtain ⟨hw, hpm, hpn, hmn, hMl, hMn, hzb, hpb, hprb, hmo, hbn, hfb⟩ := h
  have hwM : ∀ s, WF (H.put m (MO s)) := fun s => hw.put hmn (MO_cl s _)
  have hbm := (hwm _ _ hfb).1
  have hiv := ivn (i := i) (by omega)
  have htv := ivn (i := to) (by omega)
  have h1 : (0 : Int) ≤ (i : Int) + 1 := by omega
  have h2 : (to : Int) ≤ i := by omega
  have h5 : (i : Int) ≤ l.length := by omega
  have h6 : (i : Int) + 1 ≤ l.length := by omega
  have h3 : ((i : Int) + 1).toNat = i + 1 := by omega
  have h4 : to ≤ l.length := by omega
  unfold S_prover_search_C5
  simp (disch := first | omega | simp) [iv, hiv, h1, h2, h3, h4, h5, h6, hfb, Ty.cs_u]
  simp only [← List.map_take, ← List.map_drop]
  have hfl : [l.take to, [y], l.drop (i + 1)].flatten = (candU l i (Ty.u x y) to).rest := by simp [candU, Ty.u]
  have hdl : (l.drop to).take (i - to) = (candU l i (Ty.u x y) to).d := rfl
  have hcx : (candU l i (Ty.u x y) to).x = x := rfl
  have hnum : (candU l i (Ty.u x y) to).num = ((i - to : Nat) : Int) := rfl
  have hat : (candU l i (Ty.u x y) to).at_ = (to : Int) := rfl
  have hdlen : (candU l i (Ty.u x y) to).d.length = i - to := by rw [← hdl, List.length_take, List.length_drop]; omega
  have hrl := hci.len
  refine can_pure (by kernel_rfl) (fun H2 hle => c_Concat [l.take to, [y], l.drop (i + 1)] (three_parts (hle _ _ (by simp (disch := first | omega | simp)))) (by rw [hfl]; omega) (by simp)) ?_
  rw [hfl, hdl]
  obtain ⟨c1, c2, c3, c4, c5, _, _⟩ := hci
  generalize (candU l i (Ty.u x y) to) = c at *
  subst hcx
  unfold tE
  simp (disch := first | omega | simp) [iv, hfb, Ty.cs_len, Ty.cs_take, put_get_ne, Ty.cs_u, hpb, pz]
  have hca := cost_add (Ty.sls c.d + c.x.sl) (Ty.sls c.rest + g.sl)
  rw [show Ty.sls c.d + c.x.sl + (Ty.sls c.rest + g.sl) = Ty.sls l + g.sl - 1 by omega] at hca
  have hb := c_both hP (pB l g) c.d c.x c.rest s pr m
  have hbs := both_spec (N := N) (pB l g) c.d c.x c.rest s c1 c2 c3 hg (by omega) (by show Ty.sls c.rest + g.sl < N; omega) (by omega) (by show c.rest.length + (Ty.sls c.rest + g.sl) ≤ 16; omega) hs
  generalize hR : both (proofF N) (pB l g) c.d c.x c.rest s = R at *
  obtain ⟨R1, Rok, Rs⟩ := R
  dsimp only at hbs hb
  refine cap_one (i := m) (o := MO Rs) (r := .tup [R1.av, bv Rok]) (by kernel_rfl) (by omega) (fun H2 hag => ?_) ?_
  · have hp2 : H2.get pr = some (.box 63 [.mp m]) := by rw [hag _ (by omega)]; simp (disch := first | omega | simp) [put_get_ne, hprb]
    have hm2 : H2.get m = some (MO s) := by rw [hag _ (by omega)]; simp (disch := first | omega | simp) [put_get_ne, hmo]
    exact Tri.args (.cons (.refl _) (.cons (sub_pz l g) (.cons (.refl _) (.cons (.refl _) (.cons (.refl _) .nil))))) (hb H2 c1 c2 c3 hg (by omega) (by show Ty.sls c.rest + g.sl < N; omega) (by omega) (by show c.rest.length + (Ty.sls c.rest + g.sl) ≤ 16; omega) hs (by show s.length + cost (Ty.sls c.d + c.x.sl) + cost (Ty.sls c.rest + g.sl) ≤ _; omega) ⟨hp2, hm2⟩)
  have hMs : (H.put m (MO Rs)).le ((((M.up 18).put (M.nx + 14) (.row 22 1 [[.dsl 3 (List.take to (l.map Ty.cs))], [.dsl 3 [y.cs]], [.dsl 3 (List.drop (i + 1) (l.map Ty.cs))]])).up 15).put m (MO Rs)) := le_rebase (a := MO s) (by repeat (first | with_reducible assumption | with_reducible apply AH.le.up | (with_reducible refine AH.le.put (hwM _) ?_ ?_; · first | omega | (simp only [put_nx]; done) | (simp only [put_nx]; omega)) | (with_reducible refine AH.le.kill (hwM _) ?_ ?_; · first | omega | (simp only [up_nx, put_nx, kill_nx]; done) | (simp only [up_nx, put_nx, kill_nx]; omega)) | with_reducible refine le_base ?_ | (with_reducible refine AH.le.put hw ?_ ?_; · first | omega | (simp only [up_nx, put_nx, kill_nx]; done) | (simp only [up_nx, put_nx, kill_nx]; omega)) | with_reducible exact AH.le.refl _))
  have hfr : ∀ j, M.nx ≤ j → M.get j = none := fun j hj => wf_none hwm hj
  cases Rok with
  | true =>
    have hq := hq _ rfl rfl
    dsimp only at hq
    unfold Pf.av at hq ⊢
    rw [Pf.cs_eq] at hq ⊢
    simp (disch := first | omega | simp) [bv, put_get_ne, hfr, hzb, zero8]
    refine rt_tupP (hwM Rs) ?_ (.cons (.agg (by repeat (first | exact Cl.p _ | exact Cl.dsl _ _ | exact Cl.any | refine Cl.tup ?_ | refine Cl.agg ?_ | exact Clo.nil | refine Clo.cons ?_ ?_))) (.cons (Cl.p _) .nil)) ?_
    · exact (by repeat (first | with_reducible assumption | with_reducible apply AH.le.up | (with_reducible refine AH.le.put (hwM _) ?_ ?_; · first | omega | (simp only [put_nx]; done) | (simp only [put_nx]; omega)) | (with_reducible refine AH.le.kill (hwM _) ?_ ?_; · first | omega | (simp only [up_nx, put_nx, kill_nx]; done) | (simp only [up_nx, put_nx, kill_nx]; omega)) | with_reducible refine le_base ?_ | (with_reducible refine AH.le.put hw ?_ ?_; · first | omega | (simp only [up_nx, put_nx, kill_nx]; done) | (simp only [up_nx, put_nx, kill_nx]; omega)) | with_reducible exact AH.le.refl _))
    · rw [hdlen]; rw [hnum, hat] at hq; exact hq
  | false =>
    simp (disch := first | omega | simp) [Pf.av, bv, Pf.cs_len, put_get_ne, hfr, htv]
    refine hk _ _ rfl rfl ⟨hw, hpm, hpn, hmn, (by repeat (first | with_reducible assumption | with_reducible apply AH.le.up | (with_reducible refine AH.le.put (hwM _) ?_ ?_; · first | omega | (simp only [put_nx]; done) | (simp only [put_nx]; omega)) | (with_reducible refine AH.le.kill (hwM _) ?_ ?_; · first | omega | (simp only [up_nx, put_nx, kill_nx]; done) | (simp only [up_nx, put_nx, kill_nx]; omega)) | with_reducible refine le_base ?_ | (with_reducible refine AH.le.put hw ?_ ?_; · first | omega | (simp only [up_nx, put_nx, kill_nx]; done) | (simp only [up_nx, put_nx, kill_nx]; omega)) | with_reducible exact AH.le.refl _)), by simp only [put_nx, up_nx]; omega, ?_, ?_, ?_, ?_, hbn, ?_⟩ (by simp only [put_nx, up_nx]; omega)
    all_goals simp (disch := first | omega | simp) [put_get_ne, hzb, hpb, hprb, hfb]
end Go.Proofs.Ytpmnlikgldacaaa

/- The prover's search: the loops over the parts on the left; the search whole. -/
namespace Go.Proofs.Ytpmnlikgldacaaa
open Go.RowKit Go.Maps
/-- while parts on the left are looked at -/
structure LO (H M : AH) (pr m : Nat) (s : Ded) (l : List Ty) (g : Ty) : Prop where
  wf : WF H
  ne : pr ≠ m
  pn : pr < H.nx
  mn : m < H.nx
  le : (H.put m (MO s)).le M
  nx : H.nx + 8 ≤ M.nx
  zb : M.get (H.nx + 1) = some (.box 27 zero8)
  pb : M.get (H.nx + 3 + 3) = some (.box 27 (pz 0 l g (.p (.slice none 0 0))))
  pr_ : M.get pr = some (.box 63 [.mp m])
  mo : M.get m = some (MO s)
theorem LM.lo {H M : AH} {pr m b : Nat} {s : Ded} {l : List Ty} {g f : Ty} (h : LM H M pr m s l g b f) : LO H M pr m s l g :=
  ⟨h.wf, h.ne, h.pn, h.mn, h.le, h.nx, h.zb, h.pb, h.pr_, h.mo⟩
theorem tryC_cons (pr : List Ty → Ty → Ded → Pf × Bool × Ded) (p : Pf) (c : Cand) (cs : List Cand) (s : Ded) : tryC pr p (c :: cs) s = if (both pr p c.d c.x c.rest s).2.1 = true then (some ⟨c.step, (both pr p c.d c.x c.rest s).1.left, (both pr p c.d c.x c.rest s).1.goal, c.at_, c.num, (both pr p c.d c.x c.rest s).1.kids⟩, (both pr p c.d c.x c.rest s).2.2) else tryC pr p cs (both pr p c.d c.x c.rest s).2.2 := rfl
/-- what holds of what is known and of what is to be tried still -/
structure Todo (N : Nat) (l : List Ty) (g : Ty) (R : Option Pf × Ded) (cs : List Cand) (s : Ded) : Prop where
  snd : Snd s
  len : s.length + cs.length * (cost (Ty.sls l + g.sl - 1) + 1) ≤ 9000000000000000000
  eq : tryC (proofF N) (pB l g) cs s = R
theorem Todo.next {N : Nat} {l : List Ty} {g : Ty} {R : Option Pf × Ded} {c : Cand} {cs : List Cand} {s : Ded} (h : Todo N l g R (c :: cs) s) (_hl : Goods l) (hg : Good g) (hc : CandIn l c) (hN : Ty.sls l + g.sl ≤ N) (hK : l.length + (Ty.sls l + g.sl) ≤ 16)
    {r : Pf × Bool × Ded} (hr : both (proofF N) (pB l g) c.d c.x c.rest s = r) (h0 : r.2.1 = false) : Todo N l g R cs r.2.2 := by
  have hs := hc.sl
  have hle := hc.len
  have hb := both_spec (N := N) (pB l g) c.d c.x c.rest s hc.gd hc.gx hc.gr hg (by omega) (by show Ty.sls c.rest + g.sl < N; omega) (by omega) (by show c.rest.length + (Ty.sls c.rest + g.sl) ≤ 16; omega) h.snd
  have hca := cost_add (Ty.sls c.d + c.x.sl) (Ty.sls c.rest + g.sl)
  rw [show Ty.sls c.d + c.x.sl + (Ty.sls c.rest + g.sl) = Ty.sls l + g.sl - 1 by omega] at hca
  rw [hr] at hb
  have h2 := h.len
  rw [List.length_cons, Nat.add_mul, Nat.one_mul] at h2
  refine ⟨hb.1, ?_, ?_⟩
  · have := hb.2.1
    have e : (pB l g).goal.sl = g.sl := rfl
    rw [e] at this
    omega
  · have := h.eq
    rw [tryC_cons, hr, if_neg (by rw [h0]; decide)] at this
    exact this
theorem Todo.here {N : Nat} {l : List Ty} {g : Ty} {R : Option Pf × Ded} {c : Cand} {cs : List Cand} {s : Ded} (h : Todo N l g R (c :: cs) s) {r : Pf × Bool × Ded} (hr : both (proofF N) (pB l g) c.d c.x c.rest s = r) (h1 : r.2.1 = true) : R = (some ⟨c.step, r.1.left, r.1.goal, c.at_, c.num, r.1.kids⟩, r.2.2) := by
  have := h.eq
  rw [tryC_cons, hr, if_pos h1] at this
  exact this.symm
theorem Todo.room {N : Nat} {l : List Ty} {g : Ty} {R : Option Pf × Ded} {c : Cand} {cs : List Cand} {s : Ded} (h : Todo N l g R (c :: cs) s) : s.length + (cost (Ty.sls l + g.sl - 1) + 1) ≤ 9000000000000000000 := by
  have h2 := h.len
  rw [List.length_cons, Nat.add_mul, Nat.one_mul] at h2
  omega
theorem candO_in {l : List Ty} (hl : Goods l) {i to : Nat} {x y : Ty} (hf : l[i]? = some (Ty.o x y)) (h1 : i + 2 ≤ to) (h2 : to ≤ l.length) : CandIn l (candO l i (Ty.o x y) to) := by
  refine (cand_of hl ((candsFrom_mem l.length 0 (by omega)).2 ⟨i, Nat.zero_le _, (List.getElem?_eq_some_iff.1 hf).1, ?_⟩)).in_ hl
  unfold candsAt
  rw [hf]
  simp only
  rw [if_pos (Ty.kind_o x y)]
  exact List.mem_map.2 ⟨to, List.mem_range'_1.2 ⟨h1, by omega⟩, rfl⟩
theorem candU_in {l : List Ty} (hl : Goods l) {i fr : Nat} {x y : Ty} (hf : l[i]? = some (Ty.u x y)) (h1 : fr < i) : CandIn l (candU l i (Ty.u x y) fr) := by
  refine (cand_of hl ((candsFrom_mem l.length 0 (by omega)).2 ⟨i, Nat.zero_le _, (List.getElem?_eq_some_iff.1 hf).1, ?_⟩)).in_ hl
  unfold candsAt
  rw [hf]
  simp only
  rw [if_neg (by rw [Ty.kind_u]; decide), if_pos (Ty.kind_u x y)]
  exact List.mem_map.2 ⟨fr, List.mem_range'_1.2 ⟨by omega, by omega⟩, rfl⟩
theorem c_overs {N : Nat} (hP : PrC N) {H M : AH} {pr m b i : Nat} {s : Ded} {l : List Ty} {g x y : Ty} {R : Option Pf × Ded} {Q : AV → AH → Prop} {k : List AV → AH → Prop} (h : LM H M pr m s l g b (Ty.o x y)) (hl : Goods l) (hg : Good g) (hf : l[i]? = some (Ty.o x y)) (hN : Ty.sls l + g.sl ≤ N) (hK : l.length + (Ty.sls l + g.sl) ≤ 16)
    (ht : Todo N l g R (oversFrom l i (Ty.o x y) (i + 2) ++ candsFrom l (i + 1)) s) (hq : ∀ q s1, R = (some q, s1) → Q (.tup [q.av, bv true]) (H.put m (MO s1))) (hk : ∀ s1 M2, LO H M2 pr m s1 l g → Todo N l g R (candsFrom l (i + 1)) s1 → M.nx ≤ M2.nx → k [iv ((i + 1 : Nat) : Int)] M2) :
    LoopA Try.prog 1 (S_prover_search_L4 (.ptr pr 0) (.dsl 3 (l.map Ty.cs)) Q H (.ptr (H.nx + 1) 0) (.ptr (H.nx + 3 + 3) 0) k [iv i] (.ptr b 0)) [iv ((i + 2 : Nat) : Int)] M := by
  have hil := (List.getElem?_eq_some_iff.1 hf).1
  refine loop_wf (fun a : Nat × Ded => [iv (a.1 : Int)]) (fun a M1 => LM H M1 pr m a.2 l g b (Ty.o x y) ∧ i + 2 ≤ a.1 ∧ M.nx ≤ M1.nx ∧ Todo N l g R (oversFrom l i (Ty.o x y) a.1 ++ candsFrom l (i + 1)) a.2) (fun a => l.length + 1 - a.1) (i + 2, s) (.refl (Nat.le_refl _)) ⟨h, Nat.le_refl _, Nat.le_refl _, ht⟩ ?_
  rintro ⟨to, s1⟩ M1 hn hw1 ⟨h1, h2, h3, h4⟩ k1 hk1
  have hiv := ivn (i := i) (by omega)
  dsimp only at h1 h2 h3 h4 ⊢
  unfold S_prover_search_L4
  by_cases hto : to ≤ l.length
  · simp (disch := first | omega | simp) [iv, hto]
    rw [overs_step hto, List.cons_append] at h4
    refine body_o hP h1 hw1 hg (candO_in hl hf h2 hto) h2 hto (by omega) hN hK h4.snd h4.room (fun r hr hr1 => ?_) (fun r M2 hr hr0 hM hn2 => ?_)
    · exact hq _ _ (h4.here hr hr1)
    · exact hk1 (to + 1, r.2.2) M2 _ M2 (.refl (by omega)) ⟨hM, by show i + 2 ≤ to + 1; omega, by omega, h4.next hl hg (candO_in hl hf h2 hto) hN hK hr hr0⟩ (by show l.length + 1 - (to + 1) < l.length + 1 - to; omega)
  · simp (disch := first | omega | simp) [iv, hto, hiv]
    rw [overs_end (by omega), List.nil_append] at h4
    exact hk s1 M1 h1.lo h4 h3
theorem c_unders {N : Nat} (hP : PrC N) {H M : AH} {pr m b i : Nat} {s : Ded} {l : List Ty} {g x y : Ty} {R : Option Pf × Ded} {Q : AV → AH → Prop} {k : List AV → AH → Prop} (h : LM H M pr m s l g b (Ty.u x y)) (hl : Goods l) (hg : Good g) (hf : l[i]? = some (Ty.u x y)) (hN : Ty.sls l + g.sl ≤ N) (hK : l.length + (Ty.sls l + g.sl) ≤ 16)
    (ht : Todo N l g R (undersFrom l i (Ty.u x y) 0 ++ candsFrom l (i + 1)) s) (hq : ∀ q s1, R = (some q, s1) → Q (.tup [q.av, bv true]) (H.put m (MO s1))) (hk : ∀ s1 M2, LO H M2 pr m s1 l g → Todo N l g R (candsFrom l (i + 1)) s1 → M.nx ≤ M2.nx → k [iv ((i + 1 : Nat) : Int)] M2) :
    LoopA Try.prog 1 (S_prover_search_L6 (.ptr pr 0) (.dsl 3 (l.map Ty.cs)) Q H (.ptr (H.nx + 1) 0) (.ptr (H.nx + 3 + 3) 0) k [iv i] (.ptr b 0)) [iv 0] M := by
  have hil := (List.getElem?_eq_some_iff.1 hf).1
  refine loop_wf (fun a : Nat × Ded => [iv (a.1 : Int)]) (fun a M1 => LM H M1 pr m a.2 l g b (Ty.u x y) ∧ M.nx ≤ M1.nx ∧ Todo N l g R (undersFrom l i (Ty.u x y) a.1 ++ candsFrom l (i + 1)) a.2) (fun a => l.length + 1 - a.1) (0, s) (.refl (Nat.le_refl _)) ⟨h, Nat.le_refl _, ht⟩ ?_
  rintro ⟨to, s1⟩ M1 hn hw1 ⟨h1, h3, h4⟩ k1 hk1
  have hiv := ivn (i := i) (by omega)
  dsimp only at h1 h3 h4 ⊢
  unfold S_prover_search_L6
  by_cases hto : to < i
  · simp (disch := first | omega | simp) [iv, hto]
    rw [unders_step hto, List.cons_append] at h4
    refine body_u hP h1 hw1 hg (candU_in hl hf hto) hto hil (by omega) hN hK h4.snd h4.room (fun r hr hr1 => ?_) (fun r M2 hr hr0 hM hn2 => ?_)
    · exact hq _ _ (h4.here hr hr1)
    · exact hk1 (to + 1, r.2.2) M2 _ M2 (.refl (by omega)) ⟨hM, by omega, h4.next hl hg (candU_in hl hf hto) hN hK hr hr0⟩ (by show l.length + 1 - (to + 1) < l.length + 1 - to; omega)
  · simp (disch := first | omega | simp) [iv, hto, hiv]
    rw [unders_end (by omega), List.nil_append] at h4
    exact hk s1 M1 h1.lo h4 h3
set_option maxHeartbeats 1000000 in
theorem c_looks {N : Nat} (hP : PrC N) {H M : AH} {pr m : Nat} {s : Ded} {l : List Ty} {g : Ty} {R : Option Pf × Ded} {Q : AV → AH → Prop} (h : LO H M pr m s l g) (hl : Goods l) (hg : Good g) (hN : Ty.sls l + g.sl ≤ N) (hK : l.length + (Ty.sls l + g.sl) ≤ 16)
    (ht : Todo N l g R (candsFrom l 0) s) (hq : ∀ q s1, R = (some q, s1) → Q (.tup [q.av, bv true]) (H.put m (MO s1))) (hq0 : ∀ s1, R = (none, s1) → Q (.tup [zeroP.av, bv false]) (H.put m (MO s1))) :
    LoopA Try.prog 1 (S_prover_search_L7 (.ptr pr 0) (.dsl 3 (l.map Ty.cs)) Q H (.ptr (H.nx + 1) 0) (.ptr (H.nx + 3 + 3) 0) (iv (l.length : Int))) [iv 0] M := by
  refine loop_wf (fun a : Nat × Ded => [iv (a.1 : Int)]) (fun a M1 => LO H M1 pr m a.2 l g ∧ M.nx ≤ M1.nx ∧ Todo N l g R (candsFrom l a.1) a.2) (fun a => l.length + 1 - a.1) (0, s) (.refl (Nat.le_refl _)) ⟨h, Nat.le_refl _, ht⟩ ?_
  rintro ⟨i, s1⟩ M1 hn hw1 ⟨h1, h3, h4⟩ k1 hk1
  dsimp only at h1 h3 h4 ⊢
  unfold S_prover_search_L7
  have hwM : ∀ s, WF (H.put m (MO s)) := fun s => h1.wf.put h1.mn (MO_cl s _)
  have hfr : ∀ j, M1.nx ≤ j → M1.get j = none := fun j hj => wf_none hw1 hj
  have hMl := h1.le
  have hnx := h1.nx
  have hpn := h1.pn
  have hmn := h1.mn
  have hw := h1.wf
  by_cases hi : i < l.length
  · have hiv := ivn (i := i) (by omega)
    have hf : l[i]? = some l[i] := List.getElem?_eq_getElem hi
    rw [cands_step hi] at h4
    have hfg := hl _ (List.mem_of_getElem? hf)
    generalize l[i] = f at hf hfg
    have hfm : (l.map Ty.cs)[i]? = some f.cs := by rw [List.getElem?_map, hf]; rfl
    have hat : ∀ c : Bool, candsAt l i = if f.kind = 2 then oversFrom l i f (i + 2) else if f.kind = 3 then undersFrom l i f 0 else [] := fun _ => by unfold candsAt; rw [hf]
    have hi2 : (i : Int) < l.length := by omega
    have hiv2 : IntKind.i64.wrap ((i : Int) + 2) = ((i + 2 : Nat) : Int) := wrapI (by omega) (by omega)
    have hgi := (List.getElem?_eq_some_iff.1 hfm)
    obtain ⟨hgi1, hgi2⟩ := hgi
    rw [hat true] at h4
    have hlm : ∀ f' : Ty, f' = f → LM H ((((M1.up 6).put (M1.nx + 3) (.box 24 [iv 0, iv 0, .p (.slice none 0 0)])).put (M1.nx + 3) (.box 24 f.cs))) pr m s1 l g (M1.nx + 3) f' := fun f' e => by
      subst e
      refine ⟨hw, h1.ne, hpn, hmn, (by repeat (first | with_reducible assumption | with_reducible apply AH.le.up | (with_reducible refine AH.le.put (hwM _) ?_ ?_; · first | omega | (simp only [put_nx]; done) | (simp only [put_nx]; omega)) | (with_reducible refine AH.le.kill (hwM _) ?_ ?_; · first | omega | (simp only [up_nx, put_nx, kill_nx]; done) | (simp only [up_nx, put_nx, kill_nx]; omega)) | with_reducible refine le_base ?_ | (with_reducible refine AH.le.put hw ?_ ?_; · first | omega | (simp only [up_nx, put_nx, kill_nx]; done) | (simp only [up_nx, put_nx, kill_nx]; omega)) | with_reducible exact AH.le.refl _)), by simp only [put_nx, up_nx]; omega, ?_, ?_, ?_, ?_, by omega, ?_⟩
      all_goals simp (disch := first | omega | simp) [put_get_ne, h1.zb, h1.pb, h1.pr_, h1.mo]
    simp (disch := first | omega | simp) [iv, hi2, hiv, hgi2, Ty.cs_len, Ty.cs_g0, Ty.cs_take, hiv2]
    refine ⟨fun hk2 => ?_, fun hk2 => ⟨fun hk3 => ?_, fun hk3 => ?_⟩⟩
    · rw [if_pos hk2] at h4
      rcases hfg.cases with ⟨n, e, _⟩ | ⟨x, y, e, _⟩ | ⟨y, x, e, _⟩
      · rw [e] at hk2; exact absurd hk2 (show ¬ (1 : Int) = 2 by decide)
      · have h5 := hlm _ e.symm
        rw [e] at h4 hf
        refine c_overs hP h5 hl hg hf hN hK h4 hq fun s2 M2 q1 q2 q3 => ?_
        have q3' : M1.nx + 6 ≤ M2.nx := q3
        exact hk1 (i + 1, s2) M2 _ M2 (.refl (by omega)) ⟨q1, by omega, q2⟩ (by show l.length + 1 - (i + 1) < l.length + 1 - i; omega)
      · rw [e, Ty.kind_u] at hk2; exact absurd hk2 (by decide)
    · rw [if_neg hk2, if_pos hk3] at h4
      rcases hfg.cases with ⟨n, e, _⟩ | ⟨x, y, e, _⟩ | ⟨y, x, e, _⟩
      · rw [e] at hk3; exact absurd hk3 (show ¬ (1 : Int) = 3 by decide)
      · exact absurd (by rw [e, Ty.kind_o]) hk2
      · have h5 := hlm _ e.symm
        rw [e] at h4 hf
        refine c_unders hP h5 hl hg hf hN hK h4 hq fun s2 M2 q1 q2 q3 => ?_
        have q3' : M1.nx + 6 ≤ M2.nx := q3
        exact hk1 (i + 1, s2) M2 _ M2 (.refl (by omega)) ⟨q1, by omega, q2⟩ (by show l.length + 1 - (i + 1) < l.length + 1 - i; omega)
    · rw [if_neg hk2, if_neg hk3, List.nil_append] at h4
      have h5 := hlm _ rfl
      exact hk1 (i + 1, s1) _ _ _ (.refl (by simp only [put_nx, up_nx]; omega)) ⟨h5.lo, by simp only [put_nx, up_nx]; omega, h4⟩ (by show l.length + 1 - (i + 1) < l.length + 1 - i; omega)
  · rw [cands_end (by omega)] at h4
    have hi2 : ¬ (i : Int) < l.length := by omega
    simp (disch := first | omega | simp) [iv, hi2, h1.zb, zero8]
    exact rt_zeroP (hwM s1) (by repeat (first | with_reducible assumption | with_reducible apply AH.le.up | (with_reducible refine AH.le.put (hwM _) ?_ ?_; · first | omega | (simp only [put_nx]; done) | (simp only [put_nx]; omega)) | (with_reducible refine AH.le.kill (hwM _) ?_ ?_; · first | omega | (simp only [up_nx, put_nx, kill_nx]; done) | (simp only [up_nx, put_nx, kill_nx]; omega)) | with_reducible refine le_base ?_ | (with_reducible refine AH.le.put hw ?_ ?_; · first | omega | (simp only [up_nx, put_nx, kill_nx]; done) | (simp only [up_nx, put_nx, kill_nx]; omega)) | with_reducible exact AH.le.refl _)) (by simp only [put_nx, up_nx]; omega) (hq0 s1 h4.eq.symm)
theorem pz_clo (st : Int) (l : List Ty) (g : Ty) (z : Value) (B : Nat) : Clo B (pz st l g (.p z)) := by unfold pz; exact (by repeat (first | exact Cl.p _ | exact Cl.dsl _ _ | exact Cl.any | refine Cl.tup ?_ | refine Cl.agg ?_ | exact Clo.nil | refine Clo.cons ?_ ?_))
theorem zero8_clo (B : Nat) : Clo B zero8 := by unfold zero8; exact (by repeat (first | exact Cl.p _ | exact Cl.dsl _ _ | exact Cl.any | refine Cl.tup ?_ | refine Cl.agg ?_ | exact Clo.nil | refine Clo.cons ?_ ?_))
set_option maxHeartbeats 1000000 in
theorem search_rest {N : Nat} (hP : PrC N) {H : AH} {pr m : Nat} {s : Ded} {l : List Ty} {g : Ty} {x y z : AV} (hw : WF H) (hl : Goods l) (hg : Good g) (_h0 : l ≠ []) (hN : Ty.sls l + g.sl ≤ N) (hK : l.length + (Ty.sls l + g.sl) ≤ 16) (hs : Snd s) (hc : s.length + cost (Ty.sls l + g.sl) ≤ 9000000000000000000) (ha1 : H.get pr = some (.box 63 [.mp m])) (ha2 : H.get m = some (MO s)) (h1 : l ≠ [g])
    (hx : x = iv 0) (hy : y = iv 0) (hz : z = .p (.slice none 0 0)) :
    Pu Try.prog (.bin .eql 3) [iv g.kind, .p (.int .i64 2)] (fun v43 => CdA v43 (S_prover_search_C1 (.ptr pr 0) (.dsl 3 (l.map Ty.cs)) (fun r H' => H' = H.put m (MO (searchF (proofF N) l g s).2.2) ∧ r = AV.tup [(searchF (proofF N) l g s).1.av, bv (searchF (proofF N) l g s).2.1]) H (.ptr H.nx 0) (.ptr (H.nx + 1) 0) (.ptr (H.nx + 3 + 3) 0))
      (Pu Try.prog (.bin .eql 3) [iv g.kind, .p (.int .i64 3)] fun v68 => CdA v68 (S_prover_search_C2 (.ptr pr 0) (.dsl 3 (l.map Ty.cs)) (fun r H' => H' = H.put m (MO (searchF (proofF N) l g s).2.2) ∧ r = AV.tup [(searchF (proofF N) l g s).1.av, bv (searchF (proofF N) l g s).2.1]) H (.ptr H.nx 0) (.ptr (H.nx + 1) 0) (.ptr (H.nx + 3 + 3) 0))
        (Pu Try.prog .len [.dsl 3 (l.map Ty.cs)] fun v92 => LoopA Try.prog 1 (S_prover_search_L7 (.ptr pr 0) (.dsl 3 (l.map Ty.cs)) (fun r H' => H' = H.put m (MO (searchF (proofF N) l g s).2.2) ∧ r = AV.tup [(searchF (proofF N) l g s).1.av, bv (searchF (proofF N) l g s).2.1]) H (.ptr (H.nx + 1) 0) (.ptr (H.nx + 3 + 3) 0) v92) [.p (.int .i64 0)])))
      ((((((H.up 3).put H.nx (.box 24 g.cs)).put (H.nx + 1) (.box 27 zero8)).up 5).put (H.nx + 3 + 3) (.box 27 zero8)).put (H.nx + 3 + 3) (.box 27 (.p (.int .i64 0) :: .dsl 3 (l.map Ty.cs) :: (g.cs ++ [x, y, z])))) := by
  subst hx; subst hy; subst hz
  have hpn := (hw _ _ ha1).1
  have hmn := (hw _ _ ha2).1
  have hpm : pr ≠ m := fun e => by subst e; rw [ha1] at ha2; cases ha2
  have hpz : (AV.p (.int .i64 0) :: .dsl 3 (l.map Ty.cs) :: (g.cs ++ [iv 0, iv 0, .p (.slice none 0 0)])) = pz 0 l g (.p (.slice none 0 0)) := by rw [Ty.cs_eq]; rfl
  rw [hpz]
  have hwM : ∀ s, WF (H.put m (MO s)) := fun s => hw.put hmn (MO_cl s _)
  have hsm : SM H ((((((H.up 3).put H.nx (.box 24 g.cs)).put (H.nx + 1) (.box 27 zero8)).up 5).put (H.nx + 3 + 3) (.box 27 zero8)).put (H.nx + 3 + 3) (.box 27 (pz 0 l g (.p (.slice none 0 0))))) pr m s l g := by
    refine ⟨hw, ?_, hpm, hpn, hmn, le_same (by repeat (first | with_reducible assumption | with_reducible exact AH.le.refl _ | with_reducible apply AH.le.up | (with_reducible refine AH.le.put hw ?_ ?_; · first | omega | (simp only [up_nx, put_nx, kill_nx]; done) | (simp only [up_nx, put_nx, kill_nx]; omega)) | (with_reducible refine AH.le.kill hw ?_ ?_; · first | omega | (simp only [up_nx, put_nx, kill_nx]; done) | (simp only [up_nx, put_nx, kill_nx]; omega)))) (by simp (disch := first | omega | simp) [put_get_ne, ha2]), by simp only [put_nx, up_nx], ?_, ?_, ?_, ?_, ?_⟩
    · exact ((((((hw.up 3).box (by simp only [up_nx]; omega) (Ty.cl g _)).box (by simp only [put_nx, up_nx]; omega) (zero8_clo _)).up 5).box (by simp only [put_nx, up_nx]; omega) (zero8_clo _)).box (by simp only [put_nx, up_nx]; omega) (pz_clo _ _ _ _ _))
    all_goals simp (disch := first | omega | simp) [put_get_ne, ha1, ha2]
  generalize ((((((H.up 3).put H.nx (.box 24 g.cs)).put (H.nx + 1) (.box 27 zero8)).up 5).put (H.nx + 3 + 3) (.box 27 zero8)).put (H.nx + 3 + 3) (.box 27 (pz 0 l g (.p (.slice none 0 0))))) = M at hsm ⊢
  rw [searchF, if_neg h1]
  rcases hg.cases with ⟨n, rfl, _⟩ | ⟨x, y, rfl, hx, hy⟩ | ⟨y, x, rfl, hy, hx⟩
  · rw [if_neg (by simp), if_neg (by simp)]
    simp (disch := first | omega | simp) [iv]
    obtain ⟨q1, q2, q3, q4, q5, q6, q7, q8, q9, q10, q11, q12⟩ := hsm
    have hgs : Ty.sl ⟨1, n, []⟩ = 0 := by rw [Ty.sl]; simp
    have hcl := candsFrom_len l l.length 0 (by omega)
    rw [List.drop_zero] at hcl
    have hlen : s.length + (candsFrom l 0).length * (cost (Ty.sls l + Ty.sl ⟨1, n, []⟩ - 1) + 1) ≤ 9000000000000000000 := by
      rw [hgs] at hc hK ⊢
      simp only [Nat.add_zero] at hc hK ⊢
      generalize hTs : Ty.sls l = T at *
      cases T with
      | zero => have : (candsFrom l 0).length = 0 := by omega
                rw [this]; omega
      | succ T =>
        have hb : (candsFrom l 0).length * (cost T + 1) ≤ capK T * (cost T + 1) := Nat.mul_le_mul_right _ (cands_cap hTs (by omega))
        rw [cost] at hc
        rw [show T + 1 - 1 = T by omega]
        omega
    refine c_looks (R := tryC (proofF N) (pB l ⟨1, n, []⟩) (candsFrom l 0) s) hP ⟨q1, q3, q4, q5, q6, by omega, q9, q10, q11, q12⟩ hl hg hN hK ⟨hs, hlen, rfl⟩ (fun q s1 e => ?_) (fun s1 e => ?_)
    · unfold pB at e; rw [e]; exact ⟨rfl, rfl⟩
    · unfold pB at e; rw [e]; exact ⟨rfl, rfl⟩
  · rw [if_pos (Ty.kind_o x y), Ty.kind_o, k0_o, k1_o]
    rw [Ty.sl_o] at hN hK hc
    simp (disch := first | omega | simp) [iv]
    exact search_o hP hsm hl hx hy (by omega) (by omega) hs (by have := cost_mono (a := Ty.sls l + (y.sl + x.sl)) (b := Ty.sls l + (1 + x.sl + y.sl)) (by omega); omega)
  · rw [if_neg (by rw [Ty.kind_u]; decide), if_pos (Ty.kind_u y x), Ty.kind_u, k0_u, k1_u]
    rw [Ty.sl_u] at hN hK hc
    simp (disch := first | omega | simp) [iv]
    exact search_u hP hsm hl hx hy (by omega) (by omega) hs (by have := cost_mono (a := Ty.sls l + (y.sl + x.sl)) (b := Ty.sls l + (1 + x.sl + y.sl)) (by omega); omega)
set_option maxHeartbeats 4000000 in
theorem c_search {N : Nat} (hP : PrC N) : SrC N := by
  intro l g s pr m H hl hg h0 hN hK hs hc ha
  refine tri_wf fun hw => tri_prover_search ?_
  have hml : maxLen = 9223372036854775807 := by decide
  obtain ⟨ha1, ha2⟩ := ha
  have hpn := (hw _ _ ha1).1
  have hmn := (hw _ _ ha2).1
  have hpm : pr ≠ m := fun e => by subst e; rw [ha1] at ha2; cases ha2
  have hwM : ∀ s, WF (H.put m (MO s)) := fun s => hw.put hmn (MO_cl s _)
  have hpos : 0 < l.length := List.length_pos_iff.2 h0
  unfold S_prover_search
  have htk : ∀ (x y z : AV), List.take 6 (List.take 6 (g.cs ++ [x, y, z])) = [iv g.kind, iv g.num, .dsl 3 (g.kids.map Ty.cs), x, y, z] := fun x y z => by rw [Ty.cs_eq]; rfl
  by_cases h1 : l = [g]
  · rw [searchF, if_pos h1]
    unfold tE
    simp (disch := first | omega | simp) [h1, Ty.av, Ty.cs_len, Ty.cs_take, put_get_ne]
    refine cav_pure (by kernel_rfl) (fun H3 _ => c_sameP g g H3) ?_
    rw [Ty.same_self]
    simp (disch := first | omega | simp) [bv, Ty.cs_len, put_get_ne, htk]
    refine rt_leaf (xs := [iv 1, .dsl 3 [g.cs], iv g.kind, iv g.num, .dsl 3 (g.kids.map Ty.cs), iv 0, iv 0]) (hwM s) ?_ (by first | omega | (simp only [up_nx, put_nx]; done) | (simp only [up_nx, put_nx]; omega)) (by repeat (first | exact Cl.p _ | exact Cl.dsl _ _ | exact Cl.any | refine Cl.tup ?_ | refine Cl.agg ?_ | exact Clo.nil | refine Clo.cons ?_ ?_)) (Cl.p _) ⟨rfl, ?_⟩
    · refine le_same (by repeat (first | with_reducible assumption | with_reducible exact AH.le.refl _ | with_reducible apply AH.le.up | (with_reducible refine AH.le.put hw ?_ ?_; · first | omega | (simp only [up_nx, put_nx, kill_nx]; done) | (simp only [up_nx, put_nx, kill_nx]; omega)) | (with_reducible refine AH.le.kill hw ?_ ?_; · first | omega | (simp only [up_nx, put_nx, kill_nx]; done) | (simp only [up_nx, put_nx, kill_nx]; omega)))) (by simp (disch := first | omega | simp) [put_get_ne, ha2])
    · unfold Pf.av; rw [Pf.cs_eq]; rfl
  generalize hQ : (fun r H' => H' = H.put m (MO (searchF (proofF N) l g s).2.2) ∧ r = AV.tup [(searchF (proofF N) l g s).1.av, bv (searchF (proofF N) l g s).2.1]) = Q
  unfold tE
  have hsame : ∀ x, l = [x] → x.same g = false := fun x hx => by
    cases hq : x.same g with
    | false => rfl
    | true => exact absurd (by rw [hx, Ty.same_eq_of _ _ hq]) h1
  by_cases h2 : l.length = 1
  · obtain ⟨x, rfl⟩ : ∃ x, l = [x] := by
      match l, h2 with
      | [x], _ => exact ⟨x, rfl⟩
    simp (disch := first | omega | simp) [Ty.av, Ty.cs_len, Ty.cs_take, put_get_ne]
    refine cav_pure (by kernel_rfl) (fun H3 _ => c_sameP x g H3) ?_
    rw [hsame x rfl]
    simp (disch := first | omega | simp) [bv, Ty.cs_g0, put_get_ne]
    subst hQ
    exact search_rest hP hw hl hg h0 hN hK hs hc ha1 ha2 h1 rfl rfl rfl
  · have h2' : ¬ (l.length : Int) = 1 := by omega
    simp (disch := first | omega | simp) [h2', Ty.av, Ty.cs_len, Ty.cs_g0, Ty.cs_take, put_get_ne]
    subst hQ
    exact search_rest hP hw hl hg h0 hN hK hs hc ha1 ha2 h1 rfl rfl rfl
theorem c_proofN : ∀ N, PrC N
  | 0 => fun _l _g _s _pr _m _H _ _ hN => absurd hN (Nat.not_lt_zero _)
  | N + 1 => proof_of (c_search (c_proofN N))
end Go.Proofs.Ytpmnlikgldacaaa

/- Proofs: their sizes, copies; Prove. -/
namespace Go.Proofs.Ytpmnlikgldacaaa
open Go.RowKit Go.Maps
mutual
def Pf.size : Pf → Nat
  | ⟨_, _, _, _, _, ks⟩ => 1 + Pf.sizes ks
def Pf.sizes : List Pf → Nat
  | [] => 0
  | k :: r => Pf.size k + Pf.sizes r
end
theorem Pf.size_eq (p : Pf) : p.size = 1 + Pf.sizes p.kids := by cases p; rw [Pf.size]
theorem Pf.size_pos (p : Pf) : 1 ≤ p.size := by rw [Pf.size_eq]; omega
theorem Pf.sizes_mem : ∀ {ks : List Pf} {t : Pf}, t ∈ ks → t.size ≤ Pf.sizes ks
  | k :: r, t, h => by
    rw [Pf.sizes]
    rcases List.mem_cons.1 h with rfl | h
    · omega
    · have := Pf.sizes_mem h; omega
theorem Pf.len_sizes : ∀ ks : List Pf, ks.length ≤ Pf.sizes ks
  | [] => by simp
  | a :: r => by rw [Pf.sizes, List.length_cons]; have := a.size_pos; have := Pf.len_sizes r; omega
/-- all steps of a proof -/
inductive Pf.All (P : Pf → Prop) : Pf → Prop
  | mk (p : Pf) : P p → (∀ k ∈ p.kids, Pf.All P k) → Pf.All P p
theorem Pf.All.here {P : Pf → Prop} {p : Pf} (h : Pf.All P p) : P p := by cases h; assumption
theorem Pf.All.kid {P : Pf → Prop} {p : Pf} (h : Pf.All P p) : ∀ k ∈ p.kids, Pf.All P k := by cases h; assumption
theorem Pf.All.imp {P P' : Pf → Prop} (hi : ∀ p, P p → P' p) {p : Pf} (h : Pf.All P p) : Pf.All P' p := by
  induction h with
  | mk p h _ ih => exact .mk p (hi p h) ih
/-- not too great to be copied -/
def Pf.Light (p : Pf) : Prop := Ty.sizes p.left ≤ 1000000 ∧ p.goal.size ≤ 1000000
def pC (p : Pf) (v : AV) : List AV := [iv p.step, tE p.left, iv p.goal.kind, iv p.goal.num, .dsl 3 (p.goal.kids.map Ty.cs), iv p.at_, iv p.num, v]
theorem Pf.cs_pC (p : Pf) : p.cs = pC p (.dsl 8 (p.kids.map Pf.cs)) := p.cs_eq
set_option maxHeartbeats 1000000 in
theorem c_copiedProofN (N : Nat) : ∀ p : Pf, p.size ≤ N → N ≤ 1000000 → Pf.All Pf.Light p → ∀ H : AH, Tri Try.prog 35 [p.av] H (fun r H' => H' = H ∧ r = p.av) := by
  induction N with
  | zero => intro p h; have := p.size_pos; omega
  | succ N ih =>
    intro p hp hN hL H
    have hml : maxLen = 9223372036854775807 := by decide
    refine tri_wf fun hw => tri_speech_copiedProof ?_
    have hse := p.size_eq
    have hlk := Pf.len_sizes p.kids
    unfold S_speech_copiedProof Pf.av
    rw [Pf.cs_pC]
    unfold pC tE
    simp (disch := first | omega | simp) [put_get_ne]
    refine cav_pure (by kernel_rfl) (fun H3 _ => c_copiedAll p.left hL.here.1 H3) ?_
    have hcp : ∀ H3, Tri Try.prog 66 [.agg [iv p.goal.kind, iv p.goal.num, .dsl 3 (List.map Ty.cs p.goal.kids)]] H3 (fun r H' => H' = H3 ∧ r = .agg [iv p.goal.kind, iv p.goal.num, .dsl 3 (List.map Ty.cs p.goal.kids)]) := fun H3 => by
      have := c_copied p.goal hL.here.2 H3
      unfold Ty.av at this; rw [Ty.cs_eq] at this; exact this
    simp (disch := first | omega | simp) [put_get_ne]
    refine cav_pure (by kernel_rfl) (fun H3 _ => hcp H3) ?_
    simp (disch := first | omega | simp) [put_get_ne, tE]
    generalize hM : AH.put _ _ _ = M
    have hMl : H.le M := by rw [← hM]; exact (by repeat (first | with_reducible assumption | with_reducible exact AH.le.refl _ | with_reducible apply AH.le.up | (with_reducible refine AH.le.put hw ?_ ?_; · first | omega | (simp only [up_nx, put_nx, kill_nx]; done) | (simp only [up_nx, put_nx, kill_nx]; omega)) | (with_reducible refine AH.le.kill hw ?_ ?_; · first | omega | (simp only [up_nx, put_nx, kill_nx]; done) | (simp only [up_nx, put_nx, kill_nx]; omega))))
    have hMn : M.nx = H.nx + 14 := by rw [← hM]; simp only [put_nx, up_nx]
    have hM0 : M.get H.nx = some (.box 27 (pC p (.p (.slice none 0 0)))) := by rw [← hM]; simp (disch := first | omega | simp) [pC, tE]
    have hM1 : M.get (H.nx + 1) = some (.box 27 zero8) := by rw [← hM]; simp (disch := first | omega | simp) [put_get_ne, zero8]
    clear hM
    refine loop_st (fun i : Nat => [iv i]) (fun i H1 => i ≤ p.kids.length ∧ H.le H1 ∧ M.nx ≤ H1.nx ∧ H1.get (H.nx + 1) = some (.box 27 zero8) ∧ ∃ v, H1.get H.nx = some (.box 27 (pC p v)) ∧ Grows 27 8 H H1 v ((p.kids.take i).map Pf.cs)) (fun i => p.kids.length - i) 0 (.refl (Nat.le_refl _)) ⟨Nat.zero_le _, hMl, Nat.le_refl _, hM1, _, hM0, .nil _ _ _ _⟩ ?_
    rintro i H1 hn1 ⟨hi, hle, hn, hz, v, hb, hg⟩ k hk
    unfold S_speech_copiedProof_L1
    by_cases hil : i < p.kids.length
    · obtain ⟨x, hx⟩ : ∃ x, p.kids[i]? = some x := ⟨_, List.getElem?_eq_getElem hil⟩
      have hxg : ∀ h, p.kids[i]'h = x := fun h => (List.getElem?_eq_some_iff.1 hx).2
      have hiv := ivn (i := i) (by omega)
      have hxm := List.mem_of_getElem? hx
      have hxs := Pf.sizes_mem hxm
      have hnot : ∀ n, v ≠ .osl H.nx 8 0 n := hg.not fun xs e => by rw [hb] at e; cases e
      have hnot1 : ∀ n, v ≠ .osl (H.nx + 1) 8 0 n := hg.not fun xs e => by rw [hz] at e; cases e
      unfold pC at hb
      simp (disch := first | omega | simp) [iv, hil, hxg, put_get_ne, hb, Pf.cs_len, Pf.cs_take]
      refine cav_pure (by kernel_rfl) (fun H3 _ => ih x (by omega) (by omega) (hL.kid x hxm) H3) ?_
      simp (disch := first | omega | simp) [Pf.av, Pf.cs_len, Pf.cs_take]
      refine Grows.app (ys := [x.cs]) hw (hg.kp (by repeat (first | with_reducible assumption | with_reducible exact Kp.refl _ | with_reducible apply Kp.up | (with_reducible refine Kp.put ?_ ?_; · first | omega | (simp only [up_nx, put_nx, kill_nx]; done) | (simp only [up_nx, put_nx, kill_nx]; omega)) | (with_reducible refine Kp.kill ?_ ?_; · first | omega | (simp only [up_nx, put_nx, kill_nx]; done) | (simp only [up_nx, put_nx, kill_nx]; omega))))) (by repeat (first | with_reducible assumption | with_reducible exact AH.le.refl _ | with_reducible apply AH.le.up | (with_reducible refine AH.le.put hw ?_ ?_; · first | omega | (simp only [up_nx, put_nx, kill_nx]; done) | (simp only [up_nx, put_nx, kill_nx]; omega)) | (with_reducible refine AH.le.kill hw ?_ ?_; · first | omega | (simp only [up_nx, put_nx, kill_nx]; done) | (simp only [up_nx, put_nx, kill_nx]; omega)))) (by first | omega | (simp only [up_nx, put_nx, kill_nx]; done) | (simp only [up_nx, put_nx, kill_nx]; omega)) (by first | omega | (simp only [up_nx, put_nx]; done) | (simp only [up_nx, put_nx]; omega)) ?_ (dt_pf [x]) ?_ ?_ fun v' H3 g3 l3 n3 k3 e3 => ?_
      · simp (disch := first | omega | simp)
      · rw [List.length_map, List.length_take]; simp only [List.length_singleton]; omega
      · rw [List.length_map, List.length_take]; simp only [List.length_singleton]; omega
      · obtain ⟨n', e3⟩ := e3
        have hb3 : H3.get H.nx = H1.get H.nx := by
          rw [k3 H.nx (by omega) hnot]; simp (disch := first | omega | simp) [put_get_ne]
        have hz3 : H3.get (H.nx + 1) = H1.get (H.nx + 1) := by
          rw [k3 _ (by omega) hnot1]; simp (disch := first | omega | simp) [put_get_ne]
        have n3' : H3.nx = H1.nx + 12 := by rw [n3]; simp only [put_nx, up_nx]
        have hvp := g3.part
        simp (disch := first | omega | simp) [iv, hb3, hb, hvp.1, hvp.2, hiv]
        refine hk (i + 1) _ _ _ (.refl (by simp only [put_nx]; omega)) ⟨hil, AH.le.put hw (Nat.le_refl _) l3, by simp only [put_nx]; omega, by rw [AH.get_put_ne (by omega), hz3, hz], v', put_get _ _, ?_⟩ (by omega)
        rw [List.take_add_one, hx, Option.toList_some, List.map_append]
        refine g3.up_ (Nat.le_refl _) fun j o hj hv ho => ?_
        obtain ⟨n2, hv⟩ := hv
        rw [e3] at hv; injection hv with hv
        rw [AH.get_put_ne (by omega)]; exact ho
    · have hie : i = p.kids.length := by omega
      subst hie
      rw [List.take_length] at hg
      have hvp := hg.part
      have hnot1 : ∀ n, v ≠ .osl (H.nx + 1) 8 0 n := hg.not fun xs e => by rw [hz] at e; cases e
      unfold pC at hb
      unfold zero8 at hz
      simp (disch := first | omega | simp) [iv, hb, hz]
      refine Grows.rt_in (hg.same (by simp only [put_nx, up_nx]; omega) fun j hj ⟨n, hv⟩ => by rw [AH.get_put_ne (fun e => hnot1 n (by rw [← e]; exact hv))]; rfl) hw (by repeat (first | with_reducible assumption | with_reducible exact AH.le.refl _ | with_reducible apply AH.le.up | (with_reducible refine AH.le.put hw ?_ ?_; · first | omega | (simp only [up_nx, put_nx, kill_nx]; done) | (simp only [up_nx, put_nx, kill_nx]; omega)) | (with_reducible refine AH.le.kill hw ?_ ?_; · first | omega | (simp only [up_nx, put_nx, kill_nx]; done) | (simp only [up_nx, put_nx, kill_nx]; omega)))) (by first | omega | (simp only [up_nx, put_nx]; done) | (simp only [up_nx, put_nx]; omega)) hw (.refl _) (Nat.le_refl _) (fun H2 hs => .agg (.cons (.refl _) (.cons (.refl _) (.cons (.refl _) (.cons (.refl _) (.cons (.refl _) (.cons (.refl _) (.cons (.refl _) (.cons hs .nil))))))))) (by repeat (first | exact Cl.p _ | exact Cl.dsl _ _ | exact Cl.any | refine Cl.tup ?_ | refine Cl.agg ?_ | exact Clo.nil | refine Clo.cons ?_ ?_)) ⟨rfl, rfl⟩
theorem c_copiedProof (p : Pf) (h : p.size ≤ 1000000) (hL : Pf.All Pf.Light p) : PF Try.prog 35 [p.av] p.av := fun H => c_copiedProofN _ p (Nat.le_refl _) h hL H
/-- what a derivation's proof is like -/
theorem PfOf.head {p : Pf} {l : List Ty} {g : Ty} {n : Nat} (h : PfOf p l g n) : p.left = l ∧ p.goal = g ∧ p.size = n := by
  induction h with
  | ax => exact ⟨rfl, rfl, by rw [Pf.size_eq]; rfl⟩
  | o _ _ ih => exact ⟨rfl, rfl, by rw [Pf.size_eq, Pf.sizes, Pf.sizes, ih.2.2]; omega⟩
  | u _ _ ih => exact ⟨rfl, rfl, by rw [Pf.size_eq, Pf.sizes, Pf.sizes, ih.2.2]; omega⟩
  | ol _ _ _ ih1 ih2 => exact ⟨rfl, rfl, by rw [Pf.size_eq, Pf.sizes, Pf.sizes, Pf.sizes, ih1.2.2, ih2.2.2]; omega⟩
  | ul _ _ _ ih1 ih2 => exact ⟨rfl, rfl, by rw [Pf.size_eq, Pf.sizes, Pf.sizes, Pf.sizes, ih1.2.2, ih2.2.2]; omega⟩
theorem PfOf.steps {p : Pf} {l : List Ty} {g : Ty} {n : Nat} (h : PfOf p l g n) : n ≤ 2 * (Ty.sls l + g.sl) + 1 := by
  induction h with
  | ax => omega
  | o _ _ ih => simp only [Ty.sls_app, Ty.sls_cons, Ty.sls_nil, Ty.sl_o] at ih ⊢; omega
  | u _ _ ih => simp only [Ty.sls_cons, Ty.sl_u] at ih ⊢; omega
  | ol _ _ _ ih1 ih2 => simp only [Ty.sls_app, Ty.sls_cons, Ty.sl_o] at ih1 ih2 ⊢; omega
  | ul _ _ _ ih1 ih2 => simp only [Ty.sls_app, Ty.sls_cons, Ty.sl_u] at ih1 ih2 ⊢; omega
/-- what all steps of a proof without cuts are like -/
def Pf.Fit (K : Nat) (p : Pf) : Prop := Goods p.left ∧ Good p.goal ∧ p.left.length + (Ty.sls p.left + p.goal.sl) ≤ K ∧ p.step ≠ 6
theorem PfOf.fit {p : Pf} {l : List Ty} {g : Ty} {n K : Nat} (h : PfOf p l g n) (hl : Goods l) (hg : Good g) (hK : l.length + (Ty.sls l + g.sl) ≤ K) : Pf.All (Pf.Fit K) p := by
  induction h with
  | ax => exact .mk _ ⟨hl, hg, hK, show (1 : Int) ≠ 6 by decide⟩ (fun k hk => by cases hk)
  | o _ _ ih =>
    refine .mk _ ⟨hl, hg, hK, show (2 : Int) ≠ 6 by decide⟩ fun k hk => ?_
    simp only [List.mem_singleton] at hk; subst hk
    obtain ⟨g1, g2⟩ := hg.of_o
    exact ih (hl.app (.cons g2 .nil)) g1 (by rw [Ty.sl_o] at hK; simp only [List.length_append, List.length_singleton, Ty.sls_app, Ty.sls_cons, Ty.sls_nil]; omega)
  | u _ _ ih =>
    refine .mk _ ⟨hl, hg, hK, show (3 : Int) ≠ 6 by decide⟩ fun k hk => ?_
    simp only [List.mem_singleton] at hk; subst hk
    obtain ⟨g1, g2⟩ := hg.of_u
    exact ih (.cons g1 hl) g2 (by rw [Ty.sl_u] at hK; simp only [List.length_cons, Ty.sls_cons]; omega)
  | ol _ _ _ ih1 ih2 =>
    refine .mk _ ⟨hl, hg, hK, show (4 : Int) ≠ 6 by decide⟩ fun k hk => ?_
    obtain ⟨g1, g2⟩ := hl.right.head.of_o
    simp only [List.length_append, List.length_cons, Ty.sls_app, Ty.sls_cons, Ty.sl_o] at hK
    simp only [List.mem_cons, List.not_mem_nil, or_false] at hk
    rcases hk with rfl | rfl
    · exact ih1 hl.right.tail.left g2 (by omega)
    · exact ih2 (hl.left.app (.cons g1 hl.right.tail.right)) hg (by simp only [List.length_append, List.length_cons, Ty.sls_app, Ty.sls_cons]; omega)
  | ul _ _ _ ih1 ih2 =>
    refine .mk _ ⟨hl, hg, hK, show (5 : Int) ≠ 6 by decide⟩ fun k hk => ?_
    obtain ⟨g1, g2⟩ := hl.right.right.head.of_u
    simp only [List.length_append, List.length_cons, Ty.sls_app, Ty.sls_cons, Ty.sl_u] at hK
    simp only [List.mem_cons, List.not_mem_nil, or_false] at hk
    rcases hk with rfl | rfl
    · exact ih1 hl.right.left g1 (by omega)
    · exact ih2 (hl.left.app (.cons g2 hl.right.right.tail)) hg (by simp only [List.length_append, List.length_cons, Ty.sls_app, Ty.sls_cons]; omega)
theorem Pf.Fit.light {p : Pf} {K : Nat} (hK : K ≤ 1000) (h : Pf.Fit K p) : Pf.Light p := by
  have h1 := h.1.sizes
  have h2 := h.2.1.size
  have h3 := h.2.2.1
  exact ⟨by omega, by omega⟩
/-- what Prove answers -/
def Proved (l : List Ty) (g : Ty) (r : AV) : Prop :=
  (asksV l g ≠ 0 ∧ r = .tup [zeroP.av, bv false, iv (asksV l g)]) ∨ (asksV l g = 0 ∧ ¬ Dv l g ∧ r = .tup [zeroP.av, bv false, iv 0]) ∨ (asksV l g = 0 ∧ Dv l g ∧ ∃ p n, PfOf p l g n ∧ r = .tup [p.av, bv true, iv 0])
theorem MO_nil : MO [] = .map 9 0 (fun _ => none) := by
  have h : fD [] = fun _ => none := by
    funext v
    unfold fD
    rw [if_neg (fun ⟨x, hx, _⟩ => by cases hx)]
  unfold MO
  rw [h]; rfl
theorem sub_zeroA {H : AH} : Sub Try.prog H (.agg [.p (.int .i64 0), .p (.slice none 0 0), .p (.int .i64 0), .p (.int .i64 0), .p (.slice none 0 0), .p (.int .i64 0), .p (.int .i64 0), .p (.slice none 0 0)]) zeroP.av := by
  unfold Pf.av
  rw [zero_cs]
  exact .agg (.cons (.refl _) (.cons (Sub.nil 3 0 (Nat.zero_le _)) (.cons (.refl _) (.cons (.refl _) (.cons (Sub.nil 3 0 (Nat.zero_le _)) (.cons (.refl _) (.cons (.refl _) (.cons (Sub.nil 8 0 (Nat.zero_le _)) .nil))))))))
theorem rt_zero3 {H H1 : AH} {Q : AV → AH → Prop} {b : Bool} {e : Int} (hw : WF H) (hle : H.le H1) (hn : H.nx ≤ H1.nx) (hq : Q (.tup [zeroP.av, bv b, iv e]) H) : Rt Try.prog H.nx (.tup [.agg [.p (.int .i64 0), .p (.slice none 0 0), .p (.int .i64 0), .p (.int .i64 0), .p (.slice none 0 0), .p (.int .i64 0), .p (.int .i64 0), .p (.slice none 0 0)], .p (.bool b), .p (.int .i64 e)]) Q H1 :=
  rt_sub hw hle hn (.tup (.cons sub_zeroA (.cons (.refl _) (.cons (.refl _) .nil)))) (.tup (.cons (.agg (Pf.cl _ _)) (.cons (Cl.p _) (.cons (Cl.p _) .nil)))) hq
noncomputable def proveR (l : List Ty) (g : Ty) : AV := if asksV l g ≠ 0 then .tup [zeroP.av, bv false, iv (asksV l g)] else if (proofF 11 l g []).2.1 = true then .tup [(proofF 11 l g []).1.av, bv true, iv 0] else .tup [zeroP.av, bv false, iv 0]
theorem proved_R (l : List Ty) (g : Ty) : Proved l g (proveR l g) := by
  unfold Proved proveR
  by_cases h0 : asksV l g = 0
  · obtain ⟨a1, a2, a3, a4, a5⟩ := asksV_ok h0
    obtain ⟨u1, u2, u3, u4⟩ := proofF_spec 11 l g [] a1 a2 (by omega) (by omega) (fun x hx => by cases hx)
    rw [if_neg (by simp [h0])]
    by_cases h1 : (proofF 11 l g []).2.1 = true
    · rw [if_pos h1]
      obtain ⟨n, hn⟩ := u3 h1
      exact .inr (.inr ⟨h0, u1.1 h1, _, n, hn, rfl⟩)
    · rw [if_neg h1]
      exact .inr (.inl ⟨h0, fun h => h1 (u1.2 h), rfl⟩)
  · rw [if_pos h0]; exact .inl ⟨h0, rfl⟩
set_option maxHeartbeats 1000000 in
theorem c_Prove (l : List Ty) (g : Ty) : PF Try.prog 9 [tE l, g.av] (proveR l g) := fun H => tri_wf fun hw => tri_speech_Prove (by
  unfold S_speech_Prove
  simp (disch := first | omega | simp) [Ty.av, Ty.cs_len, Ty.cs_take, put_get_ne]
  refine ca_pure (by kernel_rfl) (c_asks l g _) ?_
  by_cases h0 : asksV l g = 0
  · simp (disch := first | omega | simp) [h0, iv]
    unfold S_speech_Prove_C1
    simp (disch := first | omega | simp) [Ty.cs_len, Ty.cs_take, put_get_ne]
    obtain ⟨a1, a2, a3, a4, a5⟩ := asksV_ok h0
    rw [← MO_nil]
    have hk : cost (Ty.sls l + g.sl) ≤ 9000000000000000000 := by
      have := cost_mono a5
      have := cost_ten
      omega
    refine ca_of (by kernel_rfl) (c_proofN 11 l g [] _ _ _ a1 a2 (by omega) (by omega) (fun x hx => by cases hx) (by simpa using hk) ⟨by simp (disch := first | omega | simp); rfl, by simp (disch := first | omega | simp) [put_get_ne]⟩) ?_
    obtain ⟨u1, u2, u3, u4⟩ := proofF_spec 11 l g [] a1 a2 (by omega) (by omega) (fun x hx => by cases hx)
    rintro _ _ ⟨rfl, rfl⟩
    have hpr : proveR l g = if (proofF 11 l g []).2.1 = true then .tup [(proofF 11 l g []).1.av, bv true, iv 0] else .tup [zeroP.av, bv false, iv 0] := by unfold proveR; rw [if_neg (by simp [h0])]
    generalize proofF 11 l g [] = a at *
    obtain ⟨a1', aok, sa⟩ := a
    dsimp only at u1 u2 u3 u4 ⊢
    cases aok with
    | false =>
      simp (disch := first | omega | simp) [Pf.av, bv, Pf.cs_len, put_get_ne]
      exact rt_zero3 hw (by repeat (first | with_reducible assumption | with_reducible exact AH.le.refl _ | with_reducible apply AH.le.up | (with_reducible refine AH.le.put hw ?_ ?_; · first | omega | (simp only [up_nx, put_nx, kill_nx]; done) | (simp only [up_nx, put_nx, kill_nx]; omega)) | (with_reducible refine AH.le.kill hw ?_ ?_; · first | omega | (simp only [up_nx, put_nx, kill_nx]; done) | (simp only [up_nx, put_nx, kill_nx]; omega)))) (by first | omega | (simp only [up_nx, put_nx]; done) | (simp only [up_nx, put_nx]; omega)) ⟨rfl, hpr.symm⟩
    | true =>
      simp (disch := first | omega | simp) [Pf.av, bv, Pf.cs_len, Pf.cs_take]
      obtain ⟨n, hn⟩ := u3 rfl
      have hf := hn.fit (K := 16) a1 a2 (by omega)
      have hst := hn.steps
      refine ca_pure (by kernel_rfl) (c_copiedProof a1' (by rw [hn.head.2.2]; omega) (hf.imp fun p h => h.light (by omega)) _) ?_
      simp (disch := first | omega | simp) [Pf.av, Pf.cs_len, Pf.cs_take, put_get_ne]
      exact rt_one hw (by repeat (first | with_reducible assumption | with_reducible exact AH.le.refl _ | with_reducible apply AH.le.up | (with_reducible refine AH.le.put hw ?_ ?_; · first | omega | (simp only [up_nx, put_nx, kill_nx]; done) | (simp only [up_nx, put_nx, kill_nx]; omega)) | (with_reducible refine AH.le.kill hw ?_ ?_; · first | omega | (simp only [up_nx, put_nx, kill_nx]; done) | (simp only [up_nx, put_nx, kill_nx]; omega)))) (.tup (.cons (.agg (Pf.cl _ _)) (.cons (Cl.p _) (.cons (Cl.p _) .nil)))) ⟨rfl, hpr.symm⟩
  · simp (disch := first | omega | simp) [h0, iv]
    exact rt_zero3 hw (by repeat (first | with_reducible assumption | with_reducible exact AH.le.refl _ | with_reducible apply AH.le.up | (with_reducible refine AH.le.put hw ?_ ?_; · first | omega | (simp only [up_nx, put_nx, kill_nx]; done) | (simp only [up_nx, put_nx, kill_nx]; omega)) | (with_reducible refine AH.le.kill hw ?_ ?_; · first | omega | (simp only [up_nx, put_nx, kill_nx]; done) | (simp only [up_nx, put_nx, kill_nx]; omega)))) (by first | omega | (simp only [up_nx, put_nx]; done) | (simp only [up_nx, put_nx]; omega)) ⟨rfl, by unfold proveR; rw [if_pos h0]⟩)
end Go.Proofs.Ytpmnlikgldacaaa
