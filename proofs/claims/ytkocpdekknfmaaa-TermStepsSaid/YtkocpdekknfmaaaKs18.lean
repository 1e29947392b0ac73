/- Texts that the proof rests on, part 18: what each holds stands at its head. -/
import Derived.Test.YtkocpdekknfmaaaKs17

/- The type of a term: both programs, walked. -/
namespace Go.Proofs.Ytkocpdekknfmaaa
open Go.RowKit Go.Maps
section
variable {P : Program}
/-- an empty slice, told by its value -/
theorem tri_empty {f : FuncId} {ps : List AV} {H : AH} {Q : AV → AH → Prop} (i sz : Nat) (hi : ps[i]? = some (.dsl sz [])) (h : ∀ A c, c ≤ maxLen → Tri P f (ps.set i (.p (.slice A 0 c))) H Q) : Tri P f ps H Q := fun w S σ us hs hr => by
  obtain ⟨v, hv, hrv⟩ := hr.at_ hi
  obtain ⟨A, c, z, rfl, h1, h2, _⟩ := hrv.dsl_inv.dsl_inv
  refine h A c (by omega) w S σ us hs ⟨by rw [List.length_set]; exact hr.1, fun j b u hb hu => ?_⟩
  by_cases e : i = j
  · subst e
    rw [List.getElem?_set_self (List.getElem?_eq_some_iff.1 hi).1] at hb
    injection hb with hb; subst hb
    rw [hv] at hu; injection hu with hu; subst hu
    exact .data _ _ (.p _ rfl)
  · rw [List.getElem?_set_ne e] at hb; exact hr.2 j b u hb hu
end
theorem rt_none {P : Program} {H0 H1 : AH} {e : Int} {Q : AV → AH → Prop} (hw : WF H0) (hle : H0.le H1) (hn : H0.nx ≤ H1.nx) (hq : Q (.tup [tyNone.av, iv e]) H0) : Rt P H0.nx (.tup [.agg [.p (.int .i64 0), .p (.int .i64 0), .p (.slice none 0 0)], .p (.int .i64 e)]) Q H1 :=
  rt_sub (v' := .tup [tyNone.av, iv e]) hw hle hn (by rw [tyNone_av]; exact .tup (.cons (.agg (.cons (.refl _) (.cons (.refl _) (.cons (.nil _ _ (Nat.zero_le _)) .nil)))) (.cons (.refl _) .nil))) (.tup (.cons (.agg (Ty.cl _ _)) (.cons (Cl.p _) .nil))) hq
theorem c_CloneTy {H : AH} (l : List Ty) (hb : l.length * 40 ≤ 140737488355328) : Tri Try.prog 48 [.dsl 3 (l.map Ty.cs)] H (fun v H' => Grows 24 3 H H' v (l.map Ty.cs) ∧ H.le H' ∧ H.nx ≤ H'.nx) := tri_wf fun hw => by
  have hml : maxLen = 9223372036854775807 := by decide
  have hu : ∃ e, Try.prog.underlying 22 = some (.slice e) := ⟨24, by kernel_rfl⟩
  cases l with
  | nil =>
    refine tri_empty 0 3 rfl fun A c hc => tri_slices_Clone_s_api_Type_api_Type ?_
    unfold S_slices_Clone_s_api_Type_api_Type
    cases A with
    | none =>
      simp
      exact rt_refl ⟨.nil _ _ _ _, .refl _, Nat.le_refl _⟩ (Nat.le_refl _)
    | some b =>
      simp
      exact rt_refl ⟨.row (by first | omega | (simp only [up_nx, put_nx, kill_nx]; done) | (simp only [up_nx, put_nx, kill_nx]; omega)) (by first | omega | (simp only [up_nx, put_nx, kill_nx]; done) | (simp only [up_nx, put_nx, kill_nx]; omega)) (put_get _ _) (fun e he => by cases he) rfl, (by repeat (first | with_reducible assumption | with_reducible exact AH.le.refl _ | with_reducible apply AH.le.up | (with_reducible refine AH.le.put hw ?_ ?_; · first | omega | (simp only [up_nx, put_nx, kill_nx]; done) | (simp only [up_nx, put_nx, kill_nx]; omega)) | (with_reducible refine AH.le.kill hw ?_ ?_; · first | omega | (simp only [up_nx, put_nx, kill_nx]; done) | (simp only [up_nx, put_nx, kill_nx]; omega)))), (by first | omega | (simp only [up_nx, put_nx, kill_nx]; done) | (simp only [up_nx, put_nx, kill_nx]; omega))⟩ (by first | omega | (simp only [up_nx, put_nx, kill_nx]; done) | (simp only [up_nx, put_nx, kill_nx]; omega))
  | cons x xs =>
    refine tri_slices_Clone_s_api_Type_api_Type ?_
    unfold S_slices_Clone_s_api_Type_api_Type
    have hpos : 0 < ((x :: xs).map Ty.cs).length := by simp
    have hlen : ((x :: xs).map Ty.cs).length = (x :: xs).length := by simp
    have hdt := dt_ty (x :: xs)
    generalize (x :: xs).map Ty.cs = ys at *
    simp
    exact ⟨hpos, by omega, by omega, rt_refl ⟨.row (by first | omega | (simp only [up_nx, put_nx, kill_nx]; done) | (simp only [up_nx, put_nx, kill_nx]; omega)) (by first | omega | (simp only [up_nx, put_nx, kill_nx]; done) | (simp only [up_nx, put_nx, kill_nx]; omega)) (put_get _ _) hdt rfl, (by repeat (first | with_reducible assumption | with_reducible exact AH.le.refl _ | with_reducible apply AH.le.up | (with_reducible refine AH.le.put hw ?_ ?_; · first | omega | (simp only [up_nx, put_nx, kill_nx]; done) | (simp only [up_nx, put_nx, kill_nx]; omega)) | (with_reducible refine AH.le.kill hw ?_ ?_; · first | omega | (simp only [up_nx, put_nx, kill_nx]; done) | (simp only [up_nx, put_nx, kill_nx]; omega)))), (by first | omega | (simp only [up_nx, put_nx, kill_nx]; done) | (simp only [up_nx, put_nx, kill_nx]; omega))⟩ (by first | omega | (simp only [up_nx, put_nx, kill_nx]; done) | (simp only [up_nx, put_nx, kill_nx]; omega))⟩
theorem ty_len (l : List Ty) : ∀ e ∈ l.map Ty.cs, e.length = 3 := fun e he => by obtain ⟨t, _, rfl⟩ := List.mem_map.1 he; exact t.cs_len
theorem rev_at {α : Type} {l : List α} {n : Nat} (h : n < l.length) : l.reverse[l.length - 1 - n]? = l[n]? := by
  rw [List.getElem?_reverse (by omega)]
  congr 1; omega
set_option maxHeartbeats 4000000 in
theorem c_typeOf (cons : List Ty) (_hcl : cons.length ≤ 20) (hcok : ∀ x ∈ cons, x.okk) (N : Nat) : ∀ t : Tm, t.size ≤ N → N ≤ 400 → t.wrong = 0 → ∀ ar : List Ty, (∀ x ∈ ar, x.okk) → ar.length + N ≤ 500 → ∀ H : AH,
    Tri Try.prog 35 [t.av, .dsl 3 (cons.map Ty.cs), .dsl 3 (ar.reverse.map Ty.cs)] H (fun r H' => H' = H ∧ r = .tup [(t.typ cons ar).1.av, iv (t.typ cons ar).2]) := by
  induction N with
  | zero => intro t ht; have := t.size_pos; omega
  | succ N ih =>
    intro t ht hN hwr ar har harl H
    refine tri_wf fun hw => tri_term_typeOf ?_
    have hml : maxLen = 9223372036854775807 := by decide
    have hsz := t.size_eq
    obtain ⟨hn0, hkinds, htn⟩ := Tm.ok_inv hwr
    have hkl : t.kids.length ≤ 2 := by rcases hkinds with ⟨_, h⟩ | ⟨_, h⟩ | ⟨_, _, _, b, h, _⟩ | ⟨_, _, f, x, h, _⟩ <;> rw [h] <;> simp
    have hkw : ∀ x ∈ t.kids, x.wrong = 0 ∧ x.size ≤ N := fun x hx => by
      have h1 := Tm.sizes_mem hx
      refine ⟨?_, by omega⟩
      rcases hkinds with ⟨_, h⟩ | ⟨_, h⟩ | ⟨_, _, _, b, h, h2⟩ | ⟨_, _, f, y, h, h2, h3⟩ <;> rw [h] at hx <;> simp at hx
      · rw [hx]; exact h2
      · rcases hx with rfl | rfl
        · exact h2
        · exact h3
    have hinok : ∀ x ∈ t.inn ar, x.okk := fun x hx => by
      unfold Tm.inn at hx
      split at hx
      · rename_i h3
        rcases hkinds with ⟨h, _⟩ | ⟨h, _⟩ | ⟨_, _, h, _⟩ | ⟨h, _⟩
        · omega
        · omega
        · exact (List.mem_cons.1 hx).elim (fun e => e ▸ h) (har x)
        · omega
      · exact har x hx
    have hinl : (t.inn ar).length ≤ ar.length + 1 := by unfold Tm.inn; split <;> simp
    have harr : ar.reverse.length = ar.length := List.length_reverse
    obtain ⟨vs, hvs⟩ : ∃ vs, ar.reverse = vs := ⟨_, rfl⟩
    rw [hvs] at harr ⊢
    obtain ⟨iv_, hiv_⟩ : ∃ iv_, (t.inn ar).reverse = iv_ := ⟨_, rfl⟩
    unfold S_term_typeOf
    simp (disch := first | omega | simp) [Tm.av, Tm.cs_g5, Ty.av, put_get_ne]
    generalize hM : ((H.up 3).put H.nx (.box 27 t.cs)).put (H.nx + 1) (.box 24 [.p (.int .i64 0), .p (.int .i64 0), .p (.slice none 0 0)]) = M
    have hw0 := hw
    have hMb : M.get H.nx = some (.box 27 t.cs) := by rw [← hM]; simp (disch := first | omega | simp) [put_get_ne]
    have hMc : M.get (H.nx + 1) = some (.box 24 [.p (.int .i64 0), .p (.int .i64 0), .p (.slice none 0 0)]) := by rw [← hM]; simp (disch := first | omega | simp)
    have hMl : H.le M := by rw [← hM]; exact (by repeat (first | with_reducible assumption | with_reducible exact AH.le.refl _ | with_reducible apply AH.le.up | (with_reducible refine AH.le.put hw ?_ ?_; · first | omega | (simp only [up_nx, put_nx, kill_nx]; done) | (simp only [up_nx, put_nx, kill_nx]; omega)) | (with_reducible refine AH.le.kill hw ?_ ?_; · first | omega | (simp only [up_nx, put_nx, kill_nx]; done) | (simp only [up_nx, put_nx, kill_nx]; omega))))
    have hMn : M.nx = H.nx + 3 := by rw [← hM]; rfl
    have hw : WF M := by rw [← hM]; exact ((hw0.up 3).box (by first | omega | (simp only [up_nx]; done) | (simp only [up_nx]; omega)) (t.cl _)).box (by first | omega | (simp only [up_nx, put_nx]; done) | (simp only [up_nx, put_nx]; omega)) (by repeat (first | exact Cl.p _ | exact Cl.dsl _ _ | exact Cl.any | refine Cl.tup ?_ | refine Cl.agg ?_ | exact Clo.nil | refine Clo.cons ?_ ?_))
    refine loop_wf (fun s : AV × Nat => [s.1, iv s.2]) (fun s H' => M.le H' ∧ M.nx ≤ H'.nx ∧ s.2 ≤ t.kids.length ∧ Grows 24 3 M H' s.1 ((t.kids.take s.2).map fun x => (x.typ cons (t.inn ar)).1.cs) ∧ ∀ x ∈ t.kids.take s.2, (x.typ cons (t.inn ar)).2 = 0) (fun s => t.kids.length - s.2) (.p (.slice none 0 0), 0) (.refl (Nat.le_refl _)) ⟨.refl _, Nat.le_refl _, Nat.zero_le _, .nil _ _ _ _, by simp⟩ ?_
    rintro ⟨v, i⟩ H1 hn1 hw1 ⟨hle, hn, hi, hg, hz⟩ k hk
    dsimp only at hi hg hz hk
    unfold S_term_typeOf_L5
    by_cases hil : i < t.kids.length
    · obtain ⟨x, hx⟩ : ∃ x, t.kids[i]? = some x := ⟨_, List.getElem?_eq_getElem hil⟩
      have hxg : ∀ h, t.kids[i]'h = x := fun h => (List.getElem?_eq_some_iff.1 hx).2
      have hiv := ivn (i := i) (by omega)
      obtain ⟨hxw, hxs⟩ := hkw x (List.mem_of_getElem? hx)
      have hb1 := hle _ _ hMb
      have hc1 := hle _ _ hMc
      simp (disch := first | omega | simp) [iv, hil, hxg, Tm.cs_len, Tm.cs_take]
      generalize hL : ((H1.up 4).put (H1.nx + 2) (.box 27 [.p (.int .i64 0), .p (.int .i64 0), .p (.int .i64 0), .p (.int .i64 0), .p (.slice none 0 0), .p (.slice none 0 0)])).put (H1.nx + 2) (.box 27 x.cs) = L
      have hLw : WF L := by rw [← hL]; exact ((hw1.up 4).box (by first | omega | (simp only [up_nx]; done) | (simp only [up_nx]; omega)) (by repeat (first | exact Cl.p _ | exact Cl.dsl _ _ | exact Cl.any | refine Cl.tup ?_ | refine Cl.agg ?_ | exact Clo.nil | refine Clo.cons ?_ ?_))).box (by first | omega | (simp only [up_nx, put_nx]; done) | (simp only [up_nx, put_nx]; omega)) (x.cl _)
      have hLl : H1.le L := by rw [← hL]; exact AH.le.put hw1 (by first | omega | (simp only [up_nx, put_nx, kill_nx]; done) | (simp only [up_nx, put_nx, kill_nx]; omega)) (AH.le.put hw1 (by first | omega | (simp only [up_nx, put_nx, kill_nx]; done) | (simp only [up_nx, put_nx, kill_nx]; omega)) (AH.le.up (.refl _)))
      have hLn : L.nx = H1.nx + 4 := by rw [← hL]; rfl
      have hLk : Kp H1 L := by rw [← hL]; exact (by repeat (first | with_reducible assumption | with_reducible exact Kp.refl _ | with_reducible apply Kp.up | (with_reducible refine Kp.put ?_ ?_; · first | omega | (simp only [up_nx, put_nx, kill_nx]; done) | (simp only [up_nx, put_nx, kill_nx]; omega)) | (with_reducible refine Kp.kill ?_ ?_; · first | omega | (simp only [up_nx, put_nx, kill_nx]; done) | (simp only [up_nx, put_nx, kill_nx]; omega))))
      have hML : M.le L := hle.trans hLl
      have hLb : L.get (H1.nx + 2) = some (.box 27 x.cs) := by rw [← hL]; simp
      have hLt := hLl _ _ hb1
      refine cut_wf (fun _ : Unit => [.dsl 3 (iv_.map Ty.cs)]) (fun _ H' => L = H') (fun k2 hk2 => ?_) ?_
      · by_cases hk3 : t.kind = 3
        · have hin : iv_ = vs ++ [t.type] := by rw [← hiv_, ← hvs]; unfold Tm.inn; rw [if_pos hk3, List.reverse_cons]
          simp (disch := first | omega | simp) [iv, Tm.cs_g0, hLt, hk3]
          refine car_of 24 3 (vs.map Ty.cs) (by kernel_rfl) (ty_len _) (fun H2 _ => c_CloneTy vs (by omega)) ?_
          simp (disch := first | omega | simp) [Tm.cs_len, Tm.cs_type, Ty.cs_len, Ty.cs_take, hLt]
          refine wrf_row rfl (wf_none hLw (by first | omega | (simp only [up_nx, put_nx, kill_nx]; done) | (simp only [up_nx, put_nx, kill_nx]; omega))) (es := vs.map Ty.cs) (by simp (disch := first | omega | simp) [put_get_ne]) (by simp) (elF_whole (t := 24) (es := [t.type.cs]) rfl (by simp (disch := first | omega | simp)) rfl) (by simp; omega) (by simp; omega) ?_
          refine hk2 () _ _ _ (gw_row (t := 24) (es := iv_.map Ty.cs) hLw (AH.le.put hLw (by first | omega | (simp only [up_nx, put_nx, kill_nx]; done) | (simp only [up_nx, put_nx, kill_nx]; omega)) (AH.le.kill hLw (by first | omega | (simp only [up_nx, put_nx, kill_nx]; done) | (simp only [up_nx, put_nx, kill_nx]; omega)) (AH.le.put hLw (by first | omega | (simp only [up_nx, put_nx, kill_nx]; done) | (simp only [up_nx, put_nx, kill_nx]; omega)) (AH.le.put hLw (by first | omega | (simp only [up_nx, put_nx, kill_nx]; done) | (simp only [up_nx, put_nx, kill_nx]; omega)) (AH.le.up (.refl _)))))) (by first | omega | (simp only [up_nx, put_nx, kill_nx]; done) | (simp only [up_nx, put_nx, kill_nx]; omega)) (by first | omega | (simp only [up_nx, put_nx, kill_nx]; done) | (simp only [up_nx, put_nx, kill_nx]; omega)) ?_ (dt_ty _) (by rw [hin]; simp)) rfl
          rw [put_get, hin, List.drop_zero, List.take_of_length_le (by simp)]; simp
        · have hin : iv_ = vs := by rw [← hiv_, ← hvs]; unfold Tm.inn; rw [if_neg hk3]
          simp (disch := first | omega | simp) [iv, Tm.cs_g0, hLt, hk3]
          exact hk2 () _ _ _ (by rw [hin]; exact .refl (Nat.le_refl _)) rfl
      · rintro _ H4 hn4 hw4 rfl
        unfold S_term_typeOf_K1
        simp (disch := first | omega | simp) [Tm.cs_len, Tm.cs_take, hLb]
        rw [← hiv_]
        refine ca_pure (by kernel_rfl) (ih x hxs (by omega) hxw (t.inn ar) hinok (by omega) _) ?_
        simp (disch := first | omega | simp) [iv, Ty.av, Ty.cs_len, Ty.cs_take, put_get_ne]
        by_cases he : (x.typ cons (t.inn ar)).2 = 0
        · simp (disch := first | omega | simp) [he]
          refine Grows.app (ys := [(x.typ cons (t.inn ar)).1.cs]) hw ((hg.kp hLk).kp (by repeat (first | with_reducible assumption | with_reducible exact Kp.refl _ | with_reducible apply Kp.up | (with_reducible refine Kp.put ?_ ?_; · first | omega | (simp only [up_nx, put_nx, kill_nx]; done) | (simp only [up_nx, put_nx, kill_nx]; omega)) | (with_reducible refine Kp.kill ?_ ?_; · first | omega | (simp only [up_nx, put_nx, kill_nx]; done) | (simp only [up_nx, put_nx, kill_nx]; omega))))) (by repeat (first | with_reducible assumption | with_reducible exact AH.le.refl _ | with_reducible apply AH.le.up | (with_reducible refine AH.le.put hw ?_ ?_; · first | omega | (simp only [up_nx, put_nx, kill_nx]; done) | (simp only [up_nx, put_nx, kill_nx]; omega)) | (with_reducible refine AH.le.kill hw ?_ ?_; · first | omega | (simp only [up_nx, put_nx, kill_nx]; done) | (simp only [up_nx, put_nx, kill_nx]; omega)))) (by first | omega | (simp only [up_nx, put_nx, kill_nx]; done) | (simp only [up_nx, put_nx, kill_nx]; omega)) (by first | omega | (simp only [up_nx, put_nx]; done) | (simp only [up_nx, put_nx]; omega)) ?_ (dt_ty [(x.typ cons (t.inn ar)).1]) ?_ ?_ fun v' H3 g3 l3 n3 k3 _ => ?_
          · simp (disch := first | omega | simp)
          · rw [List.length_map, List.length_take]; simp only [List.length_singleton]; omega
          · rw [List.length_map, List.length_take]; simp only [List.length_singleton]; omega
          · rw [q_add_i, hiv]
            simp only [up_nx, put_nx] at n3
            refine hk (v', i + 1) _ _ _ (.refl (by omega)) ⟨l3, by omega, hil, ?_, ?_⟩ (by dsimp only; omega)
            · dsimp only
              rw [List.take_add_one, hx, Option.toList_some, List.map_append]; exact g3
            · dsimp only
              rw [List.take_add_one, hx, Option.toList_some]
              exact fun y hy => (List.mem_append.1 hy).elim (hz y) (fun h => by rw [List.mem_singleton.1 h]; exact he)
        · have hty := Tm.typ_err hwr hx hz he
          have hbad := Tm.typ_bad cons x (t.inn ar) he
          have hLc := hML _ _ hMc
          simp (disch := first | omega | simp) [Ty.cs_take, he, hLc]
          refine rt_tup hw0 ?_ ?_ ⟨rfl, ?_⟩
          · exact AH.le.put hw0 (by first | omega | (simp only [up_nx, put_nx, kill_nx]; done) | (simp only [up_nx, put_nx, kill_nx]; omega)) (AH.le.up (AH.le.put hw0 (by first | omega | (simp only [up_nx, put_nx, kill_nx]; done) | (simp only [up_nx, put_nx, kill_nx]; omega)) (AH.le.put hw0 (by first | omega | (simp only [up_nx, put_nx, kill_nx]; done) | (simp only [up_nx, put_nx, kill_nx]; omega)) (AH.le.up (hMl.trans hML)))))
          · exact .cons (.agg (Ty.cl _ _)) (.cons (Cl.p _) .nil)
          · rw [hty, hbad]
    · have hie : i = t.kids.length := by omega
      subst hie
      rw [List.take_length] at hg hz
      have hb1 := hle _ _ hMb
      have hc1 := hle _ _ hMc
      simp (disch := first | omega | simp) [iv]
      unfold S_term_typeOf_C4
      rcases hkinds with ⟨hk1, hks⟩ | ⟨hk1, hks⟩ | ⟨hk1, hnum, hty, b, hks, hbw⟩ | ⟨hk1, hnum, f, x, hks, hfw, hxw⟩
      · by_cases hnl : t.num.toNat < ar.length
        · obtain ⟨x, hx⟩ : ∃ x, ar[t.num.toNat]? = some x := ⟨_, List.getElem?_eq_getElem hnl⟩
          have hty : t.typ cons ar = (x, 0) := by rw [Tm.typ_eq, if_pos hk1, hx]
          have hvx : vs[vs.length - 1 - t.num.toNat]? = some x := by rw [← hvs, List.length_reverse, rev_at hnl, hx]
          have hvg : ∀ h, vs[vs.length - 1 - t.num.toNat]'h = x := fun h => (List.getElem?_eq_some_iff.1 hvx).2
          have n1 : ¬ (vs.length : Int) ≤ t.num := by omega
          have w1 : IntKind.i64.wrap ((vs.length : Int) - 1) = (vs.length : Int) - 1 := wrapI (by omega) (by omega)
          have w2 : IntKind.i64.wrap ((vs.length : Int) - 1 - t.num) = ((vs.length - 1 - t.num.toNat : Nat) : Int) := by rw [wrapI (by omega) (by omega)]; omega
          have w3 : vs.length - 1 - t.num.toNat < vs.length := by omega
          simp (disch := first | omega | simp) [iv, Tm.cs_g0, Tm.cs_g1, Ty.cs_len, Ty.cs_take, hb1, hc1, hk1, n1, w1, w2, w3, hvg]
          exact rt_tup hw0 (AH.le.put hw0 (by first | omega | (simp only [up_nx, put_nx, kill_nx]; done) | (simp only [up_nx, put_nx, kill_nx]; omega)) (AH.le.up (hMl.trans hle))) (.cons (.agg (Ty.cl _ _)) (.cons (Cl.p _) .nil)) ⟨rfl, by rw [hty]⟩
        · have hx : ar[t.num.toNat]? = none := List.getElem?_eq_none (by omega)
          have hty : t.typ cons ar = (tyNone, 8) := by rw [Tm.typ_eq, if_pos hk1, hx]
          have n1 : (vs.length : Int) ≤ t.num := by omega
          simp (disch := first | omega | simp) [iv, Tm.cs_g0, Tm.cs_g1, hb1, hc1, hk1, n1]
          exact rt_none hw0 (AH.le.put hw0 (by first | omega | (simp only [up_nx, put_nx, kill_nx]; done) | (simp only [up_nx, put_nx, kill_nx]; omega)) (AH.le.up (hMl.trans hle))) (by first | omega | (simp only [up_nx, put_nx]; done) | (simp only [up_nx, put_nx]; omega)) ⟨rfl, by rw [hty]; rfl⟩
      · by_cases hnl : t.num.toNat < cons.length
        · obtain ⟨x, hx⟩ : ∃ x, cons[t.num.toNat]? = some x := ⟨_, List.getElem?_eq_getElem hnl⟩
          have hty : t.typ cons ar = (x, 0) := by rw [Tm.typ_eq, if_neg (by omega), if_pos hk1, hx]
          have hvg : ∀ h, cons[t.num.toNat]'h = x := fun h => (List.getElem?_eq_some_iff.1 hx).2
          have n1 : ¬ (cons.length : Int) ≤ t.num := by omega
          have n2 : t.num < (cons.length : Int) := by omega
          simp (disch := first | omega | simp) [iv, Tm.cs_g0, Tm.cs_g1, Ty.cs_len, Ty.cs_take, hb1, hc1, hk1, n1, n2, hn0, hvg]
          exact rt_tup hw0 (AH.le.put hw0 (by first | omega | (simp only [up_nx, put_nx, kill_nx]; done) | (simp only [up_nx, put_nx, kill_nx]; omega)) (AH.le.up (hMl.trans hle))) (.cons (.agg (Ty.cl _ _)) (.cons (Cl.p _) .nil)) ⟨rfl, by rw [hty]⟩
        · have hx : cons[t.num.toNat]? = none := List.getElem?_eq_none (by omega)
          have hty : t.typ cons ar = (tyNone, 8) := by rw [Tm.typ_eq, if_neg (by omega), if_pos hk1, hx]
          have n1 : (cons.length : Int) ≤ t.num := by omega
          simp (disch := first | omega | simp) [iv, Tm.cs_g0, Tm.cs_g1, hb1, hc1, hk1, n1]
          exact rt_none hw0 (AH.le.put hw0 (by first | omega | (simp only [up_nx, put_nx, kill_nx]; done) | (simp only [up_nx, put_nx, kill_nx]; omega)) (AH.le.up (hMl.trans hle))) (by first | omega | (simp only [up_nx, put_nx]; done) | (simp only [up_nx, put_nx]; omega)) ⟨rfl, by rw [hty]; rfl⟩
      · have hin : t.inn ar = t.type :: ar := by unfold Tm.inn; rw [if_pos hk1]
        rw [hks, hin] at hg hz
        obtain ⟨r, xs, rfl, hr1, hr2, hr3⟩ := hg.at_ (by simp)
        have hb0 := hz b (by simp)
        have hx0 := hr3 0 (by simp)
        have hbok := Tm.typ_ok cons hcok N b (hkw b (by rw [hks]; simp)).2 hbw (t.type :: ar) (by rw [← hin]; exact hinok) hb0
        simp at hx0
        simp (disch := first | omega | simp) [iv, Tm.cs_g0, hb1, hk1]
        unfold S_term_typeOf_C2
        simp (disch := first | omega | simp) [Tm.cs_len, Tm.cs_type, Ty.cs_len, Ty.cs_take, hb1, hr2, hx0]
        generalize hbt : (b.typ cons (t.type :: ar)).1 = bt at *
        refine ⟨wf_none hw1 (by first | omega | (simp only [up_nx, put_nx, kill_nx]; done) | (simp only [up_nx, put_nx, kill_nx]; omega)), ?_⟩
        have hsub : ∀ H2 : AH, H2.get (H1.nx + 5) = some (.frz 3 [t.type.cs, bt.cs]) → Sub Try.prog H2 (.agg [.p (.int .i64 2), .p (.int .i64 0), .osl (H1.nx + 5) 3 0 2]) (Ty.av ⟨2, 0, [t.type, bt]⟩) := fun H2 hg2 => by
          rw [Ty.av_eq]
          exact .agg (.cons (.refl _) (.cons (.refl _) (.cons (Sub.frz (off := 0) (n := 2) hg2 (by simp)) .nil)))
        refine ca_of (by kernel_rfl) (Tri.st (.freeze (r := H1.nx + 5) (t := 24) (sz := 3) (es := [t.type.cs, bt.cs]) (by simp (disch := first | omega | simp) [put_get_ne]; rw [Ty.cs_eq t.type, Ty.cs_eq bt]; exact ⟨rfl, rfl⟩) (dt_ty [t.type, bt])) (Tri.args (qs := [Ty.av ⟨2, 0, [t.type, bt]⟩, iv 60]) (.cons (hsub _ (put_get _ _)) (.cons (.refl _) .nil)) (c_typeSize ⟨2, 0, [t.type, bt]⟩ 60 (by decide) (by decide) _))) ?_
        rintro _ H5 ⟨rfl, rfl⟩
        by_cases hs : Ty.size ⟨2, 0, [t.type, bt]⟩ ≤ 60
        · have hty : t.typ cons ar = (⟨2, 0, [t.type, bt]⟩, 0) := by rw [Tm.typ_eq, if_neg (by omega), if_neg (by omega), hks]; simp only; rw [hbt, if_pos hb0, if_pos hs]
          rw [capN_low (by omega)]
          have hs2 : ¬ (60 : Int) < (Ty.size ⟨2, 0, [t.type, bt]⟩ : Int) := by omega
          simp (disch := first | omega | simp) [iv, put_get_ne, hs2, hc1]
          refine rt_sub (v' := .tup [Ty.av ⟨2, 0, [t.type, bt]⟩, iv 0]) hw0 ?_ (by first | omega | (simp only [up_nx, put_nx]; done) | (simp only [up_nx, put_nx]; omega)) (.tup (.cons (hsub _ ?_) (.cons (.refl _) .nil))) (.tup (.cons (.agg (Ty.cl _ _)) (.cons (Cl.p _) .nil))) ⟨rfl, by rw [hty]; rfl⟩
          · have hw := hw0; have h1 := hMl.trans hle; exact (by repeat (first | with_reducible assumption | with_reducible exact AH.le.refl _ | with_reducible apply AH.le.up | (with_reducible refine AH.le.put hw ?_ ?_; · first | omega | (simp only [up_nx, put_nx, kill_nx]; done) | (simp only [up_nx, put_nx, kill_nx]; omega)) | (with_reducible refine AH.le.kill hw ?_ ?_; · first | omega | (simp only [up_nx, put_nx, kill_nx]; done) | (simp only [up_nx, put_nx, kill_nx]; omega))))
          · simp (disch := first | omega | simp) [put_get_ne]
        · have hty : t.typ cons ar = (tyNone, 7) := by rw [Tm.typ_eq, if_neg (by omega), if_neg (by omega), hks]; simp only; rw [hbt, if_pos hb0, if_neg hs]
          rw [capN_high (by omega)]
          simp (disch := first | omega | simp) [iv, put_get_ne, hc1]
          refine rt_none hw0 ?_ (by first | omega | (simp only [up_nx, put_nx]; done) | (simp only [up_nx, put_nx]; omega)) ⟨rfl, by rw [hty]; rfl⟩
          have hw := hw0; have h1 := hMl.trans hle; exact (by repeat (first | with_reducible assumption | with_reducible exact AH.le.refl _ | with_reducible apply AH.le.up | (with_reducible refine AH.le.put hw ?_ ?_; · first | omega | (simp only [up_nx, put_nx, kill_nx]; done) | (simp only [up_nx, put_nx, kill_nx]; omega)) | (with_reducible refine AH.le.kill hw ?_ ?_; · first | omega | (simp only [up_nx, put_nx, kill_nx]; done) | (simp only [up_nx, put_nx, kill_nx]; omega))))
      · have hin : t.inn ar = ar := by unfold Tm.inn; rw [if_neg (by omega)]
        rw [hks, hin] at hg hz
        obtain ⟨r, xs, rfl, hr1, hr2, hr3⟩ := hg.at_ (by simp)
        have hf0 := hz f (by simp)
        have hy0 := hz x (by simp)
        have hx0 := hr3 0 (by simp)
        have hx1 := hr3 1 (by simp)
        simp at hx0 hx1
        simp (disch := first | omega | simp) [iv, Tm.cs_g0, hb1, hk1]
        unfold S_term_typeOf_C3
        have hfok := Tm.typ_ok cons hcok N f (hkw f (by rw [hks]; simp)).2 hfw ar har hf0
        rcases Ty.ok_inv hfok.1 with ⟨k1, k2⟩ | ⟨k1, a, b, k2, _, _⟩
        · have hty : t.typ cons ar = (tyNone, 9) := by rw [Tm.typ_eq, if_neg (by omega), if_neg (by omega), hks]; simp only; rw [if_pos hf0, if_pos hy0, k2]
          simp (disch := first | omega | simp) [iv, Ty.cs_g0, hc1, hr2, hx0, k1]
          exact rt_none hw0 (AH.le.put hw0 (by first | omega | (simp only [up_nx, put_nx, kill_nx]; done) | (simp only [up_nx, put_nx, kill_nx]; omega)) (AH.le.up (hMl.trans hle))) (by first | omega | (simp only [up_nx, put_nx]; done) | (simp only [up_nx, put_nx]; omega)) ⟨rfl, by rw [hty]; rfl⟩
        · simp (disch := first | omega | simp) [iv, Ty.cs_len, Ty.cs_g0, Ty.cs_g2, Ty.cs_take, hr2, hx0, hx1, k1, k2]
          refine cav_pure (by kernel_rfl) (fun H3 _ => c_sameType a.size a (x.typ cons ar).1 (Nat.le_refl _) H3) ?_
          cases hq : a.same (x.typ cons ar).1 with
          | true =>
            have hty : t.typ cons ar = (b, 0) := by rw [Tm.typ_eq, if_neg (by omega), if_neg (by omega), hks]; simp only; rw [if_pos hf0, if_pos hy0, k2]; simp only; rw [if_pos ⟨k1, hq⟩]
            simp (disch := first | omega | simp) [bv, Ty.cs_len, Ty.cs_g2, Ty.cs_take, hc1, hr2, hx0, k2]
            exact rt_tup hw0 (AH.le.put hw0 (by first | omega | (simp only [up_nx, put_nx, kill_nx]; done) | (simp only [up_nx, put_nx, kill_nx]; omega)) (AH.le.up (hMl.trans hle))) (.cons (.agg (Ty.cl _ _)) (.cons (Cl.p _) .nil)) ⟨rfl, by rw [hty]⟩
          | false =>
            have hty : t.typ cons ar = (tyNone, 9) := by rw [Tm.typ_eq, if_neg (by omega), if_neg (by omega), hks]; simp only; rw [if_pos hf0, if_pos hy0, k2]; simp only; rw [if_neg (by rw [hq]; simp)]
            simp (disch := first | omega | simp) [bv, hc1]
            exact rt_none hw0 (AH.le.put hw0 (by first | omega | (simp only [up_nx, put_nx, kill_nx]; done) | (simp only [up_nx, put_nx, kill_nx]; omega)) (AH.le.up (hMl.trans hle))) (by first | omega | (simp only [up_nx, put_nx]; done) | (simp only [up_nx, put_nx]; omega)) ⟨rfl, by rw [hty]; rfl⟩
end Go.Proofs.Ytkocpdekknfmaaa

/- The type of a term by the document; TypeOf of both programs. -/
namespace Go.Proofs.Ytkocpdekknfmaaa
open Go.RowKit Go.Maps
set_option maxHeartbeats 4000000 in
theorem c_typed (cons : List Ty) (_hcl : cons.length ≤ 20) (hcok : ∀ x ∈ cons, x.okk) (N : Nat) : ∀ t : Tm, t.size ≤ N → N ≤ 400 → t.wrong = 0 → ∀ ar : List Ty, (∀ x ∈ ar, x.okk) → ar.length + N ≤ 500 → ∀ H : AH,
    Tri Try.prog 37 [t.av, .dsl 3 (cons.map Ty.cs), .dsl 3 (ar.map Ty.cs)] H (fun r H' => H' = H ∧ r = .tup [(t.typ cons ar).1.av, iv (t.typ cons ar).2]) := by
  induction N with
  | zero => intro t ht; have := t.size_pos; omega
  | succ N ih =>
    intro t ht hN hwr ar har harl H
    refine tri_wf fun hw => tri_wordhoardref_typed ?_
    have hml : maxLen = 9223372036854775807 := by decide
    have hsz := t.size_eq
    obtain ⟨hn0, hkinds, htn⟩ := Tm.ok_inv hwr
    unfold S_wordhoardref_typed
    simp (disch := first | omega | simp) [iv, Tm.av, Tm.cs_g0, Tm.cs_g1, Ty.av, put_get_ne]
    generalize hM : ((((H.up 3).put H.nx (.box 27 t.cs)).put (H.nx + 1) (.box 24 [.p (.int .i64 0), .p (.int .i64 0), .p (.slice none 0 0)])).up 1).put (H.nx + 3) (.box 24 [.p (.int .i64 0), .p (.int .i64 0), .p (.slice none 0 0)]) = M
    have hw0 := hw
    have hMb : M.get H.nx = some (.box 27 t.cs) := by rw [← hM]; simp (disch := first | omega | simp) [put_get_ne]
    have hMc : M.get (H.nx + 1) = some (.box 24 [.p (.int .i64 0), .p (.int .i64 0), .p (.slice none 0 0)]) := by rw [← hM]; simp (disch := first | omega | simp) [put_get_ne]
    have hMd : M.get (H.nx + 3) = some (.box 24 [.p (.int .i64 0), .p (.int .i64 0), .p (.slice none 0 0)]) := by rw [← hM]; simp (disch := first | omega | simp)
    have hMl : H.le M := by rw [← hM]; exact (by repeat (first | with_reducible assumption | with_reducible exact AH.le.refl _ | with_reducible apply AH.le.up | (with_reducible refine AH.le.put hw ?_ ?_; · first | omega | (simp only [up_nx, put_nx, kill_nx]; done) | (simp only [up_nx, put_nx, kill_nx]; omega)) | (with_reducible refine AH.le.kill hw ?_ ?_; · first | omega | (simp only [up_nx, put_nx, kill_nx]; done) | (simp only [up_nx, put_nx, kill_nx]; omega))))
    have hMn : M.nx = H.nx + 4 := by rw [← hM]; rfl
    have hwM : WF M := by rw [← hM]; exact ((((hw0.up 3).box (by first | omega | (simp only [up_nx]; done) | (simp only [up_nx]; omega)) (t.cl _)).box (by first | omega | (simp only [up_nx, put_nx]; done) | (simp only [up_nx, put_nx]; omega)) (by repeat (first | exact Cl.p _ | exact Cl.dsl _ _ | exact Cl.any | refine Cl.tup ?_ | refine Cl.agg ?_ | exact Clo.nil | refine Clo.cons ?_ ?_))).up 1).box (by first | omega | (simp only [up_nx, put_nx]; done) | (simp only [up_nx, put_nx]; omega)) (by repeat (first | exact Cl.p _ | exact Cl.dsl _ _ | exact Cl.any | refine Cl.tup ?_ | refine Cl.agg ?_ | exact Clo.nil | refine Clo.cons ?_ ?_))
    rcases hkinds with ⟨hk1, hks⟩ | ⟨hk1, hks⟩ | ⟨hk1, hnum, hty, b, hks, hbw⟩ | ⟨hk1, hnum, f, x, hks, hfw, hxw⟩
    · by_cases hnl : t.num.toNat < ar.length
      · obtain ⟨x, hx⟩ : ∃ x, ar[t.num.toNat]? = some x := ⟨_, List.getElem?_eq_getElem hnl⟩
        have hty : t.typ cons ar = (x, 0) := by rw [Tm.typ_eq, if_pos hk1, hx]
        have hvg : ∀ h, ar[t.num.toNat]'h = x := fun h => (List.getElem?_eq_some_iff.1 hx).2
        have n1 : ¬ (ar.length : Int) ≤ t.num := by omega
        have n2 : t.num < (ar.length : Int) := by omega
        simp (disch := first | omega | simp) [Ty.cs_len, Ty.cs_take, hk1, n1, n2, hn0, hvg]
        exact rt_tup hw (by repeat (first | with_reducible assumption | with_reducible exact AH.le.refl _ | with_reducible apply AH.le.up | (with_reducible refine AH.le.put hw ?_ ?_; · first | omega | (simp only [up_nx, put_nx, kill_nx]; done) | (simp only [up_nx, put_nx, kill_nx]; omega)) | (with_reducible refine AH.le.kill hw ?_ ?_; · first | omega | (simp only [up_nx, put_nx, kill_nx]; done) | (simp only [up_nx, put_nx, kill_nx]; omega)))) (.cons (.agg (Ty.cl _ _)) (.cons (Cl.p _) .nil)) ⟨rfl, by rw [hty]⟩
      · have hx : ar[t.num.toNat]? = none := List.getElem?_eq_none (by omega)
        have hty : t.typ cons ar = (tyNone, 8) := by rw [Tm.typ_eq, if_pos hk1, hx]
        have n1 : (ar.length : Int) ≤ t.num := by omega
        have n2 : ¬ t.num < (ar.length : Int) := by omega
        simp (disch := first | omega | simp) [hk1, n1, n2]
        exact rt_none hw (by repeat (first | with_reducible assumption | with_reducible exact AH.le.refl _ | with_reducible apply AH.le.up | (with_reducible refine AH.le.put hw ?_ ?_; · first | omega | (simp only [up_nx, put_nx, kill_nx]; done) | (simp only [up_nx, put_nx, kill_nx]; omega)) | (with_reducible refine AH.le.kill hw ?_ ?_; · first | omega | (simp only [up_nx, put_nx, kill_nx]; done) | (simp only [up_nx, put_nx, kill_nx]; omega)))) (by first | omega | (simp only [up_nx, put_nx]; done) | (simp only [up_nx, put_nx]; omega)) ⟨rfl, by rw [hty]; rfl⟩
    · by_cases hnl : t.num.toNat < cons.length
      · obtain ⟨x, hx⟩ : ∃ x, cons[t.num.toNat]? = some x := ⟨_, List.getElem?_eq_getElem hnl⟩
        have hty : t.typ cons ar = (x, 0) := by rw [Tm.typ_eq, if_neg (by omega), if_pos hk1, hx]
        have hvg : ∀ h, cons[t.num.toNat]'h = x := fun h => (List.getElem?_eq_some_iff.1 hx).2
        have n1 : ¬ (cons.length : Int) ≤ t.num := by omega
        have n2 : t.num < (cons.length : Int) := by omega
        simp (disch := first | omega | simp) [Ty.cs_len, Ty.cs_take, hk1, n1, n2, hn0, hvg]
        exact rt_tup hw (by repeat (first | with_reducible assumption | with_reducible exact AH.le.refl _ | with_reducible apply AH.le.up | (with_reducible refine AH.le.put hw ?_ ?_; · first | omega | (simp only [up_nx, put_nx, kill_nx]; done) | (simp only [up_nx, put_nx, kill_nx]; omega)) | (with_reducible refine AH.le.kill hw ?_ ?_; · first | omega | (simp only [up_nx, put_nx, kill_nx]; done) | (simp only [up_nx, put_nx, kill_nx]; omega)))) (.cons (.agg (Ty.cl _ _)) (.cons (Cl.p _) .nil)) ⟨rfl, by rw [hty]⟩
      · have hx : cons[t.num.toNat]? = none := List.getElem?_eq_none (by omega)
        have hty : t.typ cons ar = (tyNone, 8) := by rw [Tm.typ_eq, if_neg (by omega), if_pos hk1, hx]
        have n1 : (cons.length : Int) ≤ t.num := by omega
        have n2 : ¬ t.num < (cons.length : Int) := by omega
        simp (disch := first | omega | simp) [hk1, n1, n2]
        exact rt_none hw (by repeat (first | with_reducible assumption | with_reducible exact AH.le.refl _ | with_reducible apply AH.le.up | (with_reducible refine AH.le.put hw ?_ ?_; · first | omega | (simp only [up_nx, put_nx, kill_nx]; done) | (simp only [up_nx, put_nx, kill_nx]; omega)) | (with_reducible refine AH.le.kill hw ?_ ?_; · first | omega | (simp only [up_nx, put_nx, kill_nx]; done) | (simp only [up_nx, put_nx, kill_nx]; omega)))) (by first | omega | (simp only [up_nx, put_nx]; done) | (simp only [up_nx, put_nx]; omega)) ⟨rfl, by rw [hty]; rfl⟩
    · have hbs : b.size ≤ N := by rw [hks] at hsz; simp [Tm.sizes] at hsz; omega
      simp (disch := first | omega | simp) [hk1]
      unfold S_wordhoardref_typed_C1
      simp (disch := first | omega | simp) [Tm.cs_len, Tm.cs_g5, Tm.cs_take, Tm.cs_type, Ty.cs_len, Ty.cs_take, hMb, hks]
      refine wrf_row rfl (wf_none hwM (by first | omega | (simp only [up_nx, put_nx, kill_nx]; done) | (simp only [up_nx, put_nx, kill_nx]; omega))) (es := [t.type.cs]) (by simp (disch := first | omega | simp)) (by simp) (.old _ _ (.dsl _)) (by simp; omega) (by simp; omega) ?_
      simp (disch := first | omega | simp)
      have hin : ∀ x ∈ t.type :: ar, x.okk := fun x hx => (List.mem_cons.1 hx).elim (fun e => e ▸ hty) (har x)
      refine can_frz (i := M.nx + 9) (t := 24) (sz := 3) (es := (t.type :: ar).map Ty.cs) (r := .tup [(b.typ cons (t.type :: ar)).1.av, iv (b.typ cons (t.type :: ar)).2]) (by kernel_rfl) (by simp) (wf_none hwM (by first | omega | (simp only [up_nx, put_nx, kill_nx]; done) | (simp only [up_nx, put_nx, kill_nx]; omega))) (by simp) (dt_ty _) (fun H4 hle4 => ?_) ?_
      · have hg4 : H4.get (M.nx + 9) = some (.frz 3 ((t.type :: ar).map Ty.cs)) := hle4 _ _ (by simp only [mixV_cons, mixV_nil, put_get, mixO_some])
        have hfz := Sub.frz (P := Try.prog) (off := 0) (n := ar.length + 1) hg4 (by simp)
        rw [List.drop_zero, List.take_of_length_le (by simp)] at hfz
        exact Tri.args (.cons (Sub.refl _) (.cons (Sub.refl _) (.cons (by simpa [Nat.add_comm] using hfz) .nil))) (ih b hbs (by omega) hbw (t.type :: ar) hin (by simp; omega) H4)
      have hn14 : M.get (M.nx + 14) = none := wf_none hwM (by first | omega | (simp only [up_nx, put_nx, kill_nx]; done) | (simp only [up_nx, put_nx, kill_nx]; omega))
      by_cases h0 : (b.typ cons (t.type :: ar)).2 = 0
      · generalize hbt : (b.typ cons (t.type :: ar)).1 = bt at *
        simp (disch := first | omega | simp) [iv, Ty.av, Ty.cs_len, Ty.cs_take, Tm.cs_len, Tm.cs_type, put_get_ne, kill_get_ne, hMb, h0, hn14]

        have hsub : ∀ (H2 : AH) (q : Nat), H2.get q = some (.frz 3 [t.type.cs, bt.cs]) → Sub Try.prog H2 (.agg [.p (.int .i64 2), .p (.int .i64 0), .osl q 3 0 2]) (Ty.av ⟨2, 0, [t.type, bt]⟩) := fun H2 q hg2 => by
          rw [Ty.av_eq]
          exact .agg (.cons (.refl _) (.cons (.refl _) (.cons (Sub.frz (off := 0) (n := 2) hg2 (by simp)) .nil)))
        refine ca_of (by kernel_rfl) (Tri.st (.freeze (r := M.nx + 17 + 3) (t := 24) (sz := 3) (es := [t.type.cs, bt.cs]) (by simp (disch := first | omega | simp) [put_get_ne]; rw [Ty.cs_eq t.type, Ty.cs_eq bt]; exact ⟨rfl, rfl⟩) (dt_ty [t.type, bt])) (Tri.args (qs := [Ty.av ⟨2, 0, [t.type, bt]⟩, iv 60]) (.cons (hsub _ _ (put_get _ _)) (.cons (.refl _) .nil)) (c_RTypeSize (Ty.size ⟨2, 0, [t.type, bt]⟩) ⟨2, 0, [t.type, bt]⟩ (Nat.le_refl _) 60 _ (by decide) (by decide)))) ?_
        rintro _ H5 ⟨rfl, rfl⟩
        by_cases hs : Ty.size ⟨2, 0, [t.type, bt]⟩ ≤ 60
        · have hty : t.typ cons ar = (⟨2, 0, [t.type, bt]⟩, 0) := by rw [Tm.typ_eq, if_neg (by omega), if_neg (by omega), hks]; simp only; rw [hbt, if_pos h0, if_pos hs]
          rw [capN_low (by omega)]
          have hs2 : ¬ (60 : Int) < (Ty.size ⟨2, 0, [t.type, bt]⟩ : Int) := by omega
          simp (disch := first | omega | simp) [iv, Ty.cs_len, put_get_ne, kill_get_ne, hs2, hMc]
          exact rt_sub (v' := .tup [Ty.av ⟨2, 0, [t.type, bt]⟩, iv 0]) hw (by repeat (first | with_reducible assumption | with_reducible exact AH.le.refl _ | with_reducible apply AH.le.up | (with_reducible refine AH.le.put hw ?_ ?_; · first | omega | (simp only [up_nx, put_nx, kill_nx]; done) | (simp only [up_nx, put_nx, kill_nx]; omega)) | (with_reducible refine AH.le.kill hw ?_ ?_; · first | omega | (simp only [up_nx, put_nx, kill_nx]; done) | (simp only [up_nx, put_nx, kill_nx]; omega)))) (by first | omega | (simp only [up_nx, put_nx, kill_nx]; done) | (simp only [up_nx, put_nx, kill_nx]; omega)) (.tup (.cons (hsub _ _ (by simp (disch := first | omega | simp) [put_get_ne])) (.cons (.refl _) .nil))) (.tup (.cons (.agg (Ty.cl _ _)) (.cons (Cl.p _) .nil))) ⟨rfl, by rw [hty]; rfl⟩
        · have hty : t.typ cons ar = (tyNone, 7) := by rw [Tm.typ_eq, if_neg (by omega), if_neg (by omega), hks]; simp only; rw [hbt, if_pos h0, if_neg hs]
          rw [capN_high (by omega)]
          simp (disch := first | omega | simp) [iv, put_get_ne, kill_get_ne, hMc, hMd]
          exact rt_none hw (by repeat (first | with_reducible assumption | with_reducible exact AH.le.refl _ | with_reducible apply AH.le.up | (with_reducible refine AH.le.put hw ?_ ?_; · first | omega | (simp only [up_nx, put_nx, kill_nx]; done) | (simp only [up_nx, put_nx, kill_nx]; omega)) | (with_reducible refine AH.le.kill hw ?_ ?_; · first | omega | (simp only [up_nx, put_nx, kill_nx]; done) | (simp only [up_nx, put_nx, kill_nx]; omega)))) (by first | omega | (simp only [up_nx, put_nx, kill_nx]; done) | (simp only [up_nx, put_nx, kill_nx]; omega)) ⟨rfl, by rw [hty]; rfl⟩
      · have hty : t.typ cons ar = (tyNone, (b.typ cons (t.type :: ar)).2) := by rw [Tm.typ_eq, if_neg (by omega), if_neg (by omega), hks]; simp only; rw [if_neg h0]
        simp (disch := first | omega | simp) [iv, Ty.av, Ty.cs_len, put_get_ne, kill_get_ne, hMc, hMd, h0, hn14]

        exact rt_none hw (by repeat (first | with_reducible assumption | with_reducible exact AH.le.refl _ | with_reducible apply AH.le.up | (with_reducible refine AH.le.put hw ?_ ?_; · first | omega | (simp only [up_nx, put_nx, kill_nx]; done) | (simp only [up_nx, put_nx, kill_nx]; omega)) | (with_reducible refine AH.le.kill hw ?_ ?_; · first | omega | (simp only [up_nx, put_nx, kill_nx]; done) | (simp only [up_nx, put_nx, kill_nx]; omega)))) (by first | omega | (simp only [up_nx, put_nx, kill_nx]; done) | (simp only [up_nx, put_nx, kill_nx]; omega)) ⟨rfl, by rw [hty]; rfl⟩
    · have hfs : f.size ≤ N ∧ x.size ≤ N := by rw [hks] at hsz; simp [Tm.sizes] at hsz; omega
      simp (disch := first | omega | simp) [hk1]
      unfold S_wordhoardref_typed_C3
      simp (disch := first | omega | simp) [Tm.cs_len, Tm.cs_g5, Tm.cs_take, hMb, hks]
      refine ca_pure (by kernel_rfl) (ih f hfs.1 (by omega) hfw ar har (by omega) _) ?_
      by_cases hf0 : (f.typ cons ar).2 = 0
      · simp (disch := first | omega | simp) [iv, Tm.cs_len, Tm.cs_g5, Tm.cs_take, Ty.av, Ty.cs_len, put_get_ne, hMb, hks, hf0]
        refine ca_pure (by kernel_rfl) (ih x hfs.2 (by omega) hxw ar har (by omega) _) ?_
        by_cases hy0 : (x.typ cons ar).2 = 0
        · simp (disch := first | omega | simp) [iv, Ty.av, Ty.cs_len, hy0]
          unfold S_wordhoardref_typed_C2
          have hfok := Tm.typ_ok cons hcok N f hfs.1 hfw ar har hf0
          rcases Ty.ok_inv hfok.1 with ⟨k1, k2⟩ | ⟨k1, a, b, k2, _, _⟩
          · have hty : t.typ cons ar = (tyNone, 9) := by rw [Tm.typ_eq, if_neg (by omega), if_neg (by omega), hks]; simp only; rw [if_pos hf0, if_pos hy0, k2]
            simp (disch := first | omega | simp) [iv, Ty.cs_g0, put_get_ne, hMc, hMd, k1]
            exact rt_none hw (by repeat (first | with_reducible assumption | with_reducible exact AH.le.refl _ | with_reducible apply AH.le.up | (with_reducible refine AH.le.put hw ?_ ?_; · first | omega | (simp only [up_nx, put_nx, kill_nx]; done) | (simp only [up_nx, put_nx, kill_nx]; omega)) | (with_reducible refine AH.le.kill hw ?_ ?_; · first | omega | (simp only [up_nx, put_nx, kill_nx]; done) | (simp only [up_nx, put_nx, kill_nx]; omega)))) (by first | omega | (simp only [up_nx, put_nx]; done) | (simp only [up_nx, put_nx]; omega)) ⟨rfl, by rw [hty]; rfl⟩
          · simp (disch := first | omega | simp) [iv, Ty.cs_len, Ty.cs_g0, Ty.cs_g2, Ty.cs_take, put_get_ne, k1, k2]
            refine cav_pure (by kernel_rfl) (fun H3 _ => c_RSameType a.size a (x.typ cons ar).1 (Nat.le_refl _) H3) ?_
            cases hq : a.same (x.typ cons ar).1 with
            | true =>
              have hty : t.typ cons ar = (b, 0) := by rw [Tm.typ_eq, if_neg (by omega), if_neg (by omega), hks]; simp only; rw [if_pos hf0, if_pos hy0, k2]; simp only; rw [if_pos ⟨k1, hq⟩]
              simp (disch := first | omega | simp) [bv, Ty.cs_len, Ty.cs_g2, Ty.cs_take, put_get_ne, hMc, k2]
              exact rt_tup hw (by repeat (first | with_reducible assumption | with_reducible exact AH.le.refl _ | with_reducible apply AH.le.up | (with_reducible refine AH.le.put hw ?_ ?_; · first | omega | (simp only [up_nx, put_nx, kill_nx]; done) | (simp only [up_nx, put_nx, kill_nx]; omega)) | (with_reducible refine AH.le.kill hw ?_ ?_; · first | omega | (simp only [up_nx, put_nx, kill_nx]; done) | (simp only [up_nx, put_nx, kill_nx]; omega)))) (.cons (.agg (Ty.cl _ _)) (.cons (Cl.p _) .nil)) ⟨rfl, by rw [hty]⟩
            | false =>
              have hty : t.typ cons ar = (tyNone, 9) := by rw [Tm.typ_eq, if_neg (by omega), if_neg (by omega), hks]; simp only; rw [if_pos hf0, if_pos hy0, k2]; simp only; rw [if_neg (by rw [hq]; simp)]
              simp (disch := first | omega | simp) [bv, put_get_ne, hMc, hMd]
              exact rt_none hw (by repeat (first | with_reducible assumption | with_reducible exact AH.le.refl _ | with_reducible apply AH.le.up | (with_reducible refine AH.le.put hw ?_ ?_; · first | omega | (simp only [up_nx, put_nx, kill_nx]; done) | (simp only [up_nx, put_nx, kill_nx]; omega)) | (with_reducible refine AH.le.kill hw ?_ ?_; · first | omega | (simp only [up_nx, put_nx, kill_nx]; done) | (simp only [up_nx, put_nx, kill_nx]; omega)))) (by first | omega | (simp only [up_nx, put_nx]; done) | (simp only [up_nx, put_nx]; omega)) ⟨rfl, by rw [hty]; rfl⟩
        · have hty : t.typ cons ar = (tyNone, (x.typ cons ar).2) := by rw [Tm.typ_eq, if_neg (by omega), if_neg (by omega), hks]; simp only; rw [if_pos hf0, if_neg hy0]
          simp (disch := first | omega | simp) [iv, Ty.av, Ty.cs_len, put_get_ne, hMc, hMd, hy0]
          exact rt_none hw (by repeat (first | with_reducible assumption | with_reducible exact AH.le.refl _ | with_reducible apply AH.le.up | (with_reducible refine AH.le.put hw ?_ ?_; · first | omega | (simp only [up_nx, put_nx, kill_nx]; done) | (simp only [up_nx, put_nx, kill_nx]; omega)) | (with_reducible refine AH.le.kill hw ?_ ?_; · first | omega | (simp only [up_nx, put_nx, kill_nx]; done) | (simp only [up_nx, put_nx, kill_nx]; omega)))) (by first | omega | (simp only [up_nx, put_nx]; done) | (simp only [up_nx, put_nx]; omega)) ⟨rfl, by rw [hty]; rfl⟩
      · have hty : t.typ cons ar = (tyNone, (f.typ cons ar).2) := by rw [Tm.typ_eq, if_neg (by omega), if_neg (by omega), hks]; simp only; rw [if_neg hf0]
        simp (disch := first | omega | simp) [iv, Ty.av, Ty.cs_len, put_get_ne, hMc, hMd, hf0]
        exact rt_none hw (by repeat (first | with_reducible assumption | with_reducible exact AH.le.refl _ | with_reducible apply AH.le.up | (with_reducible refine AH.le.put hw ?_ ?_; · first | omega | (simp only [up_nx, put_nx, kill_nx]; done) | (simp only [up_nx, put_nx, kill_nx]; omega)) | (with_reducible refine AH.le.kill hw ?_ ?_; · first | omega | (simp only [up_nx, put_nx, kill_nx]; done) | (simp only [up_nx, put_nx, kill_nx]; omega)))) (by first | omega | (simp only [up_nx, put_nx]; done) | (simp only [up_nx, put_nx]; omega)) ⟨rfl, by rw [hty]; rfl⟩
/-- TypeOf's answer -/
def tyW : List Ty → Int
  | [] => 0
  | t :: r => if t.check = 0 then tyW r else t.check
def typR (t : Tm) (cons : List Ty) : Ty × Int :=
  if cons.length > 20 then (tyNone, 7) else if tyW cons ≠ 0 then (tyNone, tyW cons) else if t.check ≠ 0 then (tyNone, t.check) else t.typ cons []
theorem tyW_at {ks : List Ty} {i : Nat} {x : Ty} (h : ks[i]? = some x) : tyW (ks.drop i) = if x.check = 0 then tyW (ks.drop (i + 1)) else x.check := by
  obtain ⟨h1, h2⟩ := List.getElem?_eq_some_iff.1 h
  rw [List.drop_eq_getElem_cons h1, tyW, h2]
theorem tyW_end {ks : List Ty} {i : Nat} (h : ks.length ≤ i) : tyW (ks.drop i) = 0 := by rw [List.drop_eq_nil_iff.2 h, tyW]
theorem tyW_ok : ∀ {ks : List Ty}, tyW ks = 0 → ∀ x ∈ ks, x.okk
  | [], _, x, h => by cases h
  | k :: r, h, x, hx => by
    rw [tyW] at h
    split at h
    · rename_i h0
      rcases List.mem_cons.1 hx with rfl | hx
      · exact Ty.check_ok h0
      · exact tyW_ok h x hx
    · rename_i h0; exact absurd h h0
theorem Tm.check_ok {t : Tm} (h : t.check = 0) : t.wrong = 0 ∧ t.size ≤ 400 := by
  unfold Tm.check at h
  split at h
  · cases h
  · exact ⟨h, by omega⟩
end Go.Proofs.Ytkocpdekknfmaaa

/- TypeOf: both programs. -/
namespace Go.Proofs.Ytkocpdekknfmaaa
open Go.RowKit Go.Maps
set_option maxHeartbeats 2000000 in
theorem c_TypeOf (t : Tm) (cons : List Ty) : PF Try.prog 17 [t.av, .dsl 3 (cons.map Ty.cs)] (.tup [(typR t cons).1.av, iv (typR t cons).2]) := fun H => tri_wf fun hw => tri_term_TypeOf (by
  unfold S_term_TypeOf
  by_cases h20 : cons.length > 20
  · have hr : typR t cons = (tyNone, 7) := by unfold typR; rw [if_pos h20]
    have n1 : (20 : Int) < (cons.length : Int) := by omega
    simp (disch := first | omega | simp) [iv, Tm.av, Ty.av, n1]
    exact rt_none hw (by repeat (first | with_reducible assumption | with_reducible exact AH.le.refl _ | with_reducible apply AH.le.up | (with_reducible refine AH.le.put hw ?_ ?_; · first | omega | (simp only [up_nx, put_nx, kill_nx]; done) | (simp only [up_nx, put_nx, kill_nx]; omega)) | (with_reducible refine AH.le.kill hw ?_ ?_; · first | omega | (simp only [up_nx, put_nx, kill_nx]; done) | (simp only [up_nx, put_nx, kill_nx]; omega)))) (by first | omega | (simp only [up_nx, put_nx]; done) | (simp only [up_nx, put_nx]; omega)) ⟨rfl, by rw [hr]; rfl⟩
  · have n1 : ¬ (20 : Int) < (cons.length : Int) := by omega
    simp (disch := first | omega | simp) [iv, Tm.av, Ty.av, n1]
    generalize hM : ((H.up 3).put H.nx (.box 27 t.cs)).put (H.nx + 1) (.box 24 [.p (.int .i64 0), .p (.int .i64 0), .p (.slice none 0 0)]) = M
    have hMb : M.get H.nx = some (.box 27 t.cs) := by rw [← hM]; simp (disch := first | omega | simp) [put_get_ne]
    have hMc : M.get (H.nx + 1) = some (.box 24 [.p (.int .i64 0), .p (.int .i64 0), .p (.slice none 0 0)]) := by rw [← hM]; simp (disch := first | omega | simp)
    have hMl : H.le M := by rw [← hM]; exact (by repeat (first | with_reducible assumption | with_reducible exact AH.le.refl _ | with_reducible apply AH.le.up | (with_reducible refine AH.le.put hw ?_ ?_; · first | omega | (simp only [up_nx, put_nx, kill_nx]; done) | (simp only [up_nx, put_nx, kill_nx]; omega)) | (with_reducible refine AH.le.kill hw ?_ ?_; · first | omega | (simp only [up_nx, put_nx, kill_nx]; done) | (simp only [up_nx, put_nx, kill_nx]; omega))))
    have hMn : M.nx = H.nx + 3 := by rw [← hM]; rfl
    have hwM : WF M := by rw [← hM]; exact ((hw.up 3).box (by first | omega | (simp only [up_nx]; done) | (simp only [up_nx]; omega)) (t.cl _)).box (by first | omega | (simp only [up_nx, put_nx]; done) | (simp only [up_nx, put_nx]; omega)) (by repeat (first | exact Cl.p _ | exact Cl.dsl _ _ | exact Cl.any | refine Cl.tup ?_ | refine Cl.agg ?_ | exact Clo.nil | refine Clo.cons ?_ ?_))
    refine loop_st (fun i : Nat => [iv i]) (fun i H' => M.le H' ∧ M.nx ≤ H'.nx ∧ i ≤ cons.length ∧ tyW cons = tyW (cons.drop i)) (fun i => cons.length - i) 0 (.refl (Nat.le_refl _)) ⟨.refl _, Nat.le_refl _, Nat.zero_le _, by simp⟩ ?_
    rintro i H1 hn1 ⟨hle, hn, hi, hwz⟩ k hk
    unfold S_term_TypeOf_L2
    have hb1 := hle _ _ hMb
    have hc1 := hle _ _ hMc
    have hHl : H.le H1 := hMl.trans hle
    by_cases hil : i < cons.length
    · obtain ⟨x, hx⟩ : ∃ x, cons[i]? = some x := ⟨_, List.getElem?_eq_getElem hil⟩
      have hxg : ∀ h, cons[i]'h = x := fun h => (List.getElem?_eq_some_iff.1 hx).2
      have hiv := ivn (i := i) (by omega)
      rw [tyW_at hx] at hwz
      simp (disch := first | omega | simp) [iv, hil, hxg, Ty.cs_len, Ty.cs_take]
      refine ca_pure (by kernel_rfl) (c_CheckType x _) ?_
      by_cases h0 : x.check = 0
      · rw [if_pos h0] at hwz
        simp (disch := first | omega | simp) [iv, h0, hiv]
        exact hk (i + 1) _ _ _ (.refl (by first | omega | (simp only [up_nx, put_nx]; done) | (simp only [up_nx, put_nx]; omega))) ⟨AH.le.put hwM (by first | omega | (simp only [up_nx, put_nx, kill_nx]; done) | (simp only [up_nx, put_nx, kill_nx]; omega)) (AH.le.put hwM (by first | omega | (simp only [up_nx, put_nx, kill_nx]; done) | (simp only [up_nx, put_nx, kill_nx]; omega)) (AH.le.up hle)), (by first | omega | (simp only [up_nx, put_nx]; done) | (simp only [up_nx, put_nx]; omega)), hil, hwz⟩ (by omega)
      · rw [if_neg h0] at hwz
        have hr : typR t cons = (tyNone, x.check) := by unfold typR; rw [if_neg h20, if_pos (by rw [hwz]; exact h0), hwz]
        simp (disch := first | omega | simp) [iv, h0, put_get_ne, hc1]
        exact rt_none hw (by repeat (first | with_reducible assumption | with_reducible exact AH.le.refl _ | with_reducible apply AH.le.up | (with_reducible refine AH.le.put hw ?_ ?_; · first | omega | (simp only [up_nx, put_nx, kill_nx]; done) | (simp only [up_nx, put_nx, kill_nx]; omega)) | (with_reducible refine AH.le.kill hw ?_ ?_; · first | omega | (simp only [up_nx, put_nx, kill_nx]; done) | (simp only [up_nx, put_nx, kill_nx]; omega)))) (by first | omega | (simp only [up_nx, put_nx]; done) | (simp only [up_nx, put_nx]; omega)) ⟨rfl, by rw [hr]; rfl⟩
    · rw [tyW_end (by omega)] at hwz
      simp (disch := first | omega | simp) [iv, hil]
      unfold S_term_TypeOf_C1
      simp (disch := first | omega | simp) [Tm.cs_len, Tm.cs_take, hb1]
      refine ca_pure (by kernel_rfl) (c_Check t _) ?_
      by_cases h0 : t.check = 0
      · have hr : typR t cons = t.typ cons [] := by unfold typR; rw [if_neg h20, if_neg (by rw [hwz]; simp), if_neg (by rw [h0]; simp)]
        obtain ⟨hwr, hs4⟩ := Tm.check_ok h0
        simp (disch := first | omega | simp) [iv, h0, Tm.cs_len, Tm.cs_take, hb1]
        refine ca_of (by kernel_rfl) (Tri.args (qs := [t.av, .dsl 3 (cons.map Ty.cs), .dsl 3 []]) (.cons (.refl _) (.cons (.refl _) (.cons (.nil _ _ (Nat.zero_le _)) .nil))) (c_typeOf cons (by omega) (tyW_ok hwz) t.size t (Nat.le_refl _) hs4 hwr [] (by simp) (by simp; omega) _)) ?_
        rintro _ H2 ⟨rfl, rfl⟩
        by_cases he : (t.typ cons []).2 = 0
        · have hok := Tm.typ_ok cons (tyW_ok hwz) t.size t (Nat.le_refl _) hwr [] (by simp) he
          simp (disch := first | omega | simp) [iv, he, Ty.av, Ty.cs_len, Ty.cs_take]
          refine ca_pure (by kernel_rfl) (c_copiedType' (t.typ cons []).1 (by have := hok.2; omega) _) ?_
          simp (disch := first | omega | simp) [Ty.av, Ty.cs_len, Ty.cs_take, put_get_ne, hc1]
          exact rt_tup hw (by repeat (first | with_reducible assumption | with_reducible exact AH.le.refl _ | with_reducible apply AH.le.up | (with_reducible refine AH.le.put hw ?_ ?_; · first | omega | (simp only [up_nx, put_nx, kill_nx]; done) | (simp only [up_nx, put_nx, kill_nx]; omega)) | (with_reducible refine AH.le.kill hw ?_ ?_; · first | omega | (simp only [up_nx, put_nx, kill_nx]; done) | (simp only [up_nx, put_nx, kill_nx]; omega)))) (.cons (.agg (Ty.cl _ _)) (.cons (Cl.p _) .nil)) ⟨rfl, by rw [hr, he]⟩
        · have hbad := Tm.typ_bad cons t [] he
          simp (disch := first | omega | simp) [iv, he, Ty.av, Ty.cs_len, put_get_ne, hc1]
          exact rt_none hw (by repeat (first | with_reducible assumption | with_reducible exact AH.le.refl _ | with_reducible apply AH.le.up | (with_reducible refine AH.le.put hw ?_ ?_; · first | omega | (simp only [up_nx, put_nx, kill_nx]; done) | (simp only [up_nx, put_nx, kill_nx]; omega)) | (with_reducible refine AH.le.kill hw ?_ ?_; · first | omega | (simp only [up_nx, put_nx, kill_nx]; done) | (simp only [up_nx, put_nx, kill_nx]; omega)))) (by first | omega | (simp only [up_nx, put_nx]; done) | (simp only [up_nx, put_nx]; omega)) ⟨rfl, by rw [hr, hbad]; rfl⟩
      · have hr : typR t cons = (tyNone, t.check) := by unfold typR; rw [if_neg h20, if_neg (by rw [hwz]; simp), if_pos h0]
        simp (disch := first | omega | simp) [iv, h0, hc1]
        exact rt_none hw (by repeat (first | with_reducible assumption | with_reducible exact AH.le.refl _ | with_reducible apply AH.le.up | (with_reducible refine AH.le.put hw ?_ ?_; · first | omega | (simp only [up_nx, put_nx, kill_nx]; done) | (simp only [up_nx, put_nx, kill_nx]; omega)) | (with_reducible refine AH.le.kill hw ?_ ?_; · first | omega | (simp only [up_nx, put_nx, kill_nx]; done) | (simp only [up_nx, put_nx, kill_nx]; omega)))) (by first | omega | (simp only [up_nx, put_nx]; done) | (simp only [up_nx, put_nx]; omega)) ⟨rfl, by rw [hr]; rfl⟩)
set_option maxHeartbeats 2000000 in
theorem c_RTypeOf (t : Tm) (cons : List Ty) : PF Try.prog 18 [t.av, .dsl 3 (cons.map Ty.cs)] (.tup [(typR t cons).1.av, iv (typR t cons).2]) := fun H => tri_wf fun hw => tri_wordhoardref_TypeOf (by
  unfold S_wordhoardref_TypeOf
  by_cases h20 : cons.length > 20
  · have hr : typR t cons = (tyNone, 7) := by unfold typR; rw [if_pos h20]
    have n1 : (20 : Int) < (cons.length : Int) := by omega
    simp (disch := first | omega | simp) [iv, Tm.av, Ty.av, n1]
    exact rt_none hw (by repeat (first | with_reducible assumption | with_reducible exact AH.le.refl _ | with_reducible apply AH.le.up | (with_reducible refine AH.le.put hw ?_ ?_; · first | omega | (simp only [up_nx, put_nx, kill_nx]; done) | (simp only [up_nx, put_nx, kill_nx]; omega)) | (with_reducible refine AH.le.kill hw ?_ ?_; · first | omega | (simp only [up_nx, put_nx, kill_nx]; done) | (simp only [up_nx, put_nx, kill_nx]; omega)))) (by first | omega | (simp only [up_nx, put_nx]; done) | (simp only [up_nx, put_nx]; omega)) ⟨rfl, by rw [hr]; rfl⟩
  · have n1 : ¬ (20 : Int) < (cons.length : Int) := by omega
    simp (disch := first | omega | simp) [iv, Tm.av, Ty.av, n1]
    generalize hM : ((H.up 3).put H.nx (.box 27 t.cs)).put (H.nx + 1) (.box 24 [.p (.int .i64 0), .p (.int .i64 0), .p (.slice none 0 0)]) = M
    have hMb : M.get H.nx = some (.box 27 t.cs) := by rw [← hM]; simp (disch := first | omega | simp) [put_get_ne]
    have hMc : M.get (H.nx + 1) = some (.box 24 [.p (.int .i64 0), .p (.int .i64 0), .p (.slice none 0 0)]) := by rw [← hM]; simp (disch := first | omega | simp)
    have hMl : H.le M := by rw [← hM]; exact (by repeat (first | with_reducible assumption | with_reducible exact AH.le.refl _ | with_reducible apply AH.le.up | (with_reducible refine AH.le.put hw ?_ ?_; · first | omega | (simp only [up_nx, put_nx, kill_nx]; done) | (simp only [up_nx, put_nx, kill_nx]; omega)) | (with_reducible refine AH.le.kill hw ?_ ?_; · first | omega | (simp only [up_nx, put_nx, kill_nx]; done) | (simp only [up_nx, put_nx, kill_nx]; omega))))
    have hMn : M.nx = H.nx + 3 := by rw [← hM]; rfl
    have hwM : WF M := by rw [← hM]; exact ((hw.up 3).box (by first | omega | (simp only [up_nx]; done) | (simp only [up_nx]; omega)) (t.cl _)).box (by first | omega | (simp only [up_nx, put_nx]; done) | (simp only [up_nx, put_nx]; omega)) (by repeat (first | exact Cl.p _ | exact Cl.dsl _ _ | exact Cl.any | refine Cl.tup ?_ | refine Cl.agg ?_ | exact Clo.nil | refine Clo.cons ?_ ?_))
    refine loop_st (fun i : Nat => [iv i]) (fun i H' => M.le H' ∧ M.nx ≤ H'.nx ∧ i ≤ cons.length ∧ tyW cons = tyW (cons.drop i)) (fun i => cons.length - i) 0 (.refl (Nat.le_refl _)) ⟨.refl _, Nat.le_refl _, Nat.zero_le _, by simp⟩ ?_
    rintro i H1 hn1 ⟨hle, hn, hi, hwz⟩ k hk
    unfold S_wordhoardref_TypeOf_L1
    have hb1 := hle _ _ hMb
    have hc1 := hle _ _ hMc
    have hHl : H.le H1 := hMl.trans hle
    by_cases hil : i < cons.length
    · obtain ⟨x, hx⟩ : ∃ x, cons[i]? = some x := ⟨_, List.getElem?_eq_getElem hil⟩
      have hxg : ∀ h, cons[i]'h = x := fun h => (List.getElem?_eq_some_iff.1 hx).2
      have hiv := ivn (i := i) (by omega)
      rw [tyW_at hx] at hwz
      simp (disch := first | omega | simp) [iv, hil, hxg, Ty.cs_len, Ty.cs_take]
      refine ca_pure (by kernel_rfl) (c_RCheckType x _) ?_
      by_cases h0 : x.check = 0
      · rw [if_pos h0] at hwz
        simp (disch := first | omega | simp) [iv, h0, hiv]
        exact hk (i + 1) _ _ _ (.refl (by first | omega | (simp only [up_nx, put_nx, kill_nx]; done) | (simp only [up_nx, put_nx, kill_nx]; omega))) ⟨hle, (by first | omega | (simp only [up_nx, put_nx, kill_nx]; done) | (simp only [up_nx, put_nx, kill_nx]; omega)), hil, hwz⟩ (by omega)
      · rw [if_neg h0] at hwz
        have hr : typR t cons = (tyNone, x.check) := by unfold typR; rw [if_neg h20, if_pos (by rw [hwz]; exact h0), hwz]
        simp (disch := first | omega | simp) [iv, h0, hc1]
        exact rt_none hw (by repeat (first | with_reducible assumption | with_reducible exact AH.le.refl _ | with_reducible apply AH.le.up | (with_reducible refine AH.le.put hw ?_ ?_; · first | omega | (simp only [up_nx, put_nx, kill_nx]; done) | (simp only [up_nx, put_nx, kill_nx]; omega)) | (with_reducible refine AH.le.kill hw ?_ ?_; · first | omega | (simp only [up_nx, put_nx, kill_nx]; done) | (simp only [up_nx, put_nx, kill_nx]; omega)))) (by first | omega | (simp only [up_nx, put_nx]; done) | (simp only [up_nx, put_nx]; omega)) ⟨rfl, by rw [hr]; rfl⟩
    · rw [tyW_end (by omega)] at hwz
      simp (disch := first | omega | simp) [iv, hil, Tm.cs_len, Tm.cs_take, hb1]
      refine ca_pure (by kernel_rfl) (c_RCheckTerm t _) ?_
      by_cases h0 : t.check = 0
      · have hr : typR t cons = t.typ cons [] := by unfold typR; rw [if_neg h20, if_neg (by rw [hwz]; simp), if_neg (by rw [h0]; simp)]
        obtain ⟨hwr, hs4⟩ := Tm.check_ok h0
        simp (disch := first | omega | simp) [iv, h0, Tm.cs_len, Tm.cs_take, hb1]
        refine ca_of (by kernel_rfl) (Tri.args (qs := [t.av, .dsl 3 (cons.map Ty.cs), .dsl 3 []]) (.cons (.refl _) (.cons (.refl _) (.cons (.nil _ _ (Nat.zero_le _)) .nil))) (c_typed cons (by omega) (tyW_ok hwz) t.size t (Nat.le_refl _) hs4 hwr [] (by simp) (by simp; omega) _)) ?_
        rintro _ H2 ⟨rfl, rfl⟩
        simp (disch := first | omega | simp) [iv, Ty.av, Ty.cs_len, Ty.cs_take, hc1]
        exact rt_tup hw (by repeat (first | with_reducible assumption | with_reducible exact AH.le.refl _ | with_reducible apply AH.le.up | (with_reducible refine AH.le.put hw ?_ ?_; · first | omega | (simp only [up_nx, put_nx, kill_nx]; done) | (simp only [up_nx, put_nx, kill_nx]; omega)) | (with_reducible refine AH.le.kill hw ?_ ?_; · first | omega | (simp only [up_nx, put_nx, kill_nx]; done) | (simp only [up_nx, put_nx, kill_nx]; omega)))) (.cons (.agg (Ty.cl _ _)) (.cons (Cl.p _) .nil)) ⟨rfl, by rw [hr]⟩
      · have hr : typR t cons = (tyNone, t.check) := by unfold typR; rw [if_neg h20, if_neg (by rw [hwz]; simp), if_pos h0]
        simp (disch := first | omega | simp) [iv, h0, hc1]
        exact rt_none hw (by repeat (first | with_reducible assumption | with_reducible exact AH.le.refl _ | with_reducible apply AH.le.up | (with_reducible refine AH.le.put hw ?_ ?_; · first | omega | (simp only [up_nx, put_nx, kill_nx]; done) | (simp only [up_nx, put_nx, kill_nx]; omega)) | (with_reducible refine AH.le.kill hw ?_ ?_; · first | omega | (simp only [up_nx, put_nx, kill_nx]; done) | (simp only [up_nx, put_nx, kill_nx]; omega)))) (by first | omega | (simp only [up_nx, put_nx]; done) | (simp only [up_nx, put_nx]; omega)) ⟨rfl, by rw [hr]; rfl⟩)
end Go.Proofs.Ytkocpdekknfmaaa
