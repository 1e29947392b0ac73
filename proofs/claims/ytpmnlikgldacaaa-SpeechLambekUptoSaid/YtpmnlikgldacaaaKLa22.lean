/- Texts that the proof rests on, part 22: what each holds stands at its head. -/
import Derived.Test.YtpmnlikgldacaaaKLa21

/- What is right is derived; the laws of proofs. -/
namespace Go.Proofs.Ytpmnlikgldacaaa
open Go.RowKit Go.Maps
theorem tailB_iff {p a b : Pf} {x y : Ty} {g h : List Ty} (ht : tailB p a b x y g h = true) : y = a.goal ∧ b.goal = p.goal ∧ a.left = pD p ∧ b.left = g ++ x :: h := by
  unfold tailB at ht
  simp only [Bool.and_eq_true] at ht
  exact ⟨Ty.same_eq_of _ _ ht.1, Ty.same_eq_of _ _ ht.2.1, (Ty.sameL_iff _ _).1 ht.2.2.1, (Ty.sameL_iff _ _).1 ht.2.2.2⟩
theorem Pf.rt_dv (N : Nat) : ∀ p : Pf, p.size ≤ N → Pf.All Pf.Fine p → p.rt = true → Dv p.left p.goal := by
  induction N with
  | zero => intro p h; have := p.size_pos; omega
  | succ N ih =>
    intro p hp hF hr
    have hsz := p.size_eq
    rw [Pf.rt_eq] at hr
    simp only [Bool.and_eq_true, decide_eq_true_eq] at hr
    obtain ⟨hl, hks, hs⟩ := hr
    obtain ⟨hgl, hgg⟩ := hF.here
    have hkid : ∀ k ∈ p.kids, Dv k.left k.goal := fun k hk => by
      refine ih k (by have := Pf.sizes_mem hk; omega) (hF.kid k hk) ?_
      have aux : ∀ ks : List Pf, Pf.rts ks = true → ∀ k ∈ ks, k.rt = true := by
        intro ks
        induction ks with
        | nil => intro _ k hk; cases hk
        | cons a r ihr =>
          intro h k hk
          rw [Pf.rts, Bool.and_eq_true] at h
          rcases List.mem_cons.1 hk with rfl | hk
          · exact h.1
          · exact ihr h.2 k hk
      exact aux p.kids hks k hk
    have hl0 : p.left ≠ [] := List.length_pos_iff.1 hl
    unfold stepB at hs
    split at hs
    · simp only [Bool.and_eq_true] at hs
      obtain ⟨_, _, _, hm⟩ := hs
      split at hm
      · rename_i x hx
        rw [hx, Ty.same_eq_of _ _ hm]; exact .ax _
      · cases hm
    split at hs
    · simp only [Bool.and_eq_true] at hs
      obtain ⟨_, _, hm⟩ := hs
      split at hm
      · rename_i a hx
        simp only [Bool.and_eq_true, decide_eq_true_eq] at hm
        obtain ⟨m1, m2, m3⟩ := hm
        have ha := hkid a (by rw [hx]; simp)
        rcases hgg.cases with ⟨n, e, _⟩ | ⟨x, y, e, _⟩ | ⟨y, x, e, _⟩
        · rw [e] at m1; exact absurd m1 (show ¬ (1 : Int) = 2 by decide)
        · rw [Ty.same_eq_of _ _ m2, (Ty.sameL_iff _ _).1 m3, e, k0_o, k1_o] at ha
          rw [e]; exact .or_ hl0 ha
        · rw [e, Ty.kind_u] at m1; exact absurd m1 (by decide)
      · cases hm
    split at hs
    · simp only [Bool.and_eq_true] at hs
      obtain ⟨_, _, hm⟩ := hs
      split at hm
      · rename_i a hx
        simp only [Bool.and_eq_true, decide_eq_true_eq] at hm
        obtain ⟨m1, m2, m3⟩ := hm
        have ha := hkid a (by rw [hx]; simp)
        rcases hgg.cases with ⟨n, e, _⟩ | ⟨x, y, e, _⟩ | ⟨y, x, e, _⟩
        · rw [e] at m1; exact absurd m1 (show ¬ (1 : Int) = 3 by decide)
        · rw [e, Ty.kind_o] at m1; exact absurd m1 (by decide)
        · rw [Ty.same_eq_of _ _ m2, (Ty.sameL_iff _ _).1 m3, e, k0_u, k1_u] at ha
          rw [e]; exact .ur hl0 ha
      · cases hm
    have two : ∀ a b : Pf, rng p = true → p.left = p.left.take p.at_.toNat ++ (pD p ++ p.left.drop (p.at_.toNat + p.num.toNat)) ∧ pD p ≠ [] := fun a b hr => by
      have hr := rng_iff.1 hr
      refine ⟨?_, fun e => ?_⟩
      · unfold pD
        conv => lhs; rw [← List.take_append_drop p.at_.toNat p.left, ← List.take_append_drop p.num.toNat (p.left.drop p.at_.toNat), List.drop_drop]
      · have := congrArg List.length e
        unfold pD at this
        rw [List.length_take, List.length_drop] at this
        simp only [List.length_nil] at this
        omega
    split at hs
    · split at hs
      · rename_i a b hx
        rw [Bool.and_eq_true] at hs
        obtain ⟨hr, hm⟩ := hs
        obtain ⟨t1, t2⟩ := two a b hr
        have hr := rng_iff.1 hr
        split at hm
        · rename_i f hf
          simp only [Bool.and_eq_true, decide_eq_true_eq] at hm
          obtain ⟨m0, m1, m2⟩ := hm
          obtain ⟨q1, q2, q3, q4⟩ := tailB_iff m2
          have ha := hkid a (by rw [hx]; simp)
          have hb := hkid b (by rw [hx]; simp)
          rw [q3, ← q1] at ha
          rw [q4, q2] at hb
          have hfg := hgl _ (List.mem_of_getElem? hf)
          rcases hfg.cases with ⟨n, e, _⟩ | ⟨x, y, e, _⟩ | ⟨y, x, e, _⟩
          · rw [e] at m1; exact absurd m1 (show ¬ (1 : Int) = 2 by decide)
          · rw [e, k1_o] at ha
            rw [e, k0_o] at hb
            have htk : p.left.take p.at_.toNat = p.left.take (p.at_.toNat - 1) ++ [Ty.o x y] := by
              conv => lhs; rw [show p.at_.toNat = p.at_.toNat - 1 + 1 by omega, List.take_add_one, hf, e]
              rfl
            have := Dv.ol t2 ha hb
            rw [t1, htk]
            simpa using this
          · rw [e, Ty.kind_u] at m1; exact absurd m1 (by decide)
        · cases hm
      · cases hs
    split at hs
    · split at hs
      · rename_i a b hx
        rw [Bool.and_eq_true] at hs
        obtain ⟨hr, hm⟩ := hs
        obtain ⟨t1, t2⟩ := two a b hr
        have hr := rng_iff.1 hr
        split at hm
        · rename_i f hf
          simp only [Bool.and_eq_true, decide_eq_true_eq] at hm
          obtain ⟨m1, m2⟩ := hm
          obtain ⟨q1, q2, q3, q4⟩ := tailB_iff m2
          have ha := hkid a (by rw [hx]; simp)
          have hb := hkid b (by rw [hx]; simp)
          rw [q3, ← q1] at ha
          rw [q4, q2] at hb
          have hfg := hgl _ (List.mem_of_getElem? hf)
          rcases hfg.cases with ⟨n, e, _⟩ | ⟨x, y, e, _⟩ | ⟨y, x, e, _⟩
          · rw [e] at m1; exact absurd m1 (show ¬ (1 : Int) = 3 by decide)
          · rw [e, Ty.kind_o] at m1; exact absurd m1 (by decide)
          · rw [e, k0_u] at ha
            rw [e, k1_u] at hb
            have hdr : p.left.drop (p.at_.toNat + p.num.toNat) = Ty.u y x :: p.left.drop (p.at_.toNat + p.num.toNat + 1) := by
              obtain ⟨h1, h2⟩ := List.getElem?_eq_some_iff.1 hf
              rw [List.drop_eq_getElem_cons h1, h2, e]
            have := Dv.ul t2 ha hb
            rw [t1, hdr]
            exact this
        · cases hm
      · cases hs
    split at hs
    · split at hs
      · rename_i a b hx
        rw [Bool.and_eq_true] at hs
        obtain ⟨hr, hm⟩ := hs
        obtain ⟨t1, t2⟩ := two a b hr
        obtain ⟨q1, q2, q3, q4⟩ := tailB_iff hm
        have ha := hkid a (by rw [hx]; simp)
        have hb := hkid b (by rw [hx]; simp)
        rw [q3] at ha
        rw [q4, q2] at hb
        have := cut a.goal _ _ _ _ ha hb
        rw [t1]
        simpa using this
      · cases hs
    · cases hs
/-- the zero proof is none -/
theorem c_noProof : PF Try.prog 13 [zeroP.av] (bv true) := fun H => tri_wf fun hw => tri_wordhoardlaw_noProof (by
  unfold S_wordhoardlaw_noProof Pf.av
  rw [zero_cs]
  simp (disch := first | omega | simp) [iv]
  have h : ∀ H2, Tri Try.prog 25 [.agg [iv 0, iv 0, .dsl 3 []], .agg [.p (.int .i64 0), .p (.int .i64 0), .p (.slice none 0 0)]] H2 (fun r H' => H' = H2 ∧ r = bv true) := fun H2 => by
    have h := c_RSamePart ⟨0, 0, []⟩ ⟨0, 0, []⟩ H2
    unfold Ty.av at h
    rw [Ty.cs_eq, Ty.same_self] at h
    exact Tri.args (.cons (.refl _) (.cons (.agg (.cons (.refl _) (.cons (.refl _) (.cons (Sub.nil 3 0 (Nat.zero_le _)) .nil)))) .nil)) h
  refine ca_pure (by kernel_rfl) (h _) ?_
  simp (disch := first | omega | simp) [bv]
  have hle : H.le ((H.up 2).put H.nx (.box 27 [.p (.int .i64 0), .dsl 3 [], .p (.int .i64 0), .p (.int .i64 0), .dsl 3 [], .p (.int .i64 0), .p (.int .i64 0), .dsl 8 []])) := (by repeat (first | with_reducible assumption | with_reducible exact AH.le.refl _ | with_reducible apply AH.le.up | (with_reducible refine AH.le.put hw ?_ ?_; · first | omega | (simp only [up_nx, put_nx, kill_nx]; done) | (simp only [up_nx, put_nx, kill_nx]; omega)) | (with_reducible refine AH.le.kill hw ?_ ?_; · first | omega | (simp only [up_nx, put_nx, kill_nx]; done) | (simp only [up_nx, put_nx, kill_nx]; omega))))
  refine rt_one hw hle (by repeat (first | exact Cl.p _ | exact Cl.dsl _ _ | exact Cl.any | refine Cl.tup ?_ | refine Cl.agg ?_ | exact Clo.nil | refine Clo.cons ?_ ?_)) ?_
  exact ⟨rfl, rfl⟩)
theorem c_shows {p : Pf} {l : List Ty} {g : Ty} {n : Nat} (h : PfOf p l g n) (ha : asksV l g = 0) (hN : Pf.All Pf.Nums p) : PF Try.prog 14 [p.av, tE l, g.av] (bv true) := fun H => tri_wf fun hw => tri_wordhoardlaw_shows (by
  obtain ⟨a1, a2, a3, a4, a5⟩ := asksV_ok ha
  have hst := h.steps
  obtain ⟨e1, e2, e3⟩ := h.head
  have hfit := h.fit (K := 16) a1 a2 (by omega)
  have hfine : Pf.All Pf.Fine p := hfit.imp fun q hq => ⟨hq.1, hq.2.1⟩
  have hshort : Pf.All Pf.Short p := hfit.imp fun q hq => by have := hq.2.2.1; unfold Pf.Short; omega
  have hnc : Pf.All (fun q => q.step ≠ 6) p := hfit.imp fun q hq => hq.2.2.2
  have hsz : p.size ≤ 21 := by omega
  have hcap : capN p.size 200 = p.size := by unfold capN; rw [if_pos (by omega)]
  have hle : (p.size : Int) ≤ 200 := by omega
  have hcs := Pf.cs_pC p
  have hsa : p.goal.av = .agg [iv p.goal.kind, iv p.goal.num, .dsl 3 (List.map Ty.cs p.goal.kids)] := (goal_av p).symm
  unfold S_wordhoardlaw_shows
  simp (disch := first | omega | simp) [Pf.av, Ty.av, put_get_ne, Pf.cs_len, Pf.cs_take]
  refine ca_pure (by kernel_rfl) (c_RProofSize p (by decide) (by decide) _) ?_
  simp (disch := first | omega | simp) [iv, hcap, hle, put_get_ne, Pf.cs_len, Pf.cs_take]
  refine ca_pure (by kernel_rfl) (c_RProofPartsN _ p (Nat.le_refl _) (by omega) hshort _) ?_
  rw [Pf.fine_chk hfine]
  simp (disch := first | omega | simp) [iv, put_get_ne, Pf.cs_len, Pf.cs_take]
  refine ca_pure (by kernel_rfl) (c_RRightN _ p (Nat.le_refl _) (by omega) hshort hfine hN _) ?_
  rw [h.rt]
  simp (disch := first | omega | simp) [bv, put_get_ne, Pf.cs_len, Pf.cs_take]
  refine ca_pure (by kernel_rfl) (c_RHasCutN _ p (Nat.le_refl _) (by omega) hnc _) ?_
  rw [hcs]
  unfold pC
  simp (disch := first | omega | simp) [bv, put_get_ne]
  refine ca_pure (by kernel_rfl) (c_RSameParts p.left l _) ?_
  have hs1 : Ty.sameL p.left l = true := (Ty.sameL_iff _ _).2 e1
  rw [hs1]
  simp (disch := first | omega | simp) [bv, put_get_ne, Ty.cs_len, Ty.cs_take]
  rw [← hsa]
  refine ca_pure (by kernel_rfl) (c_RSamePart p.goal g _) ?_
  rw [e2, Ty.same_self]
  simp (disch := first | omega | simp) [bv]
  exact rt_one hw (by repeat (first | with_reducible assumption | with_reducible exact AH.le.refl _ | with_reducible apply AH.le.up | (with_reducible refine AH.le.put hw ?_ ?_; · first | omega | (simp only [up_nx, put_nx, kill_nx]; done) | (simp only [up_nx, put_nx, kill_nx]; omega)) | (with_reducible refine AH.le.kill hw ?_ ?_; · first | omega | (simp only [up_nx, put_nx, kill_nx]; done) | (simp only [up_nx, put_nx, kill_nx]; omega)))) (by repeat (first | exact Cl.p _ | exact Cl.dsl _ _ | exact Cl.any | refine Cl.tup ?_ | refine Cl.agg ?_ | exact Clo.nil | refine Clo.cons ?_ ?_)) ⟨rfl, rfl⟩)
/-- a derivation's proof has numbers that can be -/
theorem PfOf.nums {p : Pf} {l : List Ty} {g : Ty} {n K : Nat} (h : PfOf p l g n) (hl : l.length + (Ty.sls l + g.sl) ≤ K) (hK : K ≤ 1000) : Pf.All Pf.Nums p := by
  have I : ∀ i : Nat, i ≤ 1000 → I64 (i : Int) := fun i hi => by unfold I64; omega
  induction h with
  | ax => exact .mk _ ⟨I 0 (by omega), I 0 (by omega)⟩ (fun k hk => by cases hk)
  | o _ _ ih =>
    refine .mk _ ⟨I 0 (by omega), I 0 (by omega)⟩ fun k hk => ?_
    simp only [List.mem_singleton] at hk; subst hk
    exact ih (by rw [Ty.sl_o] at hl; simp only [List.length_append, List.length_singleton, Ty.sls_app, Ty.sls_cons, Ty.sls_nil]; omega)
  | u _ _ ih =>
    refine .mk _ ⟨I 0 (by omega), I 0 (by omega)⟩ fun k hk => ?_
    simp only [List.mem_singleton] at hk; subst hk
    exact ih (by rw [Ty.sl_u] at hl; simp only [List.length_cons, Ty.sls_cons]; omega)
  | ol _ _ _ ih1 ih2 =>
    simp only [List.length_append, List.length_cons, Ty.sls_app, Ty.sls_cons, Ty.sl_o] at hl
    refine .mk _ ⟨I _ (by omega), I _ (by omega)⟩ fun k hk => ?_
    simp only [List.mem_cons, List.not_mem_nil, or_false] at hk
    rcases hk with rfl | rfl
    · exact ih1 (by omega)
    · exact ih2 (by simp only [List.length_append, List.length_cons, Ty.sls_app, Ty.sls_cons]; omega)
  | ul _ _ _ ih1 ih2 =>
    simp only [List.length_append, List.length_cons, Ty.sls_app, Ty.sls_cons, Ty.sl_u] at hl
    refine .mk _ ⟨I _ (by omega), I _ (by omega)⟩ fun k hk => ?_
    simp only [List.mem_cons, List.not_mem_nil, or_false] at hk
    rcases hk with rfl | rfl
    · exact ih1 (by omega)
    · exact ih2 (by simp only [List.length_append, List.length_cons, Ty.sls_app, Ty.sls_cons]; omega)
end Go.Proofs.Ytpmnlikgldacaaa

/- The statements about proofs: the walks. -/
namespace Go.Proofs.Ytpmnlikgldacaaa
open Go.RowKit Go.Maps
theorem c_base (n : Int) : PF Try.prog 38 [iv n] (Ty.av ⟨1, n, []⟩) := fun H => tri_wf fun hw => tri_wordhoardlaw_base (by
  unfold S_wordhoardlaw_base
  simp (disch := first | omega | simp) [iv]
  refine rt_sub hw (by repeat (first | with_reducible assumption | with_reducible exact AH.le.refl _ | with_reducible apply AH.le.up | (with_reducible refine AH.le.put hw ?_ ?_; · first | omega | (simp only [up_nx, put_nx, kill_nx]; done) | (simp only [up_nx, put_nx, kill_nx]; omega)) | (with_reducible refine AH.le.kill hw ?_ ?_; · first | omega | (simp only [up_nx, put_nx, kill_nx]; done) | (simp only [up_nx, put_nx, kill_nx]; omega)))) (by first | omega | (simp only [up_nx, put_nx]; done) | (simp only [up_nx, put_nx]; omega)) (v' := Ty.av ⟨1, n, []⟩) ?_ (.agg (Ty.cl _ _)) ⟨rfl, rfl⟩
  unfold Ty.av
  rw [Ty.cs_b]
  exact .agg (.cons (.refl _) (.cons (.refl _) (.cons (Sub.nil 3 0 (Nat.zero_le _)) .nil))))
theorem kids_row {H H1 : AH} {r : Nat} {x y : Ty} {k : Int} {Q : AV → AH → Prop} (hw : WF H) (hle : H.le H1) (hn : H.nx ≤ H1.nx) (hr : H.nx ≤ r) (hrow : H1.get r = some (.row 24 3 [x.cs, y.cs])) (hq : Q (.agg [.p (.int .i64 k), .p (.int .i64 0), .dsl 3 [x.cs, y.cs]]) H) :
    Rt Try.prog H.nx (.agg [.p (.int .i64 k), .p (.int .i64 0), .osl r 3 0 2]) Q H1 := by
  have hs : Sub Try.prog (H1.put r (.frz 3 [x.cs, y.cs])) (.osl r 3 0 2) (.dsl 3 [x.cs, y.cs]) := by
    have := Sub.frz (P := Try.prog) (H := H1.put r (.frz 3 [x.cs, y.cs])) (r := r) (off := 0) (n := 2) (put_get _ _) (by simp)
    exact this
  exact rt_row (n := 0) hw hn hr hle hrow (dt_ty [x, y]) (.agg (.cons (.refl _) (.cons (.refl _) (.cons hs .nil)))) (by repeat (first | exact Cl.p _ | exact Cl.dsl _ _ | exact Cl.any | refine Cl.tup ?_ | refine Cl.agg ?_ | exact Clo.nil | refine Clo.cons ?_ ?_)) hq
theorem c_over (x y : Ty) : PF Try.prog 31 [x.av, y.av] (Ty.o x y).av := fun H => tri_wf fun hw => tri_wordhoardlaw_over (by
  unfold S_wordhoardlaw_over
  simp (disch := first | omega | simp) [put_get_ne, Ty.av, Ty.cs_len, Ty.cs_take]
  refine kids_row (x := x) (y := y) hw (by repeat (first | with_reducible assumption | with_reducible exact AH.le.refl _ | with_reducible apply AH.le.up | (with_reducible refine AH.le.put hw ?_ ?_; · first | omega | (simp only [up_nx, put_nx, kill_nx]; done) | (simp only [up_nx, put_nx, kill_nx]; omega)) | (with_reducible refine AH.le.kill hw ?_ ?_; · first | omega | (simp only [up_nx, put_nx, kill_nx]; done) | (simp only [up_nx, put_nx, kill_nx]; omega)))) (by first | omega | (simp only [up_nx, put_nx]; done) | (simp only [up_nx, put_nx]; omega)) (by omega) (by simp (disch := first | omega | simp) [put_get_ne]; rw [Ty.cs_eq x, Ty.cs_eq y]; exact ⟨rfl, rfl⟩) ?_
  rw [Ty.cs_o]
  exact ⟨rfl, rfl⟩)
theorem c_under (y x : Ty) : PF Try.prog 32 [y.av, x.av] (Ty.u y x).av := fun H => tri_wf fun hw => tri_wordhoardlaw_under (by
  unfold S_wordhoardlaw_under
  simp (disch := first | omega | simp) [put_get_ne, Ty.av, Ty.cs_len, Ty.cs_take]
  refine kids_row (x := y) (y := x) hw (by repeat (first | with_reducible assumption | with_reducible exact AH.le.refl _ | with_reducible apply AH.le.up | (with_reducible refine AH.le.put hw ?_ ?_; · first | omega | (simp only [up_nx, put_nx, kill_nx]; done) | (simp only [up_nx, put_nx, kill_nx]; omega)) | (with_reducible refine AH.le.kill hw ?_ ?_; · first | omega | (simp only [up_nx, put_nx, kill_nx]; done) | (simp only [up_nx, put_nx, kill_nx]; omega)))) (by first | omega | (simp only [up_nx, put_nx]; done) | (simp only [up_nx, put_nx]; omega)) (by omega) (by simp (disch := first | omega | simp) [put_get_ne]; rw [Ty.cs_eq x, Ty.cs_eq y]; exact ⟨rfl, rfl⟩) ?_
  rw [Ty.cs_u]
  exact ⟨rfl, rfl⟩)
def b0 : Ty := ⟨1, 0, []⟩
def b1 : Ty := ⟨1, 1, []⟩
def lB : List Ty := [b0, Ty.o (Ty.u b0 b1) b0, b0]
theorem dvB_begun : Dv lB b1 := by
  have h1 : Dv ([] ++ ([b0] ++ Ty.u b0 b1 :: [])) b1 := .ul (by simp) (.ax b0) (.ax b1)
  have h2 : Dv ([b0] ++ Ty.o (Ty.u b0 b1) b0 :: ([b0] ++ [])) b1 := .ol (by simp) (.ax b0) (by simpa using h1)
  simpa [lB] using h2
theorem asks_begun : asksV lB b1 = 0 := by
  have g0 : Good b0 := by unfold Good Ty.check b0; simp [Ty.size, Ty.sizes, Ty.wrong, Ty.head, Ty.wrongs]
  have g1 : Good b1 := by unfold Good Ty.check b1; simp [Ty.size, Ty.sizes, Ty.wrong, Ty.head, Ty.wrongs]
  have gu : Good (Ty.o (Ty.u b0 b1) b0) := by unfold Good Ty.check b1 b0 Ty.o Ty.u; simp [Ty.size, Ty.sizes, Ty.wrong, Ty.head, Ty.wrongs]
  have hg : Goods (lB ++ [b1]) := .cons g0 (.cons gu (.cons g0 (.cons g1 .nil)))
  unfold asksV
  rw [if_neg (by simp [lB]), if_neg (by rw [chkL_ok hg]; simp), if_neg ?_]
  have h0 : b0.sl = 0 := by unfold b0; rw [Ty.sl]; simp
  have h1 : b1.sl = 0 := by unfold b1; rw [Ty.sl]; simp
  simp [lB, Ty.sls_cons, Ty.sls_nil, Ty.sl_o, Ty.sl_u, h0, h1]
theorem prove_yes {l : List Ty} {g : Ty} (ha : asksV l g = 0) (hd : Dv l g) : ∃ p n, PfOf p l g n ∧ proveR l g = .tup [p.av, bv true, iv 0] := by
  rcases proved_R l g with ⟨h, _⟩ | ⟨_, h, _⟩ | ⟨_, _, h⟩
  · exact absurd ha h
  · exact absurd hd h
  · exact h
theorem prove_no {l : List Ty} {g : Ty} (ha : asksV l g = 0) (hd : ¬ Dv l g) : proveR l g = .tup [zeroP.av, bv false, iv 0] := by
  rcases proved_R l g with ⟨h, _⟩ | ⟨_, _, h⟩ | ⟨_, h, _⟩
  · exact absurd ha h
  · exact h
  · exact absurd h hd
theorem prove_wrong {l : List Ty} {g : Ty} (ha : asksV l g ≠ 0) : proveR l g = .tup [zeroP.av, bv false, iv (asksV l g)] := by unfold proveR; rw [if_pos ha]
set_option maxHeartbeats 1000000 in
theorem c_begun : PF Try.prog 11 [] (bv true) := fun H => tri_wf fun hw => tri_wordhoardlaw_speechBegun (by
  unfold S_wordhoardlaw_speechBegun
  simp (disch := first | omega | simp) []
  refine ca_pure (by kernel_rfl) (c_base 0 _) ?_
  refine ca_pure (by kernel_rfl) (c_base 0 _) ?_
  refine ca_pure (by kernel_rfl) (c_base 1 _) ?_
  refine ca_pure (by kernel_rfl) (c_under b0 b1 _) ?_
  refine ca_pure (by kernel_rfl) (c_base 0 _) ?_
  refine ca_pure (by kernel_rfl) (c_over (Ty.u b0 b1) b0 _) ?_
  refine ca_pure (by kernel_rfl) (c_base 0 _) ?_
  simp (disch := first | omega | simp) [Ty.av, Ty.cs_len]
  refine ca_pure (by kernel_rfl) (c_base 1 _) ?_
  have hrow : ∀ M : AH, (M.put (H.nx + 7) (.row 24 3 [b0.cs, (Ty.o (Ty.u b0 b1) b0).cs, b0.cs])).get (H.nx + 7) = some (.row 24 3 [b0.cs, (Ty.o (Ty.u b0 b1) b0).cs, b0.cs]) := fun M => put_get _ _
  refine ca_of (by kernel_rfl) (Tri.st (.freeze (hrow _) (dt_ty [b0, Ty.o (Ty.u b0 b1) b0, b0])) (Tri.args (.cons (Sub.frz (put_get _ _) (by simp)) (.cons (.refl _) .nil)) (c_Prove lB b1 _))) ?_
  rintro _ _ ⟨rfl, rfl⟩
  obtain ⟨p, n, hp, hr⟩ := prove_yes asks_begun dvB_begun
  rw [hr]
  simp (disch := first | omega | simp) [Pf.av, bv, iv, Pf.cs_len]
  exact rt_one hw (by repeat (first | with_reducible assumption | with_reducible exact AH.le.refl _ | with_reducible apply AH.le.up | (with_reducible refine AH.le.put hw ?_ ?_; · first | omega | (simp only [up_nx, put_nx, kill_nx]; done) | (simp only [up_nx, put_nx, kill_nx]; omega)) | (with_reducible refine AH.le.kill hw ?_ ?_; · first | omega | (simp only [up_nx, put_nx, kill_nx]; done) | (simp only [up_nx, put_nx, kill_nx]; omega)))) (by repeat (first | exact Cl.p _ | exact Cl.dsl _ _ | exact Cl.any | refine Cl.tup ?_ | refine Cl.agg ?_ | exact Clo.nil | refine Clo.cons ?_ ?_)) ⟨rfl, rfl⟩)
set_option maxHeartbeats 1000000 in
theorem w_SpeechProves (l : List Ty) (g : Ty) : PF Try.prog 3 [tE l, g.av] (bv true) := fun H => tri_wf fun hw => tri_wordhoardlaw_SpeechProves (by
  unfold S_wordhoardlaw_SpeechProves
  simp (disch := first | omega | simp) [Ty.av, Ty.cs_len, Ty.cs_take]
  refine ca_pure (by kernel_rfl) (c_Prove l g _) ?_
  by_cases ha : asksV l g = 0
  · obtain ⟨a1, a2, a3, a4, a5⟩ := asksV_ok ha
    by_cases hd : Dv l g
    · obtain ⟨p, n, hp, hr⟩ := prove_yes ha hd
      rw [hr]
      simp (disch := first | omega | simp) [Pf.av, bv, iv, Pf.cs_len, put_get_ne, Ty.cs_len, Ty.cs_take]
      refine ca_pure (by kernel_rfl) (c_RAsks l g _) ?_
      refine ca_pure (by kernel_rfl) (c_begun _) ?_
      simp (disch := first | omega | simp) [ha, bv, iv, put_get_ne, Ty.cs_len, Ty.cs_take]
      refine ca_pure (by kernel_rfl) (c_RProves a1 a2 (by omega) _) ?_
      rw [dvB_yes hd]
      simp (disch := first | omega | simp) [bv, put_get_ne, Ty.cs_len, Ty.cs_take, Pf.cs_len, Pf.cs_take]
      refine ca_pure (by kernel_rfl) (c_shows hp ha (hp.nums (K := 16) (by omega) (by omega)) _) ?_
      simp (disch := first | omega | simp) [bv]
      exact rt_one hw (by repeat (first | with_reducible assumption | with_reducible exact AH.le.refl _ | with_reducible apply AH.le.up | (with_reducible refine AH.le.put hw ?_ ?_; · first | omega | (simp only [up_nx, put_nx, kill_nx]; done) | (simp only [up_nx, put_nx, kill_nx]; omega)) | (with_reducible refine AH.le.kill hw ?_ ?_; · first | omega | (simp only [up_nx, put_nx, kill_nx]; done) | (simp only [up_nx, put_nx, kill_nx]; omega)))) (by repeat (first | exact Cl.p _ | exact Cl.dsl _ _ | exact Cl.any | refine Cl.tup ?_ | refine Cl.agg ?_ | exact Clo.nil | refine Clo.cons ?_ ?_)) ⟨rfl, rfl⟩
    · rw [prove_no ha hd]
      simp (disch := first | omega | simp) [Pf.av, bv, iv, Pf.cs_len, put_get_ne, Ty.cs_len, Ty.cs_take]
      refine ca_pure (by kernel_rfl) (c_RAsks l g _) ?_
      refine ca_pure (by kernel_rfl) (c_begun _) ?_
      simp (disch := first | omega | simp) [ha, bv, iv, put_get_ne, Ty.cs_len, Ty.cs_take]
      refine ca_pure (by kernel_rfl) (c_RProves a1 a2 (by omega) _) ?_
      rw [dvB_no hd]
      simp (disch := first | omega | simp) [bv, Pf.cs_len, Pf.cs_take]
      refine ca_pure (by kernel_rfl) (c_noProof _) ?_
      simp (disch := first | omega | simp) [bv]
      exact rt_one hw (by repeat (first | with_reducible assumption | with_reducible exact AH.le.refl _ | with_reducible apply AH.le.up | (with_reducible refine AH.le.put hw ?_ ?_; · first | omega | (simp only [up_nx, put_nx, kill_nx]; done) | (simp only [up_nx, put_nx, kill_nx]; omega)) | (with_reducible refine AH.le.kill hw ?_ ?_; · first | omega | (simp only [up_nx, put_nx, kill_nx]; done) | (simp only [up_nx, put_nx, kill_nx]; omega)))) (by repeat (first | exact Cl.p _ | exact Cl.dsl _ _ | exact Cl.any | refine Cl.tup ?_ | refine Cl.agg ?_ | exact Clo.nil | refine Clo.cons ?_ ?_)) ⟨rfl, rfl⟩
  · rw [prove_wrong ha]
    simp (disch := first | omega | simp) [Pf.av, bv, iv, Pf.cs_len, put_get_ne, Ty.cs_len, Ty.cs_take]
    refine ca_pure (by kernel_rfl) (c_RAsks l g _) ?_
    refine ca_pure (by kernel_rfl) (c_begun _) ?_
    simp (disch := first | omega | simp) [ha, bv, iv, Pf.cs_len, Pf.cs_take]
    refine ca_pure (by kernel_rfl) (c_noProof _) ?_
    simp (disch := first | omega | simp) [bv]
    exact rt_one hw (by repeat (first | with_reducible assumption | with_reducible exact AH.le.refl _ | with_reducible apply AH.le.up | (with_reducible refine AH.le.put hw ?_ ?_; · first | omega | (simp only [up_nx, put_nx, kill_nx]; done) | (simp only [up_nx, put_nx, kill_nx]; omega)) | (with_reducible refine AH.le.kill hw ?_ ?_; · first | omega | (simp only [up_nx, put_nx, kill_nx]; done) | (simp only [up_nx, put_nx, kill_nx]; omega)))) (by repeat (first | exact Cl.p _ | exact Cl.dsl _ _ | exact Cl.any | refine Cl.tup ?_ | refine Cl.agg ?_ | exact Clo.nil | refine Clo.cons ?_ ?_)) ⟨rfl, rfl⟩)
set_option maxHeartbeats 1000000 in
theorem w_SpeechRight {p : Pf} (hN : Pf.All Pf.Nums p) : PF Try.prog 6 [p.av] (bv true) := fun H => tri_wf fun hw => tri_wordhoardlaw_SpeechRight (by
  unfold S_wordhoardlaw_SpeechRight
  simp (disch := first | omega | simp) [Pf.av, Pf.cs_len, Pf.cs_take]
  refine ca_pure (by kernel_rfl) (c_Right hN _) ?_
  simp (disch := first | omega | simp) [Pf.cs_len, Pf.cs_take]
  refine ca_pure (by kernel_rfl) (c_asksRight p _) ?_
  refine ca_pure (by kernel_rfl) (c_begun _) ?_
  by_cases ha : asksP p = 0
  · obtain ⟨h1, h2, h3⟩ := asksP_ok ha
    simp (disch := first | omega | simp) [bv, iv, ha, Pf.cs_len, Pf.cs_take]
    refine ca_pure (by kernel_rfl) (c_RRightN _ p (Nat.le_refl _) (by omega) h2 h3 hN _) ?_
    simp (disch := first | omega | simp) [bv]
    exact rt_one hw (by repeat (first | with_reducible assumption | with_reducible exact AH.le.refl _ | with_reducible apply AH.le.up | (with_reducible refine AH.le.put hw ?_ ?_; · first | omega | (simp only [up_nx, put_nx, kill_nx]; done) | (simp only [up_nx, put_nx, kill_nx]; omega)) | (with_reducible refine AH.le.kill hw ?_ ?_; · first | omega | (simp only [up_nx, put_nx, kill_nx]; done) | (simp only [up_nx, put_nx, kill_nx]; omega)))) (by repeat (first | exact Cl.p _ | exact Cl.dsl _ _ | exact Cl.any | refine Cl.tup ?_ | refine Cl.agg ?_ | exact Clo.nil | refine Clo.cons ?_ ?_)) ⟨rfl, rfl⟩
  · simp (disch := first | omega | simp) [bv, iv, ha]
    exact rt_one hw (by repeat (first | with_reducible assumption | with_reducible exact AH.le.refl _ | with_reducible apply AH.le.up | (with_reducible refine AH.le.put hw ?_ ?_; · first | omega | (simp only [up_nx, put_nx, kill_nx]; done) | (simp only [up_nx, put_nx, kill_nx]; omega)) | (with_reducible refine AH.le.kill hw ?_ ?_; · first | omega | (simp only [up_nx, put_nx, kill_nx]; done) | (simp only [up_nx, put_nx, kill_nx]; omega)))) (by repeat (first | exact Cl.p _ | exact Cl.dsl _ _ | exact Cl.any | refine Cl.tup ?_ | refine Cl.agg ?_ | exact Clo.nil | refine Clo.cons ?_ ?_)) ⟨rfl, rfl⟩)
/-- what Cutless answers -/
noncomputable def cutR (p : Pf) : AV := if asksP p ≠ 0 then .tup [zeroP.av, iv (asksP p)] else if p.rt = false then .tup [zeroP.av, iv 1] else match proveR p.left p.goal with
  | .tup [q, _, e] => .tup [q, e]
  | v => v
theorem rt_zero2 {H H1 : AH} {Q : AV → AH → Prop} {e : Int} (hw : WF H) (hle : H.le H1) (hn : H.nx ≤ H1.nx) (hq : Q (.tup [zeroP.av, iv e]) H) : Rt Try.prog H.nx (.tup [.agg [.p (.int .i64 0), .p (.slice none 0 0), .p (.int .i64 0), .p (.int .i64 0), .p (.slice none 0 0), .p (.int .i64 0), .p (.int .i64 0), .p (.slice none 0 0)], .p (.int .i64 e)]) Q H1 :=
  rt_sub hw hle hn (.tup (.cons sub_zeroA (.cons (.refl _) .nil))) (.tup (.cons (.agg (Pf.cl _ _)) (.cons (Cl.p _) .nil))) hq
theorem proveR_form (l : List Ty) (g : Ty) : ∃ (q : Pf) (b : Bool) (e : Int), proveR l g = .tup [q.av, bv b, iv e] := by
  rcases proved_R l g with ⟨_, h⟩ | ⟨_, _, h⟩ | ⟨_, _, p, n, _, h⟩
  · exact ⟨_, _, _, h⟩
  · exact ⟨_, _, _, h⟩
  · exact ⟨_, _, _, h⟩
set_option maxHeartbeats 1000000 in
theorem c_Cutless {p : Pf} (hN : Pf.All Pf.Nums p) : PF Try.prog 29 [p.av] (cutR p) := fun H => tri_wf fun hw => tri_speech_Cutless (by
  unfold S_speech_Cutless
  simp (disch := first | omega | simp) [Pf.av, put_get_ne, Pf.cs_len, Pf.cs_take]
  refine ca_pure (by kernel_rfl) (c_Right hN _) ?_
  by_cases ha : asksP p = 0
  · cases hr : p.rt with
    | false =>
      simp (disch := first | omega | simp) [bv, iv, ha]
      unfold S_speech_Cutless_C1
      simp (disch := first | omega | simp)
      exact rt_zero2 hw (by repeat (first | with_reducible assumption | with_reducible exact AH.le.refl _ | with_reducible apply AH.le.up | (with_reducible refine AH.le.put hw ?_ ?_; · first | omega | (simp only [up_nx, put_nx, kill_nx]; done) | (simp only [up_nx, put_nx, kill_nx]; omega)) | (with_reducible refine AH.le.kill hw ?_ ?_; · first | omega | (simp only [up_nx, put_nx, kill_nx]; done) | (simp only [up_nx, put_nx, kill_nx]; omega)))) (by first | omega | (simp only [up_nx, put_nx]; done) | (simp only [up_nx, put_nx]; omega)) ⟨rfl, by unfold cutR; rw [if_neg (by simp [ha]), if_pos hr]⟩
    | true =>
      simp (disch := first | omega | simp) [bv, iv, ha]
      unfold S_speech_Cutless_C1
      have hcs := Pf.cs_pC p
      rw [hcs]
      unfold pC
      simp (disch := first | omega | simp) [put_get_ne]
      rw [show AV.agg [iv p.goal.kind, iv p.goal.num, AV.dsl 3 (List.map Ty.cs p.goal.kids)] = p.goal.av from goal_av p]
      refine ca_pure (by kernel_rfl) (c_Prove p.left p.goal _) ?_
      obtain ⟨q, b, e, hq⟩ := proveR_form p.left p.goal
      rw [hq]
      simp (disch := first | omega | simp) [Pf.av, bv, iv, put_get_ne, Pf.cs_len, Pf.cs_take]
      exact rt_one hw (by repeat (first | with_reducible assumption | with_reducible exact AH.le.refl _ | with_reducible apply AH.le.up | (with_reducible refine AH.le.put hw ?_ ?_; · first | omega | (simp only [up_nx, put_nx, kill_nx]; done) | (simp only [up_nx, put_nx, kill_nx]; omega)) | (with_reducible refine AH.le.kill hw ?_ ?_; · first | omega | (simp only [up_nx, put_nx, kill_nx]; done) | (simp only [up_nx, put_nx, kill_nx]; omega)))) (.tup (.cons (.agg (Pf.cl _ _)) (.cons (Cl.p _) .nil))) ⟨rfl, by unfold cutR; rw [if_neg (by simp [ha]), if_neg (by simp [hr]), hq]; rfl⟩
  · simp (disch := first | omega | simp) [bv, iv, ha]
    exact rt_zero2 hw (by repeat (first | with_reducible assumption | with_reducible exact AH.le.refl _ | with_reducible apply AH.le.up | (with_reducible refine AH.le.put hw ?_ ?_; · first | omega | (simp only [up_nx, put_nx, kill_nx]; done) | (simp only [up_nx, put_nx, kill_nx]; omega)) | (with_reducible refine AH.le.kill hw ?_ ?_; · first | omega | (simp only [up_nx, put_nx, kill_nx]; done) | (simp only [up_nx, put_nx, kill_nx]; omega)))) (by first | omega | (simp only [up_nx, put_nx]; done) | (simp only [up_nx, put_nx]; omega)) ⟨rfl, by unfold cutR; rw [if_pos ha]⟩)
set_option maxHeartbeats 1000000 in
theorem w_SpeechCutless {p : Pf} (hN : Pf.All Pf.Nums p) : PF Try.prog 7 [p.av] (bv true) := fun H => tri_wf fun hw => tri_wordhoardlaw_SpeechCutless (by
  unfold S_wordhoardlaw_SpeechCutless
  have hgv : ∀ q : Pf, AV.agg [iv q.goal.kind, iv q.goal.num, AV.dsl 3 (List.map Ty.cs q.goal.kids)] = q.goal.av := fun q => goal_av q
  by_cases ha : asksP p = 0
  · obtain ⟨h1, h2, h3⟩ := asksP_ok ha
    cases hr : p.rt with
    | false =>
      have hc : cutR p = .tup [zeroP.av, iv 1] := by unfold cutR; rw [if_neg (by simp [ha]), if_pos hr]
      simp (disch := first | omega | simp) [Pf.av, Pf.cs_len, Pf.cs_take]
      refine ca_pure (by kernel_rfl) (c_Cutless hN _) ?_
      rw [hc]
      simp (disch := first | omega | simp) [Pf.av, bv, iv, put_get_ne, Pf.cs_len, Pf.cs_take]
      refine ca_pure (by kernel_rfl) (c_asksRight p _) ?_
      generalize hM : AH.put _ _ _ = M
      have hMl : H.le M := by rw [← hM]; exact (by repeat (first | with_reducible assumption | with_reducible exact AH.le.refl _ | with_reducible apply AH.le.up | (with_reducible refine AH.le.put hw ?_ ?_; · first | omega | (simp only [up_nx, put_nx, kill_nx]; done) | (simp only [up_nx, put_nx, kill_nx]; omega)) | (with_reducible refine AH.le.kill hw ?_ ?_; · first | omega | (simp only [up_nx, put_nx, kill_nx]; done) | (simp only [up_nx, put_nx, kill_nx]; omega))))
      have hz : M.get (H.nx + 2 + 5) = some (.box 27 zeroP.cs) := by rw [← hM, put_get]
      have hp : M.get H.nx = some (.box 27 p.cs) := by rw [← hM]; simp (disch := first | omega | simp) [put_get_ne]
      clear hM
      refine cut_go (vs := [iv 1]) (H' := M) (Nat.le_refl _) (fun k hk => ?_) ?_
      · simp (disch := first | omega | simp) [ha, iv, hp, Pf.cs_len, Pf.cs_take]
        refine ca_pure (by kernel_rfl) (c_RRightN _ p (Nat.le_refl _) (by omega) h2 h3 hN _) ?_
        rw [hr]
        simp (disch := first | omega | simp) [bv]
        exact hk
      · unfold S_wordhoardlaw_SpeechCutless_K2
        refine cut_go (vs := [iv 1]) (H' := M) (Nat.le_refl _) (fun k hk => ?_) ?_
        · simp (disch := first | omega | simp) [iv] at hk ⊢; exact hk
        · unfold S_wordhoardlaw_SpeechCutless_K1
          refine ca_pure (by kernel_rfl) (c_begun _) ?_
          simp (disch := first | omega | simp) [bv, iv, hz, Pf.cs_len, Pf.cs_take]
          refine ca_pure (by kernel_rfl) (c_noProof _) ?_
          exact rt_one hw hMl (by repeat (first | exact Cl.p _ | exact Cl.dsl _ _ | exact Cl.any | refine Cl.tup ?_ | refine Cl.agg ?_ | exact Clo.nil | refine Clo.cons ?_ ?_)) ⟨rfl, rfl⟩
    | true =>
      have hd := Pf.rt_dv _ p (Nat.le_refl _) h3 hr
      have hgen : ∀ (q : Pf) (b : Bool) (e : Int), proveR p.left p.goal = .tup [q.av, bv b, iv e] → e = asksV p.left p.goal → (e ≠ 0 → q = zeroP) → (e = 0 → ∃ n, PfOf q p.left p.goal n) →
          (cutR p = .tup [q.av, iv e]) := fun q b e h _ _ _ => by unfold cutR; rw [if_neg (by simp [ha]), if_neg (by simp [hr]), h]
      have hform : ∃ (q : Pf) (e : Int), cutR p = .tup [q.av, iv e] ∧ e = asksV p.left p.goal ∧ (e ≠ 0 → q = zeroP) ∧ (e = 0 → ∃ n, PfOf q p.left p.goal n) := by
        by_cases hv : asksV p.left p.goal = 0
        · obtain ⟨q, n, hq, he⟩ := prove_yes hv hd
          exact ⟨q, 0, hgen q true 0 he hv.symm (fun h => absurd rfl h) (fun _ => ⟨n, hq⟩), hv.symm, fun h => absurd rfl h, fun _ => ⟨n, hq⟩⟩
        · exact ⟨zeroP, asksV p.left p.goal, hgen zeroP false _ (prove_wrong hv) rfl (fun _ => rfl) (fun h => absurd h hv), rfl, fun _ => rfl, fun h => absurd h hv⟩
      obtain ⟨q, e, hc, he, hez, hen⟩ := hform
      simp (disch := first | omega | simp) [Pf.av, Pf.cs_len, Pf.cs_take]
      refine ca_pure (by kernel_rfl) (c_Cutless hN _) ?_
      rw [hc]
      simp (disch := first | omega | simp) [Pf.av, bv, iv, put_get_ne, Pf.cs_len, Pf.cs_take]
      refine ca_pure (by kernel_rfl) (c_asksRight p _) ?_
      generalize hM : AH.put _ _ _ = M
      have hMl : H.le M := by rw [← hM]; exact (by repeat (first | with_reducible assumption | with_reducible exact AH.le.refl _ | with_reducible apply AH.le.up | (with_reducible refine AH.le.put hw ?_ ?_; · first | omega | (simp only [up_nx, put_nx, kill_nx]; done) | (simp only [up_nx, put_nx, kill_nx]; omega)) | (with_reducible refine AH.le.kill hw ?_ ?_; · first | omega | (simp only [up_nx, put_nx, kill_nx]; done) | (simp only [up_nx, put_nx, kill_nx]; omega))))
      have hz : M.get (H.nx + 2 + 5) = some (.box 27 q.cs) := by rw [← hM, put_get]
      have hp : M.get H.nx = some (.box 27 p.cs) := by rw [← hM]; simp (disch := first | omega | simp) [put_get_ne]
      have hp2 := hp
      rw [Pf.cs_pC] at hp2
      unfold pC at hp2
      clear hM
      refine cut_go (vs := [iv 0]) (H' := M) (Nat.le_refl _) (fun k hk => ?_) ?_
      · simp (disch := first | omega | simp) [ha, iv, hp, Pf.cs_len, Pf.cs_take]
        refine ca_pure (by kernel_rfl) (c_RRightN _ p (Nat.le_refl _) (by omega) h2 h3 hN _) ?_
        rw [hr]
        simp (disch := first | omega | simp) [bv]
        exact hk
      · unfold S_wordhoardlaw_SpeechCutless_K2
        refine cut_go (vs := [iv e]) (H' := M) (Nat.le_refl _) (fun k hk => ?_) ?_
        · simp (disch := first | omega | simp) [iv, hp2]
          have hgv' := hgv p
          unfold iv at hgv'
          rw [hgv']
          refine ca_pure (by kernel_rfl) (c_RAsks p.left p.goal _) ?_
          rw [← he]; exact hk
        · unfold S_wordhoardlaw_SpeechCutless_K1
          refine ca_pure (by kernel_rfl) (c_begun _) ?_
          by_cases h0 : e = 0
          · obtain ⟨n, hn⟩ := hen h0
            have hv : asksV p.left p.goal = 0 := by rw [← he, h0]
            obtain ⟨a1, a2, a3, a4, a5⟩ := asksV_ok hv
            simp (disch := first | omega | simp) [bv, iv, h0, hz, hp2, Pf.cs_len, Pf.cs_take]
            have hgv' := hgv p
            unfold iv at hgv'
            rw [hgv']
            refine ca_pure (by kernel_rfl) (c_shows hn hv (hn.nums (K := 16) (by omega) (by omega)) _) ?_
            exact rt_one hw hMl (by repeat (first | exact Cl.p _ | exact Cl.dsl _ _ | exact Cl.any | refine Cl.tup ?_ | refine Cl.agg ?_ | exact Clo.nil | refine Clo.cons ?_ ?_)) ⟨rfl, rfl⟩
          · have hqz := hez h0
            subst hqz
            simp (disch := first | omega | simp) [bv, iv, h0, hz, Pf.cs_len, Pf.cs_take]
            refine ca_pure (by kernel_rfl) (c_noProof _) ?_
            exact rt_one hw hMl (by repeat (first | exact Cl.p _ | exact Cl.dsl _ _ | exact Cl.any | refine Cl.tup ?_ | refine Cl.agg ?_ | exact Clo.nil | refine Clo.cons ?_ ?_)) ⟨rfl, rfl⟩
  · have hc : cutR p = .tup [zeroP.av, iv (asksP p)] := by unfold cutR; rw [if_pos ha]
    simp (disch := first | omega | simp) [Pf.av, Pf.cs_len, Pf.cs_take]
    refine ca_pure (by kernel_rfl) (c_Cutless hN _) ?_
    rw [hc]
    simp (disch := first | omega | simp) [Pf.av, bv, iv, put_get_ne, Pf.cs_len, Pf.cs_take]
    refine ca_pure (by kernel_rfl) (c_asksRight p _) ?_
    generalize hM : AH.put _ _ _ = M
    have hMl : H.le M := by rw [← hM]; exact (by repeat (first | with_reducible assumption | with_reducible exact AH.le.refl _ | with_reducible apply AH.le.up | (with_reducible refine AH.le.put hw ?_ ?_; · first | omega | (simp only [up_nx, put_nx, kill_nx]; done) | (simp only [up_nx, put_nx, kill_nx]; omega)) | (with_reducible refine AH.le.kill hw ?_ ?_; · first | omega | (simp only [up_nx, put_nx, kill_nx]; done) | (simp only [up_nx, put_nx, kill_nx]; omega))))
    have hz : M.get (H.nx + 2 + 5) = some (.box 27 zeroP.cs) := by rw [← hM, put_get]
    clear hM
    refine cut_go (vs := [iv (asksP p)]) (H' := M) (Nat.le_refl _) (fun k hk => ?_) ?_
    · simp (disch := first | omega | simp) [ha, iv]
      exact hk
    · unfold S_wordhoardlaw_SpeechCutless_K2
      refine cut_go (vs := [iv (asksP p)]) (H' := M) (Nat.le_refl _) (fun k hk => ?_) ?_
      · simp (disch := first | omega | simp) [ha, iv] at hk ⊢; exact hk
      · unfold S_wordhoardlaw_SpeechCutless_K1
        refine ca_pure (by kernel_rfl) (c_begun _) ?_
        simp (disch := first | omega | simp) [bv, iv, ha, hz, Pf.cs_len, Pf.cs_take]
        refine ca_pure (by kernel_rfl) (c_noProof _) ?_
        exact rt_one hw hMl (by repeat (first | exact Cl.p _ | exact Cl.dsl _ _ | exact Cl.any | refine Cl.tup ?_ | refine Cl.agg ?_ | exact Clo.nil | refine Clo.cons ?_ ?_)) ⟨rfl, rfl⟩)
end Go.Proofs.Ytpmnlikgldacaaa

/- Readings of trees: what comes in at a type that holds itself. Nothing of the program is named here. -/
namespace Go.Proofs.Ytpmnlikgldacaaa
open Go.ChangeShapes Go.WideShapes Go.RowKit

def OpensN {α : Type} (P : Program) (t : TypeId) (ρ : Rep α) (N : Nat) : Prop :=
  ∀ (H : Type) (enc : TypeId × Value → H) (w : World) (base : Nat) (spare : Nat → Bool) (held : Bool) (fuel : Nat) (cs : List Value) (x : DataW H × List MemPlace), fuel ≤ N →
    DataW.trod enc P w base spare held fuel t cs = some x → ∃ y, ρ.R w (fun b => b < w.heap.size) cs y ∧ ρ.bulk y ≤ Rows.uptoBulk x.1
theorem Opens.n {α : Type} {P : Program} {t : TypeId} {ρ : Rep α} (h : Opens P t ρ) (N : Nat) : OpensN P t ρ N := fun H enc w base spare held fuel cs x _ hx => h H enc w base spare held fuel cs x hx
theorem OpensN.map {α β : Type} {P : Program} {t : TypeId} {ρ : Rep α} {σ : Rep β} {N : Nat} (h : OpensN P t ρ N) (f : α → β) (hr : ∀ w S cs y, ρ.R w S cs y → σ.R w S cs (f y)) (hb : ∀ y, σ.bulk (f y) ≤ ρ.bulk y) : OpensN P t σ N := by
  intro H enc w base spare held fuel cs x hf hx
  obtain ⟨y, h1, h2⟩ := h H enc w base spare held fuel cs x hf hx
  exact ⟨f y, hr _ _ _ _ h1, Nat.le_trans (hb y) h2⟩
/-- the same, by what may be used at one place alone -/
def trodAs {α : Type} (P : Program) (t : TypeId) (ρ : Rep α) (N : Nat) (H : Type) (enc : TypeId × Value → H) (w : World) (base : Nat) (spare : Nat → Bool) (held : Bool) : Prop :=
  ∀ (fuel : Nat) (cs : List Value) (x : DataW H × List MemPlace), fuel ≤ N → DataW.trod enc P w base spare held fuel t cs = some x → ∃ y, ρ.R w (fun b => b < w.heap.size) cs y ∧ ρ.bulk y ≤ Rows.uptoBulk x.1
theorem opensN_slice {α : Type} {ρ : Rep α} {P : Program} {t e : TypeId} {N : Nat} (ht : P.underlying t = some (.slice e)) (hs : P.cellsOf e = ρ.size) (hp : 0 < ρ.size) (he : OpensN P e ρ N) : OpensN P t (rList ρ) (N + 1) := by
  intro H enc w base spare held fuel cs x hfuel h
  rcases DataW.trod_slice ht h with ⟨rfl, rfl⟩ | ⟨a, len, cap, elems, rest, n, hn, rfl, rfl, _, hl, hm, hlen, hel, _, _⟩
  · exact ⟨[], ⟨none, 0, rfl, Sl.nil_⟩, by simp [rList, Rows.uptoBulk]⟩
  · have key : ∀ i, i < len → ∃ y, (a.block < w.heap.size ∧ (∃ u, ρ.R w (fun b => b < w.heap.size) u y ∧ ∀ j z, u[j]? = some z → w.cell? (a.add (i * ρ.size + j)) = some z)) ∧ ∀ d, (elems.map (·.1))[i]? = some d → ρ.bulk y ≤ Rows.uptoBulk d := by
      intro i hi
      have h1 := hel i hi
      rw [List.getElem?_eq_getElem (by omega)] at h1
      cases hc : w.cells? base (a.add (i * P.cellsOf e)) (P.cellsOf e) with
      | none => rw [hc] at h1; simp at h1
      | some us =>
        rw [hc] at h1
        simp only [Option.bind_some] at h1
        obtain ⟨y, hy, hb⟩ := he H enc w base spare held n us _ (by omega) h1
        obtain ⟨_, hcl, hat⟩ := World.cells?_some hc
        have hcell : ∀ j z, us[j]? = some z → w.cell? (a.add (i * ρ.size + j)) = some z := by
          intro j z hz
          have hj : j < P.cellsOf e := by have := (List.getElem?_eq_some_iff.1 hz).1; omega
          have := hat j hj
          rw [hz, add_of_add, hs] at this; exact this
        refine ⟨y, ⟨?_, us, hy, hcell⟩, fun d hd => ?_⟩
        · have h0 : 0 < us.length := by rw [ρ.len hy]; exact hp
          have := World.block_lt_of_cell? w _ (hcell 0 _ (List.getElem?_eq_getElem h0))
          rwa [block_of_add] at this
        · rw [List.getElem?_map, List.getElem?_eq_getElem (by omega)] at hd
          simp at hd; subst hd; exact hb
    obtain ⟨ys, hyl, hq⟩ := pick len key
    refine ⟨ys, ⟨some a, cap, by rw [hyl], by omega, hm, fun i y hy => ?_⟩, ?_⟩
    · obtain ⟨⟨hb, u, hr, hc⟩, _⟩ := hq i y hy
      exact ⟨a, u, rfl, hb, hr, hc⟩
    · have := sum_le ρ.bulk ys (elems.map (·.1)) (by rw [List.length_map]; omega) fun i y d hy hd => (hq i y hy).2 d hd
      simp only [rList, Rows.uptoBulk]; omega
def OpensLN {α : Type} (P : Program) (l : List Field) (off : Nat) (ρ : Rep α) (N : Nat) : Prop :=
  ∀ (H : Type) (enc : TypeId × Value → H) (w : World) (base : Nat) (spare : Nat → Bool) (held : Bool) (fuel : Nat) (cs : List Value) (xs : List (DataW H × List MemPlace)), fuel ≤ N →
    cs.length = off + ρ.size → xs.length = l.length → (∀ (i : Nat) (f : Field), l[i]? = some f → DataW.trod enc P w base spare held fuel f.type ((cs.drop f.offset).take (P.cellsOf f.type)) = xs[i]?) →
    ∃ y, ρ.R w (fun b => b < w.heap.size) (cs.drop off) y ∧ ρ.bulk y ≤ Rows.uptoBulkAll (xs.map (·.1))
theorem opensN_last {α : Type} {ρ : Rep α} {P : Program} {f : Field} {off N : Nat} (ho : f.offset = off) (hs : P.cellsOf f.type = ρ.size) (hf : OpensN P f.type ρ N) : OpensLN P [f] off ρ N := by
  intro H enc w base spare held fuel cs xs hfu hl hx h
  match xs, hx with
  | [x], _ =>
    have h0 := h 0 f rfl
    rw [ho, hs, List.take_of_length_le (by rw [List.length_drop]; omega)] at h0
    obtain ⟨y, hy, hb⟩ := hf H enc w base spare held fuel _ x hfu h0
    exact ⟨y, hy, by simp only [List.map_cons, List.map_nil, Rows.uptoBulkAll]; omega⟩
theorem opensN_more {α β : Type} {ρ : Rep α} {σ : Rep β} {P : Program} {f : Field} {l : List Field} {off N : Nat} (ho : f.offset = off) (hs : P.cellsOf f.type = ρ.size) (hf : OpensN P f.type ρ N) (hl : OpensLN P l (off + ρ.size) σ N) :
    OpensLN P (f :: l) off (rPair ρ σ) N := by
  intro H enc w base spare held fuel cs xs hfu hcs hx h
  match xs, hx with
  | x :: xs, hx =>
    have h0 := h 0 f rfl
    rw [ho, hs] at h0
    have hz : (rPair ρ σ).size = ρ.size + σ.size := rfl
    obtain ⟨y, hy, hb⟩ := hf H enc w base spare held fuel _ x hfu h0
    obtain ⟨z, hz, hb'⟩ := hl H enc w base spare held fuel cs xs hfu (by omega) (by simpa using hx) fun i f hi => h (i + 1) f (by simpa using hi)
    refine ⟨(y, z), ⟨_, _, ?_, hy, hz⟩, ?_⟩
    · rw [← List.drop_drop, List.take_append_drop]
    · simp only [rPair, List.map_cons, Rows.uptoBulkAll]; omega
theorem opensN_struct {α : Type} {ρ : Rep α} {P : Program} {t : TypeId} {l : List Field} {N : Nat} (ht : P.underlying t = some (.struct l.toArray)) (hs : P.cellsOf t = ρ.size) (hl : OpensLN P l 0 ρ N) : OpensN P t ρ (N + 1) := by
  intro H enc w base spare held fuel cs x hfu h
  obtain ⟨xs, n, hn, rfl, hcs, hx, hf⟩ := DataW.trod_struct ht h
  obtain ⟨y, hy, hb⟩ := hl H enc w base spare held n cs xs (by omega) (by omega) (by simpa using hx) fun i f hi => hf i f (by simpa using hi)
  exact ⟨y, by simpa using hy, by simp only [Rows.uptoBulk]; omega⟩
theorem OpensN.less {α : Type} {P : Program} {t : TypeId} {ρ : Rep α} {N M : Nat} (h : OpensN P t ρ N) (hm : M ≤ N) : OpensN P t ρ M := fun H enc w base spare held fuel cs x hf hx => h H enc w base spare held fuel cs x (Nat.le_trans hf hm) hx
/-- a struct that holds slices of itself -/
theorem opens_rec {α : Type} {ρ : Rep α} {P : Program} {t : TypeId} {fs : Array Field} (ht : P.underlying t = some (.struct fs)) (h : ∀ N, OpensN P t ρ N → OpensN P t ρ (N + 1)) : Opens P t ρ := by
  have key : ∀ N, OpensN P t ρ N := by
    intro N
    induction N with
    | zero =>
      intro H enc w base spare held fuel cs x hf hx
      obtain ⟨xs, n, hn, _⟩ := DataW.trod_struct ht hx
      omega
    | succ N ih => exact h N ih
  exact fun H enc w base spare held fuel cs x hx => key fuel H enc w base spare held fuel cs x (Nat.le_refl _) hx
def Rep.sub {α : Type} (ρ : Rep α) (p : α → Prop) : Rep α where
  size := ρ.size
  bulk := ρ.bulk
  R w S cs x := ρ.R w S cs x ∧ p x
  len h := ρ.len h.1
  one h := ρ.one h.1
  keep h hk := ⟨ρ.keep h.1 hk, h.2⟩
  more h hm := ⟨ρ.more h.1 hm, h.2⟩
theorem Sl.sub {α : Type} {ρ : Rep α} {w : World} {S : Nat → Prop} {A : Option Addr} {c : Nat} {xs : List α} (h : Sl ρ w S A c xs) {p : α → Prop} (hp : ∀ x ∈ xs, p x) : Sl (ρ.sub p) w S A c xs :=
  ⟨h.1, h.2.1, fun i x hx => by
    obtain ⟨ad, u, e, hs, hr, hc⟩ := h.2.2 i x hx
    exact ⟨ad, u, e, hs, ⟨hr, hp x (List.mem_of_getElem? hx)⟩, hc⟩⟩
/-- trees are told by their size -/
theorem avs_rec {α : Type} {ρ : Rep α} {av : α → List AV} {ok : α → Prop} (size : α → Nat) (h : ∀ N, AvsG (ρ.sub fun x => size x ≤ N) id av ok → AvsG (ρ.sub fun x => size x ≤ N + 1) id av ok) (h0 : ∀ x, 1 ≤ size x) : AvsG ρ id av ok := by
  have key : ∀ N, AvsG (ρ.sub fun x => size x ≤ N) id av ok := by
    intro N
    induction N with
    | zero => intro w S cs y hr; have := h0 y; have := hr.2; omega
    | succ N ih => exact h N ih
  exact fun w S cs y hr => key (size y) w S cs y ⟨hr, Nat.le_refl _⟩
end Go.Proofs.Ytpmnlikgldacaaa

/- Parts and proofs as they come in: what stands for them in memory. -/
namespace Go.Proofs.Ytpmnlikgldacaaa
open Go.RowKit
mutual
def Ty.R (w : World) (S : Nat → Prop) : List Value → Ty → Prop
  | cs, ⟨k, n, ks⟩ => ∃ A c, cs = [.int .i64 k, .int .i64 n, .slice A ks.length c] ∧ I64 k ∧ I64 n ∧ ks.length ≤ c ∧ c ≤ maxLen ∧ Ty.Rs w S A 0 ks
def Ty.Rs (w : World) (S : Nat → Prop) (A : Option Addr) : Nat → List Ty → Prop
  | _, [] => True
  | i, t :: r => (∃ ad u, A = some ad ∧ S ad.block ∧ Ty.R w S u t ∧ ∀ j z, u[j]? = some z → w.cell? (ad.add (i * 3 + j)) = some z) ∧ Ty.Rs w S A (i + 1) r
end
theorem Ty.Rs_iff {w : World} {S : Nat → Prop} {A : Option Addr} : ∀ {ks : List Ty} {i : Nat}, Ty.Rs w S A i ks ↔ ∀ j t, ks[j]? = some t → ∃ ad u, A = some ad ∧ S ad.block ∧ Ty.R w S u t ∧ ∀ m z, u[m]? = some z → w.cell? (ad.add ((i + j) * 3 + m)) = some z
  | [], i => by rw [Ty.Rs]; simp
  | t :: r, i => by
    rw [Ty.Rs, Ty.Rs_iff (ks := r) (i := i + 1)]
    constructor
    · rintro ⟨h1, h2⟩ j x hx
      match j with
      | 0 => simp at hx; subst hx; exact h1
      | j + 1 =>
        obtain ⟨ad, u, e, hs, hr, hc⟩ := h2 j x (by simpa using hx)
        exact ⟨ad, u, e, hs, hr, by rw [show i + (j + 1) = i + 1 + j from by omega]; exact hc⟩
    · intro h
      refine ⟨h 0 t rfl, fun j x hx => ?_⟩
      obtain ⟨ad, u, e, hs, hr, hc⟩ := h (j + 1) x (by simpa using hx)
      exact ⟨ad, u, e, hs, hr, by rw [show i + 1 + j = i + (j + 1) from by omega]; exact hc⟩
theorem Ty.R_mk {w : World} {S : Nat → Prop} {cs : List Value} {k n : Int} {ks : List Ty} : Ty.R w S cs ⟨k, n, ks⟩ ↔ ∃ A c, cs = [.int .i64 k, .int .i64 n, .slice A ks.length c] ∧ I64 k ∧ I64 n ∧ ks.length ≤ c ∧ c ≤ maxLen ∧ Ty.Rs w S A 0 ks := by rw [Ty.R]
theorem Ty.R_keep {w w' : World} {S S' : Nat → Prop} (hk : ∀ p : Addr, S p.block → w'.cell? p = w.cell? p) (hm : ∀ b, S b → S' b) : ∀ (N : Nat) {cs : List Value} {t : Ty}, t.size ≤ N → Ty.R w S cs t → Ty.R w' S' cs t
  | 0, cs, ⟨k, n, ks⟩, hN, h => by rw [Ty.size_mk] at hN; omega
  | N + 1, cs, ⟨k, n, ks⟩, hN, h => by
    rw [Ty.size_mk] at hN
    obtain ⟨A, c, e, h1, h2, h3, h4, h5⟩ := Ty.R_mk.1 h
    refine Ty.R_mk.2 ⟨A, c, e, h1, h2, h3, h4, Ty.Rs_iff.2 fun j t ht => ?_⟩
    obtain ⟨ad, u, ea, hs, hr, hc⟩ := Ty.Rs_iff.1 h5 j t ht
    have := Ty.sizes_mem (List.mem_of_getElem? ht)
    exact ⟨ad, u, ea, hm _ hs, Ty.R_keep hk hm N (by omega) hr, fun m z hz => (hk _ (by rw [block_of_add]; exact hs)).trans (hc m z hz)⟩
def rTy : Rep Ty where
  size := 3
  bulk := Ty.size
  R := Ty.R
  len := fun {w S cs x} h => by obtain ⟨k, n, ks⟩ := x; obtain ⟨A, c, e, _⟩ := Ty.R_mk.1 h; rw [e]; rfl
  one := fun {w S cs x} h => by obtain ⟨k, n, ks⟩ := x; obtain ⟨A, c, e, _⟩ := Ty.R_mk.1 h; rw [e]; intro u hu; simp at hu; rcases hu with rfl | rfl | rfl <;> rfl
  keep := fun h hk => Ty.R_keep hk (fun _ h => h) _ (Nat.le_refl _) h
  more := fun h hm => Ty.R_keep (fun _ _ => rfl) hm _ (Nat.le_refl _) h
theorem ty_open {w : World} {S : Nat → Prop} {cs : List Value} {t : Ty} (h : rTy.R w S cs t) : ∃ A c, cs = [.int .i64 t.kind, .int .i64 t.num, .slice A t.kids.length c] ∧ I64 t.kind ∧ I64 t.num ∧ Sl rTy w S A c t.kids := by
  obtain ⟨k, n, ks⟩ := t
  obtain ⟨A, c, e, h1, h2, h3, h4, h5⟩ := Ty.R_mk.1 h
  refine ⟨A, c, e, h1, h2, h3, h4, fun i x hx => ?_⟩
  have := Ty.Rs_iff.1 h5 i x hx
  rw [Nat.zero_add] at this; exact this
theorem ty_mk {w : World} {S : Nat → Prop} {A : Option Addr} {c : Nat} {t : Ty} (h1 : I64 t.kind) (h2 : I64 t.num) (h : Sl rTy w S A c t.kids) : rTy.R w S [.int .i64 t.kind, .int .i64 t.num, .slice A t.kids.length c] t := by
  obtain ⟨k, n, ks⟩ := t
  refine Ty.R_mk.2 ⟨A, c, rfl, h1, h2, h.le, h.max, Ty.Rs_iff.2 fun i x hx => ?_⟩
  have := h.2.2 i x hx
  rw [Nat.zero_add]; exact this

theorem avs_ty : AvsG rTy id Ty.cs (fun _ => True) := avs_rec Ty.size (fun N ih w S cs t hr => by
  obtain ⟨hr, hN⟩ := hr
  obtain ⟨A, c, rfl, _, _, hs⟩ := ty_open hr
  refine ⟨trivial, ?_⟩
  have hN : t.size ≤ N + 1 := hN
  rw [Ty.size_eq] at hN
  have h1 := (sl_rpd ih (Nat.zero_lt_succ _) (hs.sub fun x hx => by have := Ty.sizes_mem hx; show x.size ≤ N; omega)).2
  rw [List.map_id] at h1
  show RpsD w S (Ty.cs t) _
  rw [Ty.cs_eq]
  exact (RpsD.one (.p (.int .i64 t.kind) rfl)).append ((RpsD.one (.p (.int .i64 t.num) rfl)).append (.one h1))) Ty.size_pos
theorem ty_bulks : ∀ ks : List Ty, (ks.map Ty.size).sum = Ty.sizes ks
  | [] => rfl
  | t :: r => by rw [List.map_cons, List.sum_cons, ty_bulks r, Ty.sizes]
set_option maxRecDepth 100000 in
theorem opens_ty : Opens Try.prog 24 rTy := opens_rec Try.underlying24 fun N ih =>
  OpensN.map (ρ := rPair rInt (rPair rInt (rList rTy))) (N := N + 1) (by
    refine OpensN.less (N := N + 1 + 1) (opensN_struct (l := [_, _, _]) Try.underlying24 rfl (opensN_more rfl rfl ((opens_int Try.underlying3).n _) (opensN_more rfl rfl ((opens_int Try.underlying3).n _) (opensN_last rfl rfl (opensN_slice Try.underlying22 rfl (by decide) ih))))) (by omega))
    (fun y => ⟨y.1, y.2.1, y.2.2⟩) (fun w S cs y hr => by
      obtain ⟨c1, c2, rfl, ⟨rfl, i1⟩, c3, c4, rfl, ⟨rfl, i2⟩, A, c, rfl, hs⟩ := hr
      exact ty_mk (t := ⟨y.1, y.2.1, y.2.2⟩) i1 i2 hs)
    (fun y => by
      show Ty.size ⟨y.1, y.2.1, y.2.2⟩ ≤ 1 + (1 + ((y.2.2.map Ty.size).sum + 1))
      rw [Ty.size_mk, ty_bulks]; omega)
set_option maxRecDepth 100000 in
theorem opens_parts : Opens Try.prog 22 (rList rTy) := opens_slice Try.underlying22 rfl (by decide) opens_ty
mutual
def Pf.R (w : World) (S : Nat → Prop) : List Value → Pf → Prop
  | cs, ⟨st, l, g, at_, n, ks⟩ => ∃ Al cl u A c, cs = [.int .i64 st, .slice Al l.length cl] ++ u ++ [.int .i64 at_, .int .i64 n, .slice A ks.length c] ∧ I64 st ∧ Sl rTy w S Al cl l ∧ rTy.R w S u g ∧ I64 at_ ∧ I64 n ∧ ks.length ≤ c ∧ c ≤ maxLen ∧ Pf.Rs w S A 0 ks
def Pf.Rs (w : World) (S : Nat → Prop) (A : Option Addr) : Nat → List Pf → Prop
  | _, [] => True
  | i, t :: r => (∃ ad u, A = some ad ∧ S ad.block ∧ Pf.R w S u t ∧ ∀ j z, u[j]? = some z → w.cell? (ad.add (i * 8 + j)) = some z) ∧ Pf.Rs w S A (i + 1) r
end
theorem Pf.Rs_iff {w : World} {S : Nat → Prop} {A : Option Addr} : ∀ {ks : List Pf} {i : Nat}, Pf.Rs w S A i ks ↔ ∀ j t, ks[j]? = some t → ∃ ad u, A = some ad ∧ S ad.block ∧ Pf.R w S u t ∧ ∀ m z, u[m]? = some z → w.cell? (ad.add ((i + j) * 8 + m)) = some z
  | [], i => by rw [Pf.Rs]; simp
  | t :: r, i => by
    rw [Pf.Rs, Pf.Rs_iff (ks := r) (i := i + 1)]
    constructor
    · rintro ⟨h1, h2⟩ j x hx
      match j with
      | 0 => simp at hx; subst hx; exact h1
      | j + 1 =>
        obtain ⟨ad, u, e, hs, hr, hc⟩ := h2 j x (by simpa using hx)
        exact ⟨ad, u, e, hs, hr, by rw [show i + (j + 1) = i + 1 + j from by omega]; exact hc⟩
    · intro h
      refine ⟨h 0 t rfl, fun j x hx => ?_⟩
      obtain ⟨ad, u, e, hs, hr, hc⟩ := h (j + 1) x (by simpa using hx)
      exact ⟨ad, u, e, hs, hr, by rw [show i + 1 + j = i + (j + 1) from by omega]; exact hc⟩
theorem Pf.R_mk {w : World} {S : Nat → Prop} {cs : List Value} {st at_ n : Int} {l : List Ty} {g : Ty} {ks : List Pf} : Pf.R w S cs ⟨st, l, g, at_, n, ks⟩ ↔ ∃ Al cl u A c, cs = [.int .i64 st, .slice Al l.length cl] ++ u ++ [.int .i64 at_, .int .i64 n, .slice A ks.length c] ∧ I64 st ∧ Sl rTy w S Al cl l ∧ rTy.R w S u g ∧ I64 at_ ∧ I64 n ∧ ks.length ≤ c ∧ c ≤ maxLen ∧ Pf.Rs w S A 0 ks := by rw [Pf.R]
theorem Pf.R_keep {w w' : World} {S S' : Nat → Prop} (hk : ∀ p : Addr, S p.block → w'.cell? p = w.cell? p) (hm : ∀ b, S b → S' b) : ∀ (N : Nat) {cs : List Value} {t : Pf}, t.size ≤ N → Pf.R w S cs t → Pf.R w' S' cs t
  | 0, cs, t, hN, h => by have := t.size_pos; omega
  | N + 1, cs, ⟨st, l, g, at_, n, ks⟩, hN, h => by
    rw [Pf.size] at hN
    obtain ⟨Al, cl, u, A, c, e, h1, hl, hu, h2, h2', h3, h4, h5⟩ := Pf.R_mk.1 h
    refine Pf.R_mk.2 ⟨Al, cl, u, A, c, e, h1, (hl.keep hk).more hm, rTy.more (rTy.keep hu hk) hm, h2, h2', h3, h4, Pf.Rs_iff.2 fun j t ht => ?_⟩
    obtain ⟨ad, u, ea, hs, hr, hc⟩ := Pf.Rs_iff.1 h5 j t ht
    have := Pf.sizes_mem (List.mem_of_getElem? ht)
    exact ⟨ad, u, ea, hm _ hs, Pf.R_keep hk hm N (by omega) hr, fun m z hz => (hk _ (by rw [block_of_add]; exact hs)).trans (hc m z hz)⟩
mutual
def Pf.bulk : Pf → Nat
  | ⟨_, l, g, _, _, ks⟩ => 1 + Ty.sizes l + Ty.size g + Pf.bulks ks
def Pf.bulks : List Pf → Nat
  | [] => 0
  | t :: r => Pf.bulk t + Pf.bulks r
end
def rPf : Rep Pf where
  size := 8
  bulk := Pf.bulk
  R := Pf.R
  len := fun {w S cs x} h => by obtain ⟨st, l, g, at_, n, ks⟩ := x; obtain ⟨Al, cl, u, A, c, e, _, _, hu, _⟩ := Pf.R_mk.1 h; have := rTy.len hu; rw [e]; simp [this, rTy]
  one := fun {w S cs x} h => by
    obtain ⟨st, l, g, at_, n, ks⟩ := x; obtain ⟨Al, cl, u, A, c, e, _, _, hu, _⟩ := Pf.R_mk.1 h
    rw [e]; intro z hz
    simp only [List.mem_append, List.mem_cons, List.not_mem_nil, or_false] at hz
    rcases hz with ((rfl | rfl) | hz) | rfl | rfl | rfl
    · rfl
    · rfl
    · exact rTy.one hu z hz
    · rfl
    · rfl
    · rfl
  keep := fun h hk => Pf.R_keep hk (fun _ h => h) _ (Nat.le_refl _) h
  more := fun h hm => Pf.R_keep (fun _ _ => rfl) hm _ (Nat.le_refl _) h
theorem pf_open {w : World} {S : Nat → Prop} {cs : List Value} {t : Pf} (h : rPf.R w S cs t) : ∃ Al cl Ag cg A c, cs = [.int .i64 t.step, .slice Al t.left.length cl, .int .i64 t.goal.kind, .int .i64 t.goal.num, .slice Ag t.goal.kids.length cg, .int .i64 t.at_, .int .i64 t.num, .slice A t.kids.length c] ∧ Pf.Nums t ∧ Sl rTy w S Al cl t.left ∧ Sl rTy w S Ag cg t.goal.kids ∧ Sl rPf w S A c t.kids := by
  obtain ⟨st, l, g, at_, n, ks⟩ := t
  obtain ⟨Al, cl, u, A, c, e, h1, hl, hu, h2, h2', h3, h4, h5⟩ := Pf.R_mk.1 h
  obtain ⟨Ag, cg, rfl, i1, i2, hs⟩ := ty_open hu
  refine ⟨Al, cl, Ag, cg, A, c, by rw [e]; rfl, ⟨h2, h2'⟩, hl, hs, h3, h4, fun i x hx => ?_⟩
  have := Pf.Rs_iff.1 h5 i x hx
  rw [Nat.zero_add] at this; exact this
theorem pf_mk {w : World} {S : Nat → Prop} {Al Ag A : Option Addr} {cl cg c : Nat} {t : Pf} (hst : I64 t.step) (hi : I64 t.goal.kind ∧ I64 t.goal.num ∧ I64 t.at_ ∧ I64 t.num) (hl : Sl rTy w S Al cl t.left) (hg : Sl rTy w S Ag cg t.goal.kids) (h : Sl rPf w S A c t.kids) :
    rPf.R w S [.int .i64 t.step, .slice Al t.left.length cl, .int .i64 t.goal.kind, .int .i64 t.goal.num, .slice Ag t.goal.kids.length cg, .int .i64 t.at_, .int .i64 t.num, .slice A t.kids.length c] t := by
  obtain ⟨st, l, g, at_, n, ks⟩ := t
  refine Pf.R_mk.2 ⟨Al, cl, _, A, c, rfl, hst, hl, ty_mk hi.1 hi.2.1 hg, hi.2.2.1, hi.2.2.2, h.le, h.max, Pf.Rs_iff.2 fun i x hx => ?_⟩
  have := h.2.2 i x hx
  rw [Nat.zero_add]; exact this
theorem avs_pf : AvsG rPf id Pf.cs (Pf.All Pf.Nums) := avs_rec Pf.size (fun N ih w S cs t hr => by
  obtain ⟨hr, hN⟩ := hr
  obtain ⟨Al, cl, Ag, cg, A, c, rfl, hn, hl, hg, hs⟩ := pf_open hr
  have hN : t.size ≤ N + 1 := hN
  rw [Pf.size_eq] at hN
  have h1 := sl_rpd ih (Nat.zero_lt_succ _) (hs.sub fun x hx => by have := Pf.sizes_mem hx; show x.size ≤ N; omega)
  refine ⟨.mk _ hn fun k hk => h1.1 k hk, ?_⟩
  have h1 := h1.2
  have h2 := (sl_rpd avs_ty (by decide) hl).2
  have h3 := (sl_rpd avs_ty (by decide) hg).2
  rw [List.map_id] at h1 h2 h3
  show RpsD w S (Pf.cs t) _
  rw [Pf.cs_eq]
  exact (RpsD.one (.p (.int .i64 t.step) rfl)).append ((RpsD.one h2).append ((RpsD.one (.p (.int .i64 t.goal.kind) rfl)).append ((RpsD.one (.p (.int .i64 t.goal.num) rfl)).append ((RpsD.one h3).append ((RpsD.one (.p (.int .i64 t.at_) rfl)).append ((RpsD.one (.p (.int .i64 t.num) rfl)).append (.one h1)))))))) Pf.size_pos
theorem pf_bulks : ∀ ks : List Pf, (ks.map Pf.bulk).sum = Pf.bulks ks
  | [] => by rw [Pf.bulks]; rfl
  | t :: r => by rw [List.map_cons, List.sum_cons, pf_bulks r, Pf.bulks]
set_option maxRecDepth 100000 in
theorem opens_pf : Opens Try.prog 27 rPf := opens_rec Try.underlying27 fun N ih =>
  OpensN.map (ρ := rPair rInt (rPair (rList rTy) (rPair rTy (rPair rInt (rPair rInt (rList rPf)))))) (N := N + 1) (by
    refine OpensN.less (N := N + 1 + 1) (opensN_struct (l := [_, _, _, _, _, _]) Try.underlying27 rfl (opensN_more rfl rfl ((opens_int Try.underlying3).n _) (opensN_more rfl rfl (opens_parts.n _) (opensN_more rfl rfl (opens_ty.n _) (opensN_more rfl rfl ((opens_int Try.underlying3).n _) (opensN_more rfl rfl ((opens_int Try.underlying3).n _) (opensN_last rfl rfl (opensN_slice Try.underlying25 rfl (by decide) ih)))))))) (by omega))
    (fun y => ⟨y.1, y.2.1, y.2.2.1, y.2.2.2.1, y.2.2.2.2.1, y.2.2.2.2.2⟩) (fun w S cs y hr => by
      obtain ⟨c1, c2, rfl, ⟨rfl, i1⟩, c3, c4, rfl, ⟨Al, cl, rfl, hl⟩, c5, c6, rfl, ht, c7, c8, rfl, ⟨rfl, i2⟩, c9, c10, rfl, ⟨rfl, i3⟩, A, c, rfl, hs⟩ := hr
      obtain ⟨Ag, cg, rfl, j1, j2, hst⟩ := ty_open ht
      exact pf_mk (t := ⟨y.1, y.2.1, y.2.2.1, y.2.2.2.1, y.2.2.2.2.1, y.2.2.2.2.2⟩) i1 ⟨j1, j2, i2, i3⟩ hl hst hs)
    (fun y => by
      show Pf.bulk ⟨y.1, y.2.1, y.2.2.1, y.2.2.2.1, y.2.2.2.2.1, y.2.2.2.2.2⟩ ≤ 1 + (((y.2.1.map Ty.size).sum + 1) + (Ty.size y.2.2.1 + (1 + (1 + ((y.2.2.2.2.2.map Pf.bulk).sum + 1)))))
      rw [Pf.bulk, pf_bulks, ty_bulks]; omega)
end Go.Proofs.Ytpmnlikgldacaaa

/- The walks of the statements about proofs, from nothing held. -/
namespace Go.Proofs.Ytpmnlikgldacaaa
open Go.RowKit Go.Maps
theorem law_pf {f : FuncId} {ps : List AV} (h : PF Try.prog f ps (bv true)) : Tri Try.prog f ps ⟨0, []⟩ (fun v _ => v = .p (.bool true)) := (h ⟨0, []⟩).mono fun _v _H' h => h.2
end Go.Proofs.Ytpmnlikgldacaaa
