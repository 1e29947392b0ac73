/- Texts that the proof rests on, part 19: what each holds stands at its head. -/
import Derived.Test.YtkocpdekknfmaaaKs18

/- New terms: rebuilt, shifted, put. -/
namespace Go.Proofs.Ytkocpdekknfmaaa
open Go.RowKit Go.Maps
theorem Tm.av_eq (k n : Int) (ty : Ty) (ks : List Tm) : Tm.av ⟨k, n, ty, ks⟩ = .agg [iv k, iv n, iv ty.kind, iv ty.num, .dsl 3 (ty.kids.map Ty.cs), .dsl 6 (ks.map Tm.cs)] := by unfold Tm.av; rw [Tm.cs_eq]
def zTm : List AV := [.p (.int .i64 0), .p (.int .i64 0), .p (.int .i64 0), .p (.int .i64 0), .p (.slice none 0 0), .p (.slice none 0 0)]
theorem Tm.len_sizes : ∀ ks : List Tm, ks.length ≤ Tm.sizes ks
  | [] => by simp
  | a :: r => by rw [Tm.sizes, List.length_cons]; have := a.size_pos; have := Tm.len_sizes r; omega
set_option maxHeartbeats 2000000 in
theorem c_rebuilt {H : AH} (t : Tm) (d : Int) (hd : 0 ≤ d ∧ d ≤ 1000000) (ht : t.size ≤ 1000000) (hty : t.type.size ≤ 1000000) (g : FuncId) (first cap : List AV) (F : Tm → Tm) (hg : callable Try.prog g = true)
    (hF : ∀ x ∈ t.kids, ∀ H2, H.le H2 → Tri Try.prog g (first ++ [x.av, iv (if t.kind = 3 then d + 1 else d)] ++ cap) H2 (fun r H' => H' = H2 ∧ r = (F x).av)) :
    Tri Try.prog 54 [t.av, iv d, .fn (.func g) first cap] H (fun r H' => H' = H ∧ r = Tm.av ⟨t.kind, t.num, t.type, t.kids.map F⟩) := by
  refine tri_wf fun hw => tri_term_rebuilt ?_
  have hml : maxLen = 9223372036854775807 := by decide
  have hsz := t.size_eq
  have hlk := Tm.len_sizes t.kids
  unfold S_term_rebuilt
  simp (disch := first | omega | simp) [iv, Tm.av]
  generalize hM : ((H.up 2).put H.nx (.box 27 t.cs)).put (H.nx + 1) (.box 27 [.p (.int .i64 0), .p (.int .i64 0), .p (.int .i64 0), .p (.int .i64 0), .p (.slice none 0 0), .p (.slice none 0 0)]) = M
  have hMb : M.get H.nx = some (.box 27 t.cs) := by rw [← hM]; simp (disch := first | omega | simp) [put_get_ne]
  have hMc : M.get (H.nx + 1) = some (.box 27 [.p (.int .i64 0), .p (.int .i64 0), .p (.int .i64 0), .p (.int .i64 0), .p (.slice none 0 0), .p (.slice none 0 0)]) := by rw [← hM]; simp (disch := first | omega | simp)
  have hMl : H.le M := by rw [← hM]; exact (by repeat (first | with_reducible assumption | with_reducible exact AH.le.refl _ | with_reducible apply AH.le.up | (with_reducible refine AH.le.put hw ?_ ?_; · first | omega | (simp only [up_nx, put_nx, kill_nx]; done) | (simp only [up_nx, put_nx, kill_nx]; omega)) | (with_reducible refine AH.le.kill hw ?_ ?_; · first | omega | (simp only [up_nx, put_nx, kill_nx]; done) | (simp only [up_nx, put_nx, kill_nx]; omega))))
  have hMn : M.nx = H.nx + 2 := by rw [← hM]; rfl
  have hw0 := hw
  have hw : WF M := by rw [← hM]; exact ((hw0.up 2).box (by first | omega | (simp only [up_nx]; done) | (simp only [up_nx]; omega)) (t.cl _)).box (by first | omega | (simp only [up_nx, put_nx]; done) | (simp only [up_nx, put_nx]; omega)) (by repeat (first | exact Cl.p _ | exact Cl.dsl _ _ | exact Cl.any | refine Cl.tup ?_ | refine Cl.agg ?_ | exact Clo.nil | refine Clo.cons ?_ ?_))
  have hwr : IntKind.i64.wrap (d + 1) = d + 1 := wrapI (by omega) (by omega)
  refine cut_st (fun _ : Unit => [iv (if t.kind = 3 then d + 1 else d)]) (fun _ H' => M = H') (fun k hk => ?_) ?_
  · by_cases h3 : t.kind = 3
    · simp (disch := first | omega | simp) [iv, hMb, Tm.cs_g0, h3, hwr]
      exact hk () _ _ _ (by simp [h3]; exact .refl (Nat.le_refl _)) rfl
    · simp (disch := first | omega | simp) [iv, hMb, Tm.cs_g0, h3]
      exact hk () _ _ _ (by simp [h3]; exact .refl (Nat.le_refl _)) rfl
  rintro _ H2 hn2 rfl
  generalize hd' : (if t.kind = 3 then d + 1 else d) = d' at *
  unfold S_term_rebuilt_K2
  simp (disch := first | omega | simp) [iv, hMb, Tm.cs_g5]
  refine loop_st (fun s : AV × Nat => [s.1, iv s.2]) (fun s H' => M.le H' ∧ M.nx ≤ H'.nx ∧ s.2 ≤ t.kids.length ∧ Grows 27 6 M H' s.1 ((t.kids.take s.2).map fun x => (F x).cs)) (fun s => t.kids.length - s.2) (.p (.slice none 0 0), 0) (.refl (Nat.le_refl _)) ⟨.refl _, Nat.le_refl _, Nat.zero_le _, .nil _ _ _ _⟩ ?_
  rintro ⟨v, i⟩ H1 hn1 ⟨hle, hn, hi, hgr⟩ k hk
  dsimp only at hi hgr hk
  unfold S_term_rebuilt_L1
  by_cases hil : i < t.kids.length
  · obtain ⟨x, hx⟩ : ∃ x, t.kids[i]? = some x := ⟨_, List.getElem?_eq_getElem hil⟩
    have hxg : ∀ h, t.kids[i]'h = x := fun h => (List.getElem?_eq_some_iff.1 hx).2
    have hiv := ivn (i := i) (by omega)
    simp (disch := first | omega | simp) [iv, hil, hxg, Tm.cs_len, Tm.cs_take]
    refine ca_pure hg (hF x (List.mem_of_getElem? hx) _ (hMl.trans (by repeat (first | with_reducible assumption | with_reducible exact AH.le.refl _ | with_reducible apply AH.le.up | (with_reducible refine AH.le.put hw ?_ ?_; · first | omega | (simp only [up_nx, put_nx, kill_nx]; done) | (simp only [up_nx, put_nx, kill_nx]; omega)) | (with_reducible refine AH.le.kill hw ?_ ?_; · first | omega | (simp only [up_nx, put_nx, kill_nx]; done) | (simp only [up_nx, put_nx, kill_nx]; omega)))))) ?_
    simp (disch := first | omega | simp) [Tm.av, Tm.cs_len, Tm.cs_take]
    refine Grows.app (ys := [(F x).cs]) hw (hgr.kp (by repeat (first | with_reducible assumption | with_reducible exact Kp.refl _ | with_reducible apply Kp.up | (with_reducible refine Kp.put ?_ ?_; · first | omega | (simp only [up_nx, put_nx, kill_nx]; done) | (simp only [up_nx, put_nx, kill_nx]; omega)) | (with_reducible refine Kp.kill ?_ ?_; · first | omega | (simp only [up_nx, put_nx, kill_nx]; done) | (simp only [up_nx, put_nx, kill_nx]; omega))))) (by repeat (first | with_reducible assumption | with_reducible exact AH.le.refl _ | with_reducible apply AH.le.up | (with_reducible refine AH.le.put hw ?_ ?_; · first | omega | (simp only [up_nx, put_nx, kill_nx]; done) | (simp only [up_nx, put_nx, kill_nx]; omega)) | (with_reducible refine AH.le.kill hw ?_ ?_; · first | omega | (simp only [up_nx, put_nx, kill_nx]; done) | (simp only [up_nx, put_nx, kill_nx]; omega)))) (by first | omega | (simp only [up_nx, put_nx, kill_nx]; done) | (simp only [up_nx, put_nx, kill_nx]; omega)) (by first | omega | (simp only [up_nx, put_nx]; done) | (simp only [up_nx, put_nx]; omega)) ?_ (dt_tm [F x]) ?_ ?_ fun v' H3 g3 l3 n3 k3 _ => ?_
    · simp (disch := first | omega | simp)
    · rw [List.length_map, List.length_take]; simp only [List.length_singleton]; omega
    · rw [List.length_map, List.length_take]; simp only [List.length_singleton]; omega
    · rw [q_add_i, hiv]
      simp only [up_nx, put_nx] at n3
      refine hk (v', i + 1) _ _ _ (.refl (by omega)) ⟨l3, by omega, hil, ?_⟩ (by dsimp only; omega)
      dsimp only
      rw [List.take_add_one, hx, Option.toList_some, List.map_append]; exact g3
  · have hie : i = t.kids.length := by omega
    subst hie
    rw [List.take_length] at hgr
    have hb1 := hle _ _ hMb
    have hc1 := hle _ _ hMc
    obtain ⟨hp1, hp2⟩ := hgr.part
    simp (disch := first | omega | simp) [iv, Tm.cs_len, Tm.cs_type, hb1]
    refine ca_pure (by kernel_rfl) (c_copiedType' t.type hty _) ?_
    simp (disch := first | omega | simp) [Tm.cs_len, Ty.av, Ty.cs_len, put_get_ne, hb1, hc1, hp1, hp2]
    refine Grows.rt_in (M := H) (v' := Tm.av ⟨t.kind, t.num, t.type, t.kids.map F⟩) (u := v) (t := 27) (sz := 6) (es := t.kids.map fun x => (F x).cs) ?_ hw0 ?_ (by first | omega | (simp only [up_nx, put_nx]; done) | (simp only [up_nx, put_nx]; omega)) hw0 (.refl _) (Nat.le_refl _) ?_ (.agg (Tm.cl _ _)) ⟨rfl, rfl⟩
    · refine (hgr.base (H0 := H) (by omega)).same (by first | omega | (simp only [up_nx, put_nx]; done) | (simp only [up_nx, put_nx]; omega)) fun j hj ⟨n, hv⟩ => ?_
      have := hgr.ge hv
      simp (disch := first | omega | simp) [put_get_ne]
    · have hw := hw0; have h1 := hMl.trans hle; exact (by repeat (first | with_reducible assumption | with_reducible exact AH.le.refl _ | with_reducible apply AH.le.up | (with_reducible refine AH.le.put hw ?_ ?_; · first | omega | (simp only [up_nx, put_nx, kill_nx]; done) | (simp only [up_nx, put_nx, kill_nx]; omega)) | (with_reducible refine AH.le.kill hw ?_ ?_; · first | omega | (simp only [up_nx, put_nx, kill_nx]; done) | (simp only [up_nx, put_nx, kill_nx]; omega))))
    · intro H2 hs
      rw [show (List.take 6 (List.take 6 (List.take 2 (List.take 5 t.cs ++ v :: List.drop 6 t.cs) ++ (t.type.cs ++ List.drop 5 (List.take 5 t.cs ++ v :: List.drop 6 t.cs))))) = [iv t.kind, iv t.num, iv t.type.kind, iv t.type.num, .dsl 3 (t.type.kids.map Ty.cs), v] by rw [Tm.cs_eq, Ty.cs_eq]; rfl]
      rw [Tm.av_eq, List.map_map]
      exact .agg (.cons (.refl _) (.cons (.refl _) (.cons (.refl _) (.cons (.refl _) (.cons (.refl _) (.cons hs .nil))))))
theorem Tm.lift_eq (by_ d : Int) (t : Tm) : Tm.lift by_ d t = ⟨t.kind, if t.kind = 1 ∧ d ≤ t.num then IntKind.i64.wrap (t.num + by_) else t.num, t.type, t.kids.map (Tm.lift by_ (if t.kind = 3 then d + 1 else d))⟩ := by cases t; exact Tm.lift_mk _ _ _ _ _ _
theorem Tm.put_eq (x : Tm) (d : Int) (t : Tm) : Tm.put x d t = if t.kind = 1 ∧ t.num = d then Tm.lift d 0 x else ⟨t.kind, if t.kind = 1 ∧ d < t.num then IntKind.i64.wrap (t.num - 1) else t.num, t.type, t.kids.map (Tm.put x (if t.kind = 3 then d + 1 else d))⟩ := by cases t; exact Tm.put_mk _ _ _ _ _ _
theorem Tm.good_eq {t : Tm} : t.good ↔ ((t.kind = 4 → t.kids.length = 2) ∧ (t.kind = 3 → t.kids.length = 1) ∧ (t.kind = 1 → t.kids.length = 0) ∧ t.type.size ≤ 60) ∧ Tm.goods t.kids := by cases t; exact Tm.good_mk _ _ _ _
theorem Tm.good_kid {t x : Tm} (h : t.good) (hx : x ∈ t.kids) : x.good := Tm.goods_iff.1 (Tm.good_eq.1 h).2 x hx
theorem Tm.good_of (N : Nat) : ∀ t : Tm, t.size ≤ N → t.wrong = 0 → t.good := by
  induction N with
  | zero => intro t ht; have := t.size_pos; omega
  | succ N ih =>
    intro t ht hw
    have hsz := t.size_eq
    obtain ⟨_, hk, hty⟩ := Tm.ok_inv hw
    have hts : t.type.size ≤ 60 := by
      by_cases h3 : t.kind = 3
      · rcases hk with ⟨h, _⟩ | ⟨h, _⟩ | ⟨_, _, h, _⟩ | ⟨h, _⟩
        · omega
        · omega
        · exact h.2
        · omega
      · rw [hty h3]; decide
    refine Tm.good_eq.2 ⟨?_, Tm.goods_iff.2 fun x hx => ?_⟩
    · rcases hk with ⟨h, hks⟩ | ⟨h, hks⟩ | ⟨h, _, _, b, hks, _⟩ | ⟨h, _, f, x, hks, _⟩ <;> rw [hks] <;> exact ⟨by intro; first | rfl | omega, by intro; first | rfl | omega, by intro; first | rfl | omega, hts⟩
    · have hxs := Tm.sizes_mem hx
      refine ih x (by omega) ?_
      rcases hk with ⟨h, hks⟩ | ⟨h, hks⟩ | ⟨h, _, _, b, hks, hb⟩ | ⟨h, _, f, y, hks, hf, hy⟩ <;> rw [hks] at hx <;> simp at hx
      · rw [hx]; exact hb
      · rcases hx with rfl | rfl
        · exact hf
        · exact hy
/-- a closure that calls with what it has caught -/
theorem c_shifted1 {H : AH} {b : Nat} {tt : TypeId} {by_ : Int} (x y : Tm) (d : Int) (hb : H.get b = some (.box tt [iv by_])) (h : ∀ H2, H.le H2 → Tri Try.prog 44 [x.av, iv by_, iv d] H2 (fun r H' => H' = H2 ∧ r = y.av)) :
    Tri Try.prog 55 [x.av, iv d, .ptr b 0] H (fun r H' => H' = H ∧ r = y.av) := tri_wf fun hw => tri_term_shifted_fn1 (by
  have hbl := (hw _ _ hb).1
  unfold S_term_shifted_fn1
  simp (disch := first | omega | simp) [Tm.av, Tm.cs_len, Tm.cs_take, put_get_ne, hb]
  refine ca_pure (by kernel_rfl) (h _ (by repeat (first | with_reducible assumption | with_reducible exact AH.le.refl _ | with_reducible apply AH.le.up | (with_reducible refine AH.le.put hw ?_ ?_; · first | omega | (simp only [up_nx, put_nx, kill_nx]; done) | (simp only [up_nx, put_nx, kill_nx]; omega)) | (with_reducible refine AH.le.kill hw ?_ ?_; · first | omega | (simp only [up_nx, put_nx, kill_nx]; done) | (simp only [up_nx, put_nx, kill_nx]; omega))))) ?_
  simp (disch := first | omega | simp) [Tm.av, Tm.cs_len, Tm.cs_take]
  exact rt_one hw (by repeat (first | with_reducible assumption | with_reducible exact AH.le.refl _ | with_reducible apply AH.le.up | (with_reducible refine AH.le.put hw ?_ ?_; · first | omega | (simp only [up_nx, put_nx, kill_nx]; done) | (simp only [up_nx, put_nx, kill_nx]; omega)) | (with_reducible refine AH.le.kill hw ?_ ?_; · first | omega | (simp only [up_nx, put_nx, kill_nx]; done) | (simp only [up_nx, put_nx, kill_nx]; omega)))) (.agg (Tm.cl _ _)) ⟨rfl, rfl⟩)
set_option maxHeartbeats 2000000 in
theorem c_shifted (N : Nat) : ∀ t : Tm, t.size ≤ N → N ≤ 1000000 → t.good → ∀ (by_ d : Int), 0 ≤ d → d + N ≤ 1000000 → ∀ H, Tri Try.prog 44 [t.av, iv by_, iv d] H (fun r H' => H' = H ∧ r = (Tm.lift by_ d t).av) := by
  induction N with
  | zero => intro t ht; have := t.size_pos; omega
  | succ N ih =>
    intro t ht hN hgd by_ d hd0 hd1 H
    refine tri_wf fun hw => tri_term_shifted ?_
    have hsz := t.size_eq
    unfold S_term_shifted
    have hty : t.type.size ≤ 1000000 := by have := (Tm.good_eq.1 hgd).1.2.2.2; omega
    have clo : ∀ (t' : Tm) (H2 : AH), t'.kind = t.kind → t'.kids = t.kids → H2.get (H.nx + 1) = some (.box 3 [iv by_]) → ∀ x ∈ t'.kids, ∀ H3, H2.le H3 → Tri Try.prog 55 ([] ++ [x.av, iv (if t'.kind = 3 then d + 1 else d)] ++ [.ptr (H.nx + 1) 0]) H3 (fun r H' => H' = H3 ∧ r = (Tm.lift by_ (if t.kind = 3 then d + 1 else d) x).av) := by
      intro t' H2 e1 e2 hb2 x hx H3 hle
      rw [e1]
      rw [e2] at hx
      have hxs := Tm.sizes_mem hx
      exact c_shifted1 x _ _ (hle _ _ hb2) fun H4 _ => ih x (by omega) (by omega) (Tm.good_kid hgd hx) by_ _ (by split <;> omega) (by split <;> omega) H4
    by_cases h1 : t.kind = 1 ∧ d ≤ t.num
    · obtain ⟨k1, n1⟩ := h1
      have hl : Tm.lift by_ d t = ⟨t.kind, IntKind.i64.wrap (t.num + by_), t.type, t.kids.map (Tm.lift by_ (if t.kind = 3 then d + 1 else d))⟩ := by rw [Tm.lift_eq, if_pos ⟨k1, n1⟩]
      simp (disch := first | omega | simp) [iv, Tm.av, Tm.cs_len, Tm.cs_g0, Tm.cs_g1, put_get_ne, k1, n1]
      rw [show List.take 6 (List.take 1 t.cs ++ AV.p (Value.int IntKind.i64 (IntKind.i64.wrap (t.num + by_))) :: List.drop 2 t.cs) = Tm.cs ⟨t.kind, IntKind.i64.wrap (t.num + by_), t.type, t.kids⟩ by rw [Tm.cs_eq, Tm.cs_eq]; rfl]
      refine ca_pure (by kernel_rfl) (c_rebuilt ⟨t.kind, IntKind.i64.wrap (t.num + by_), t.type, t.kids⟩ d (by omega) (by rw [Tm.size_mk]; omega) hty _ [] [.ptr (H.nx + 1) 0] (Tm.lift by_ (if t.kind = 3 then d + 1 else d)) (by kernel_rfl) (clo _ _ rfl rfl (by simp (disch := first | omega | simp) [put_get_ne, iv]))) ?_
      simp (disch := first | omega | simp) [Tm.av, Tm.cs_len, Tm.cs_take, put_get_ne]
      exact rt_one hw (by repeat (first | with_reducible assumption | with_reducible exact AH.le.refl _ | with_reducible apply AH.le.up | (with_reducible refine AH.le.put hw ?_ ?_; · first | omega | (simp only [up_nx, put_nx, kill_nx]; done) | (simp only [up_nx, put_nx, kill_nx]; omega)) | (with_reducible refine AH.le.kill hw ?_ ?_; · first | omega | (simp only [up_nx, put_nx, kill_nx]; done) | (simp only [up_nx, put_nx, kill_nx]; omega)))) (.agg (Tm.cl _ _)) ⟨rfl, by rw [hl]⟩
    · have hl : Tm.lift by_ d t = ⟨t.kind, t.num, t.type, t.kids.map (Tm.lift by_ (if t.kind = 3 then d + 1 else d))⟩ := by rw [Tm.lift_eq, if_neg h1]
      have hc : t.kind ≠ 1 ∨ (t.kind = 1 ∧ ¬ d ≤ t.num) := by omega
      rcases hc with k1 | ⟨k1, n1⟩
      · simp (disch := first | omega | simp) [iv, Tm.av, Tm.cs_len, Tm.cs_g0, Tm.cs_take, put_get_ne, k1]
        refine ca_pure (by kernel_rfl) (c_rebuilt t d (by omega) (by omega) hty _ [] [.ptr (H.nx + 1) 0] (Tm.lift by_ (if t.kind = 3 then d + 1 else d)) (by kernel_rfl) (clo t _ rfl rfl (by simp (disch := first | omega | simp) [put_get_ne, iv]))) ?_
        simp (disch := first | omega | simp) [Tm.av, Tm.cs_len, Tm.cs_take]
        exact rt_one hw (by repeat (first | with_reducible assumption | with_reducible exact AH.le.refl _ | with_reducible apply AH.le.up | (with_reducible refine AH.le.put hw ?_ ?_; · first | omega | (simp only [up_nx, put_nx, kill_nx]; done) | (simp only [up_nx, put_nx, kill_nx]; omega)) | (with_reducible refine AH.le.kill hw ?_ ?_; · first | omega | (simp only [up_nx, put_nx, kill_nx]; done) | (simp only [up_nx, put_nx, kill_nx]; omega)))) (.agg (Tm.cl _ _)) ⟨rfl, by rw [hl]⟩
      · simp (disch := first | omega | simp) [iv, Tm.av, Tm.cs_len, Tm.cs_g0, Tm.cs_g1, Tm.cs_take, put_get_ne, k1, n1]
        refine ca_pure (by kernel_rfl) (c_rebuilt t d (by omega) (by omega) hty _ [] [.ptr (H.nx + 1) 0] (Tm.lift by_ (if t.kind = 3 then d + 1 else d)) (by kernel_rfl) (clo t _ rfl rfl (by simp (disch := first | omega | simp) [put_get_ne, iv]))) ?_
        simp (disch := first | omega | simp) [Tm.av, Tm.cs_len, Tm.cs_take]
        exact rt_one hw (by repeat (first | with_reducible assumption | with_reducible exact AH.le.refl _ | with_reducible apply AH.le.up | (with_reducible refine AH.le.put hw ?_ ?_; · first | omega | (simp only [up_nx, put_nx, kill_nx]; done) | (simp only [up_nx, put_nx, kill_nx]; omega)) | (with_reducible refine AH.le.kill hw ?_ ?_; · first | omega | (simp only [up_nx, put_nx, kill_nx]; done) | (simp only [up_nx, put_nx, kill_nx]; omega)))) (.agg (Tm.cl _ _)) ⟨rfl, by rw [hl]⟩
theorem c_put1 {H : AH} {b : Nat} {tt : TypeId} {z : Tm} (x y : Tm) (d : Int) (hb : H.get b = some (.box tt z.cs)) (h : ∀ H2, H.le H2 → Tri Try.prog 57 [x.av, z.av, iv d] H2 (fun r H' => H' = H2 ∧ r = y.av)) :
    Tri Try.prog 60 [x.av, iv d, .ptr b 0] H (fun r H' => H' = H ∧ r = y.av) := tri_wf fun hw => tri_term_put_fn1 (by
  have hbl := (hw _ _ hb).1
  unfold S_term_put_fn1
  simp (disch := first | omega | simp) [Tm.av, Tm.cs_len, Tm.cs_take, put_get_ne, hb]
  refine ca_pure (by kernel_rfl) (h _ (by repeat (first | with_reducible assumption | with_reducible exact AH.le.refl _ | with_reducible apply AH.le.up | (with_reducible refine AH.le.put hw ?_ ?_; · first | omega | (simp only [up_nx, put_nx, kill_nx]; done) | (simp only [up_nx, put_nx, kill_nx]; omega)) | (with_reducible refine AH.le.kill hw ?_ ?_; · first | omega | (simp only [up_nx, put_nx, kill_nx]; done) | (simp only [up_nx, put_nx, kill_nx]; omega))))) ?_
  simp (disch := first | omega | simp) [Tm.av, Tm.cs_len, Tm.cs_take]
  exact rt_one hw (by repeat (first | with_reducible assumption | with_reducible exact AH.le.refl _ | with_reducible apply AH.le.up | (with_reducible refine AH.le.put hw ?_ ?_; · first | omega | (simp only [up_nx, put_nx, kill_nx]; done) | (simp only [up_nx, put_nx, kill_nx]; omega)) | (with_reducible refine AH.le.kill hw ?_ ?_; · first | omega | (simp only [up_nx, put_nx, kill_nx]; done) | (simp only [up_nx, put_nx, kill_nx]; omega)))) (.agg (Tm.cl _ _)) ⟨rfl, rfl⟩)
set_option maxHeartbeats 2000000 in
theorem c_put (z : Tm) (hz : z.good) (hzs : z.size ≤ 400000) (N : Nat) : ∀ t : Tm, t.size ≤ N → N ≤ 400000 → t.good → ∀ (d : Int), 0 ≤ d → d + N ≤ 400000 → ∀ H, Tri Try.prog 57 [t.av, z.av, iv d] H (fun r H' => H' = H ∧ r = (Tm.put z d t).av) := by
  induction N with
  | zero => intro t ht; have := t.size_pos; omega
  | succ N ih =>
    intro t ht hN hgd d hd0 hd1 H
    refine tri_wf fun hw => tri_term_put ?_
    have hsz := t.size_eq
    unfold S_term_put
    have hty : t.type.size ≤ 1000000 := by have := (Tm.good_eq.1 hgd).1.2.2.2; omega
    have clo : ∀ (t' : Tm) (H2 : AH), t'.kind = t.kind → t'.kids = t.kids → H2.get (H.nx + 1) = some (.box 27 z.cs) → ∀ x ∈ t'.kids, ∀ H3, H2.le H3 → Tri Try.prog 60 ([] ++ [x.av, iv (if t'.kind = 3 then d + 1 else d)] ++ [.ptr (H.nx + 1) 0]) H3 (fun r H' => H' = H3 ∧ r = (Tm.put z (if t.kind = 3 then d + 1 else d) x).av) := by
      intro t' H2 e1 e2 hb2 x hx H3 hle
      rw [e1]
      rw [e2] at hx
      have hxs := Tm.sizes_mem hx
      exact c_put1 x _ _ (hle _ _ hb2) fun H4 _ => ih x (by omega) (by omega) (Tm.good_kid hgd hx) _ (by split <;> omega) (by split <;> omega) H4
    by_cases k1 : t.kind = 1
    · by_cases n0 : t.num = d
      · have hl : Tm.put z d t = Tm.lift d 0 z := by rw [Tm.put_eq, if_pos ⟨k1, n0⟩]
        simp (disch := first | omega | simp) [iv, Tm.av, Tm.cs_g0, put_get_ne, k1]
        unfold S_term_put_C1
        simp (disch := first | omega | simp) [iv, Tm.cs_len, Tm.cs_g1, Tm.cs_take, put_get_ne, n0]
        refine ca_pure (by kernel_rfl) (c_shifted z.size z (Nat.le_refl _) (by omega) hz d 0 (by omega) (by omega) _) ?_
        simp (disch := first | omega | simp) [Tm.av, Tm.cs_len, Tm.cs_take]
        exact rt_one hw (by repeat (first | with_reducible assumption | with_reducible exact AH.le.refl _ | with_reducible apply AH.le.up | (with_reducible refine AH.le.put hw ?_ ?_; · first | omega | (simp only [up_nx, put_nx, kill_nx]; done) | (simp only [up_nx, put_nx, kill_nx]; omega)) | (with_reducible refine AH.le.kill hw ?_ ?_; · first | omega | (simp only [up_nx, put_nx, kill_nx]; done) | (simp only [up_nx, put_nx, kill_nx]; omega)))) (.agg (Tm.cl _ _)) ⟨rfl, by rw [hl]⟩
      · by_cases n1 : d < t.num
        · have hl : Tm.put z d t = ⟨t.kind, IntKind.i64.wrap (t.num - 1), t.type, t.kids.map (Tm.put z (if t.kind = 3 then d + 1 else d))⟩ := by rw [Tm.put_eq, if_neg (fun e => n0 e.2), if_pos ⟨k1, n1⟩]
          simp (disch := first | omega | simp) [iv, Tm.av, Tm.cs_g0, put_get_ne, k1]
          unfold S_term_put_C1
          simp (disch := first | omega | simp) [iv, Tm.cs_len, Tm.cs_g1, put_get_ne, n0, n1]
          rw [show List.take 6 (List.take 1 t.cs ++ AV.p (Value.int IntKind.i64 (IntKind.i64.wrap (t.num - 1))) :: List.drop 2 t.cs) = Tm.cs ⟨t.kind, IntKind.i64.wrap (t.num - 1), t.type, t.kids⟩ by rw [Tm.cs_eq, Tm.cs_eq]; rfl]
          refine ca_pure (by kernel_rfl) (c_rebuilt ⟨t.kind, IntKind.i64.wrap (t.num - 1), t.type, t.kids⟩ d (by omega) (by rw [Tm.size_mk]; omega) hty _ [] [.ptr (H.nx + 1) 0] (Tm.put z (if t.kind = 3 then d + 1 else d)) (by kernel_rfl) (clo _ _ rfl rfl (by simp (disch := first | omega | simp) [put_get_ne]))) ?_
          simp (disch := first | omega | simp) [Tm.av, Tm.cs_len, Tm.cs_take, put_get_ne]
          exact rt_one hw (by repeat (first | with_reducible assumption | with_reducible exact AH.le.refl _ | with_reducible apply AH.le.up | (with_reducible refine AH.le.put hw ?_ ?_; · first | omega | (simp only [up_nx, put_nx, kill_nx]; done) | (simp only [up_nx, put_nx, kill_nx]; omega)) | (with_reducible refine AH.le.kill hw ?_ ?_; · first | omega | (simp only [up_nx, put_nx, kill_nx]; done) | (simp only [up_nx, put_nx, kill_nx]; omega)))) (.agg (Tm.cl _ _)) ⟨rfl, by rw [hl]⟩
        · have hl : Tm.put z d t = ⟨t.kind, t.num, t.type, t.kids.map (Tm.put z (if t.kind = 3 then d + 1 else d))⟩ := by rw [Tm.put_eq, if_neg (fun e => n0 e.2), if_neg (fun e => n1 e.2)]
          simp (disch := first | omega | simp) [iv, Tm.av, Tm.cs_g0, put_get_ne, k1]
          unfold S_term_put_C1
          simp (disch := first | omega | simp) [iv, Tm.cs_len, Tm.cs_g1, Tm.cs_take, put_get_ne, n0, n1]
          refine ca_pure (by kernel_rfl) (c_rebuilt t d (by omega) (by omega) hty _ [] [.ptr (H.nx + 1) 0] (Tm.put z (if t.kind = 3 then d + 1 else d)) (by kernel_rfl) (clo t _ rfl rfl (by simp (disch := first | omega | simp) [put_get_ne]))) ?_
          simp (disch := first | omega | simp) [Tm.av, Tm.cs_len, Tm.cs_take]
          exact rt_one hw (by repeat (first | with_reducible assumption | with_reducible exact AH.le.refl _ | with_reducible apply AH.le.up | (with_reducible refine AH.le.put hw ?_ ?_; · first | omega | (simp only [up_nx, put_nx, kill_nx]; done) | (simp only [up_nx, put_nx, kill_nx]; omega)) | (with_reducible refine AH.le.kill hw ?_ ?_; · first | omega | (simp only [up_nx, put_nx, kill_nx]; done) | (simp only [up_nx, put_nx, kill_nx]; omega)))) (.agg (Tm.cl _ _)) ⟨rfl, by rw [hl]⟩
    · have hl : Tm.put z d t = ⟨t.kind, t.num, t.type, t.kids.map (Tm.put z (if t.kind = 3 then d + 1 else d))⟩ := by rw [Tm.put_eq, if_neg (fun e => k1 e.1), if_neg (fun e => k1 e.1)]
      simp (disch := first | omega | simp) [iv, Tm.av, Tm.cs_len, Tm.cs_g0, Tm.cs_take, put_get_ne, k1]
      refine ca_pure (by kernel_rfl) (c_rebuilt t d (by omega) (by omega) hty _ [] [.ptr (H.nx + 1) 0] (Tm.put z (if t.kind = 3 then d + 1 else d)) (by kernel_rfl) (clo t _ rfl rfl (by simp (disch := first | omega | simp) [put_get_ne]))) ?_
      simp (disch := first | omega | simp) [Tm.av, Tm.cs_len, Tm.cs_take]
      exact rt_one hw (by repeat (first | with_reducible assumption | with_reducible exact AH.le.refl _ | with_reducible apply AH.le.up | (with_reducible refine AH.le.put hw ?_ ?_; · first | omega | (simp only [up_nx, put_nx, kill_nx]; done) | (simp only [up_nx, put_nx, kill_nx]; omega)) | (with_reducible refine AH.le.kill hw ?_ ?_; · first | omega | (simp only [up_nx, put_nx, kill_nx]; done) | (simp only [up_nx, put_nx, kill_nx]; omega)))) (.agg (Tm.cl _ _)) ⟨rfl, by rw [hl]⟩
end Go.Proofs.Ytkocpdekknfmaaa

/- Uses, spots, a step. -/
namespace Go.Proofs.Ytkocpdekknfmaaa
open Go.RowKit Go.Maps
theorem Tm.uses_eq (d : Int) (t : Tm) : Tm.uses d t = if t.kind = 1 ∧ t.num = d then 1 else Tm.usess (if t.kind = 3 then d + 1 else d) t.kids := by cases t; rw [Tm.uses]
set_option maxHeartbeats 2000000 in
theorem c_uses (N : Nat) : ∀ t : Tm, t.size ≤ N → N ≤ 400000 → ∀ (d : Int), 0 ≤ d → d + N ≤ 1000000 → ∀ H, Tri Try.prog 56 [t.av, iv d] H (fun r H' => H' = H ∧ r = iv (Tm.uses d t)) := by
  induction N with
  | zero => intro t ht; have := t.size_pos; omega
  | succ N ih =>
    intro t ht hN d hd0 hd1 H
    refine tri_wf fun hw => tri_term_uses ?_
    have hsz := t.size_eq
    have hlk := Tm.len_sizes t.kids
    have hule := Tm.usess_le (if t.kind = 3 then d + 1 else d) t.kids
    have hwr : IntKind.i64.wrap (d + 1) = d + 1 := wrapI (by omega) (by omega)
    unfold S_term_uses
    by_cases h1 : t.kind = 1 ∧ t.num = d
    · simp (disch := first | omega | simp) [iv, Tm.av, Tm.cs_g0, Tm.cs_g1, h1.1, h1.2]
      exact rt_one hw (by repeat (first | with_reducible assumption | with_reducible exact AH.le.refl _ | with_reducible apply AH.le.up | (with_reducible refine AH.le.put hw ?_ ?_; · first | omega | (simp only [up_nx, put_nx, kill_nx]; done) | (simp only [up_nx, put_nx, kill_nx]; omega)) | (with_reducible refine AH.le.kill hw ?_ ?_; · first | omega | (simp only [up_nx, put_nx, kill_nx]; done) | (simp only [up_nx, put_nx, kill_nx]; omega)))) (by repeat (first | exact Cl.p _ | exact Cl.dsl _ _ | exact Cl.any | refine Cl.tup ?_ | refine Cl.agg ?_ | exact Clo.nil | refine Clo.cons ?_ ?_)) ⟨rfl, by rw [Tm.uses_eq, if_pos h1]; rfl⟩
    have hu : Tm.uses d t = Tm.usess (if t.kind = 3 then d + 1 else d) t.kids := by rw [Tm.uses_eq, if_neg h1]
    have key : ∀ d' : Int, (if t.kind = 3 then d + 1 else d) = d' → S_term_uses_K2 (fun r H' => H' = H ∧ r = .p (.int .i64 (Tm.uses d t))) H (.ptr H.nx 0) [iv d'] ((H.up 2).put H.nx (.box 27 t.cs)) := by
      intro d' hd'
      rw [hd'] at hu hule
      have hdb : 0 ≤ d' ∧ d' ≤ d + 1 := by rw [← hd']; split <;> omega
      unfold S_term_uses_K2
      simp (disch := first | omega | simp) [iv, Tm.cs_g5]
      refine loop_st (fun s : Nat × Nat => [iv s.1, iv s.2]) (fun s H' => H.le H' ∧ H.nx ≤ H'.nx ∧ s.2 ≤ t.kids.length ∧ s.1 = Tm.usess d' (t.kids.take s.2)) (fun s => t.kids.length - s.2) (0, 0) (.refl (Nat.le_refl _)) ⟨(by repeat (first | with_reducible assumption | with_reducible exact AH.le.refl _ | with_reducible apply AH.le.up | (with_reducible refine AH.le.put hw ?_ ?_; · first | omega | (simp only [up_nx, put_nx, kill_nx]; done) | (simp only [up_nx, put_nx, kill_nx]; omega)) | (with_reducible refine AH.le.kill hw ?_ ?_; · first | omega | (simp only [up_nx, put_nx, kill_nx]; done) | (simp only [up_nx, put_nx, kill_nx]; omega)))), (by first | omega | (simp only [up_nx, put_nx]; done) | (simp only [up_nx, put_nx]; omega)), Nat.zero_le _, by simp [Tm.usess]⟩ ?_
      rintro ⟨n, i⟩ H1 hn1 ⟨hle, hn, hi, hnn⟩ k hk
      dsimp only at hi hnn hk
      unfold S_term_uses_L1
      by_cases hil : i < t.kids.length
      · obtain ⟨x, hx⟩ : ∃ x, t.kids[i]? = some x := ⟨_, List.getElem?_eq_getElem hil⟩
        have hxg : ∀ h, t.kids[i]'h = x := fun h => (List.getElem?_eq_some_iff.1 hx).2
        have hiv := ivn (i := i) (by omega)
        have hxs := Tm.sizes_mem (List.mem_of_getElem? hx)
        have hsucc := Tm.usess_succ d' t.kids i hil
        rw [hxg] at hsucc
        have hul := Tm.usess_le d' (t.kids.take (i + 1))
        have hsl := Tm.sizes_le t.kids (i + 1)
        have hw2 : IntKind.i64.wrap ((n : Int) + (Tm.uses d' x : Int)) = ((n + Tm.uses d' x : Nat) : Int) := by rw [wrapI (by omega) (by omega)]; omega
        simp (disch := first | omega | simp) [iv, hil, hxg, Tm.cs_len, Tm.cs_take]
        refine ca_pure (by kernel_rfl) (ih x (by omega) (by omega) d' hdb.1 (by omega) _) ?_
        simp (disch := first | omega | simp) [iv, hw2, hiv]
        exact hk (n + Tm.uses d' x, i + 1) _ _ _ (.refl (by first | omega | (simp only [up_nx, put_nx]; done) | (simp only [up_nx, put_nx]; omega))) ⟨(by repeat (first | with_reducible assumption | with_reducible exact AH.le.refl _ | with_reducible apply AH.le.up | (with_reducible refine AH.le.put hw ?_ ?_; · first | omega | (simp only [up_nx, put_nx, kill_nx]; done) | (simp only [up_nx, put_nx, kill_nx]; omega)) | (with_reducible refine AH.le.kill hw ?_ ?_; · first | omega | (simp only [up_nx, put_nx, kill_nx]; done) | (simp only [up_nx, put_nx, kill_nx]; omega)))), (by first | omega | (simp only [up_nx, put_nx]; done) | (simp only [up_nx, put_nx]; omega)), hil, by dsimp only; rw [hsucc, hnn]⟩ (by dsimp only; omega)
      · simp (disch := first | omega | simp) [iv, hil]
        refine rt_one hw (by repeat (first | with_reducible assumption | with_reducible exact AH.le.refl _ | with_reducible apply AH.le.up | (with_reducible refine AH.le.put hw ?_ ?_; · first | omega | (simp only [up_nx, put_nx, kill_nx]; done) | (simp only [up_nx, put_nx, kill_nx]; omega)) | (with_reducible refine AH.le.kill hw ?_ ?_; · first | omega | (simp only [up_nx, put_nx, kill_nx]; done) | (simp only [up_nx, put_nx, kill_nx]; omega)))) (by repeat (first | exact Cl.p _ | exact Cl.dsl _ _ | exact Cl.any | refine Cl.tup ?_ | refine Cl.agg ?_ | exact Clo.nil | refine Clo.cons ?_ ?_)) ⟨rfl, ?_⟩
        rw [hu, hnn, List.take_of_length_le (by omega)]
    have hc : t.kind ≠ 1 ∨ (t.kind = 1 ∧ t.num ≠ d) := by by_cases h : t.kind = 1; exact .inr ⟨h, fun e => h1 ⟨h, e⟩⟩; exact .inl h
    by_cases h3 : t.kind = 3
    · simp (disch := first | omega | simp) [iv, Tm.av, Tm.cs_g0, h3]
      refine cut_st (fun _ : Unit => [iv (d + 1)]) (fun _ H' => ((H.up 2).put H.nx (.box 27 t.cs)) = H') (fun k hk => ?_) ?_
      · simp (disch := first | omega | simp) [iv, Tm.cs_g0, h3, hwr]
        exact hk () _ _ _ (.refl (Nat.le_refl _)) rfl
      · rintro _ H2 _ rfl
        exact key (d + 1) (by rw [if_pos h3])
    · rcases hc with k1 | ⟨k1, n1⟩
      · simp (disch := first | omega | simp) [iv, Tm.av, Tm.cs_g0, k1]
        refine cut_st (fun _ : Unit => [iv d]) (fun _ H' => ((H.up 2).put H.nx (.box 27 t.cs)) = H') (fun k hk => ?_) ?_
        · simp (disch := first | omega | simp) [iv, Tm.cs_g0, h3]
          exact hk () _ _ _ (.refl (Nat.le_refl _)) rfl
        · rintro _ H2 _ rfl
          exact key d (by rw [if_neg h3])
      · simp (disch := first | omega | simp) [iv, Tm.av, Tm.cs_g0, Tm.cs_g1, k1, n1]
        refine cut_st (fun _ : Unit => [iv d]) (fun _ H' => ((H.up 2).put H.nx (.box 27 t.cs)) = H') (fun k hk => ?_) ?_
        · simp (disch := first | omega | simp) [iv, Tm.cs_g0, k1]
          exact hk () _ _ _ (.refl (Nat.le_refl _)) rfl
        · rintro _ H2 _ rfl
          exact key d (by rw [if_neg h3])
def wE (xs : List Int) : AV := .dsl 1 (xs.map fun x => [iv x])
theorem dt_ints (l : List Int) : DtR (l.map fun x => [iv x]) := fun e he x hx => by
  obtain ⟨i, _, rfl⟩ := List.mem_map.1 he
  simp only [List.mem_singleton] at hx
  subst hx; exact Dt.p _
theorem int_len (l : List Int) : ∀ e ∈ l.map (fun x => [iv x]), e.length = 1 := fun e he => by obtain ⟨t, _, rfl⟩ := List.mem_map.1 he; rfl
theorem tm_len (l : List Tm) : ∀ e ∈ l.map Tm.cs, e.length = 6 := fun e he => by obtain ⟨t, _, rfl⟩ := List.mem_map.1 he; exact t.cs_len
theorem c_CloneI {H : AH} (l : List Int) (hb : l.length * 8 ≤ 140737488355328) : Tri Try.prog 32 [wE l] H (fun v H' => Grows 3 1 H H' v (l.map fun x => [iv x]) ∧ H.le H' ∧ H.nx ≤ H'.nx) := tri_wf fun hw => by
  have hml : maxLen = 9223372036854775807 := by decide
  have hu : ∃ e, Try.prog.underlying 35 = some (.slice e) := ⟨3, by kernel_rfl⟩
  cases l with
  | nil =>
    refine tri_empty 0 1 rfl fun A c hc => tri_slices_Clone_s_int_int ?_
    unfold S_slices_Clone_s_int_int
    cases A with
    | none =>
      simp
      exact rt_refl ⟨.nil _ _ _ _, .refl _, Nat.le_refl _⟩ (Nat.le_refl _)
    | some b =>
      simp
      exact rt_refl ⟨.row (by first | omega | (simp only [up_nx, put_nx, kill_nx]; done) | (simp only [up_nx, put_nx, kill_nx]; omega)) (by first | omega | (simp only [up_nx, put_nx, kill_nx]; done) | (simp only [up_nx, put_nx, kill_nx]; omega)) (put_get _ _) (fun e he => by cases he) rfl, (by repeat (first | with_reducible assumption | with_reducible exact AH.le.refl _ | with_reducible apply AH.le.up | (with_reducible refine AH.le.put hw ?_ ?_; · first | omega | (simp only [up_nx, put_nx, kill_nx]; done) | (simp only [up_nx, put_nx, kill_nx]; omega)) | (with_reducible refine AH.le.kill hw ?_ ?_; · first | omega | (simp only [up_nx, put_nx, kill_nx]; done) | (simp only [up_nx, put_nx, kill_nx]; omega)))), (by first | omega | (simp only [up_nx, put_nx, kill_nx]; done) | (simp only [up_nx, put_nx, kill_nx]; omega))⟩ (by first | omega | (simp only [up_nx, put_nx, kill_nx]; done) | (simp only [up_nx, put_nx, kill_nx]; omega))
  | cons x xs =>
    refine tri_slices_Clone_s_int_int ?_
    unfold S_slices_Clone_s_int_int wE
    have hpos : 0 < ((x :: xs).map fun x => [iv x]).length := by simp
    have hlen : ((x :: xs).map fun x => [iv x]).length = (x :: xs).length := by simp
    have hdt := dt_ints (x :: xs)
    generalize (x :: xs).map (fun x => [iv x]) = ys at *
    simp
    exact ⟨hpos, by omega, by omega, rt_refl ⟨.row (by first | omega | (simp only [up_nx, put_nx, kill_nx]; done) | (simp only [up_nx, put_nx, kill_nx]; omega)) (by first | omega | (simp only [up_nx, put_nx, kill_nx]; done) | (simp only [up_nx, put_nx, kill_nx]; omega)) (put_get _ _) hdt rfl, (by repeat (first | with_reducible assumption | with_reducible exact AH.le.refl _ | with_reducible apply AH.le.up | (with_reducible refine AH.le.put hw ?_ ?_; · first | omega | (simp only [up_nx, put_nx, kill_nx]; done) | (simp only [up_nx, put_nx, kill_nx]; omega)) | (with_reducible refine AH.le.kill hw ?_ ?_; · first | omega | (simp only [up_nx, put_nx, kill_nx]; done) | (simp only [up_nx, put_nx, kill_nx]; omega)))), (by first | omega | (simp only [up_nx, put_nx, kill_nx]; done) | (simp only [up_nx, put_nx, kill_nx]; omega))⟩ (by first | omega | (simp only [up_nx, put_nx, kill_nx]; done) | (simp only [up_nx, put_nx, kill_nx]; omega))⟩
theorem c_CloneTm {H : AH} (l : List Tm) (hb : l.length * 80 ≤ 140737488355328) : Tri Try.prog 46 [.dsl 6 (l.map Tm.cs)] H (fun v H' => Grows 27 6 H H' v (l.map Tm.cs) ∧ H.le H' ∧ H.nx ≤ H'.nx) := tri_wf fun hw => by
  have hml : maxLen = 9223372036854775807 := by decide
  have hu : ∃ e, Try.prog.underlying 25 = some (.slice e) := ⟨27, by kernel_rfl⟩
  cases l with
  | nil =>
    refine tri_empty 0 6 rfl fun A c hc => tri_slices_Clone_s_api_Term_api_Term ?_
    unfold S_slices_Clone_s_api_Term_api_Term
    cases A with
    | none =>
      simp
      exact rt_refl ⟨.nil _ _ _ _, .refl _, Nat.le_refl _⟩ (Nat.le_refl _)
    | some b =>
      simp
      exact rt_refl ⟨.row (by first | omega | (simp only [up_nx, put_nx, kill_nx]; done) | (simp only [up_nx, put_nx, kill_nx]; omega)) (by first | omega | (simp only [up_nx, put_nx, kill_nx]; done) | (simp only [up_nx, put_nx, kill_nx]; omega)) (put_get _ _) (fun e he => by cases he) rfl, (by repeat (first | with_reducible assumption | with_reducible exact AH.le.refl _ | with_reducible apply AH.le.up | (with_reducible refine AH.le.put hw ?_ ?_; · first | omega | (simp only [up_nx, put_nx, kill_nx]; done) | (simp only [up_nx, put_nx, kill_nx]; omega)) | (with_reducible refine AH.le.kill hw ?_ ?_; · first | omega | (simp only [up_nx, put_nx, kill_nx]; done) | (simp only [up_nx, put_nx, kill_nx]; omega)))), (by first | omega | (simp only [up_nx, put_nx, kill_nx]; done) | (simp only [up_nx, put_nx, kill_nx]; omega))⟩ (by first | omega | (simp only [up_nx, put_nx, kill_nx]; done) | (simp only [up_nx, put_nx, kill_nx]; omega))
  | cons x xs =>
    refine tri_slices_Clone_s_api_Term_api_Term ?_
    unfold S_slices_Clone_s_api_Term_api_Term
    have hpos : 0 < ((x :: xs).map Tm.cs).length := by simp
    have hlen : ((x :: xs).map Tm.cs).length = (x :: xs).length := by simp
    have hdt := dt_tm (x :: xs)
    generalize (x :: xs).map Tm.cs = ys at *
    simp
    exact ⟨hpos, by omega, by omega, rt_refl ⟨.row (by first | omega | (simp only [up_nx, put_nx, kill_nx]; done) | (simp only [up_nx, put_nx, kill_nx]; omega)) (by first | omega | (simp only [up_nx, put_nx, kill_nx]; done) | (simp only [up_nx, put_nx, kill_nx]; omega)) (put_get _ _) hdt rfl, (by repeat (first | with_reducible assumption | with_reducible exact AH.le.refl _ | with_reducible apply AH.le.up | (with_reducible refine AH.le.put hw ?_ ?_; · first | omega | (simp only [up_nx, put_nx, kill_nx]; done) | (simp only [up_nx, put_nx, kill_nx]; omega)) | (with_reducible refine AH.le.kill hw ?_ ?_; · first | omega | (simp only [up_nx, put_nx, kill_nx]; done) | (simp only [up_nx, put_nx, kill_nx]; omega)))), (by first | omega | (simp only [up_nx, put_nx, kill_nx]; done) | (simp only [up_nx, put_nx, kill_nx]; omega))⟩ (by first | omega | (simp only [up_nx, put_nx, kill_nx]; done) | (simp only [up_nx, put_nx, kill_nx]; omega))⟩
theorem Tm.spot_no {t : Tm} (h : t.kind ≠ 4) : t.spot = false := by unfold Tm.spot; simp [h]
theorem c_isSpot (t : Tm) (hg : t.good) : PF Try.prog 31 [t.av] (bv t.spot) := fun H => tri_wf fun hw => tri_term_isSpot (by
  unfold S_term_isSpot
  by_cases h4 : t.kind = 4
  · have hl := (Tm.good_eq.1 hg).1.1 h4
    match hks : t.kids, hl with
    | [f, x], _ =>
      have hs : t.spot = decide (f.kind = 3) := by unfold Tm.spot; rw [hks]; simp [h4]; rfl
      simp (disch := first | omega | simp) [iv, Tm.av, Tm.cs_g0, Tm.cs_g5, h4, hks]
      exact rt_one hw (by repeat (first | with_reducible assumption | with_reducible exact AH.le.refl _ | with_reducible apply AH.le.up | (with_reducible refine AH.le.put hw ?_ ?_; · first | omega | (simp only [up_nx, put_nx, kill_nx]; done) | (simp only [up_nx, put_nx, kill_nx]; omega)) | (with_reducible refine AH.le.kill hw ?_ ?_; · first | omega | (simp only [up_nx, put_nx, kill_nx]; done) | (simp only [up_nx, put_nx, kill_nx]; omega)))) (by repeat (first | exact Cl.p _ | exact Cl.dsl _ _ | exact Cl.any | refine Cl.tup ?_ | refine Cl.agg ?_ | exact Clo.nil | refine Clo.cons ?_ ?_)) ⟨rfl, by rw [hs]; rfl⟩
  · simp (disch := first | omega | simp) [iv, Tm.av, Tm.cs_g0, h4]
    exact rt_one hw (by repeat (first | with_reducible assumption | with_reducible exact AH.le.refl _ | with_reducible apply AH.le.up | (with_reducible refine AH.le.put hw ?_ ?_; · first | omega | (simp only [up_nx, put_nx, kill_nx]; done) | (simp only [up_nx, put_nx, kill_nx]; omega)) | (with_reducible refine AH.le.kill hw ?_ ?_; · first | omega | (simp only [up_nx, put_nx, kill_nx]; done) | (simp only [up_nx, put_nx, kill_nx]; omega)))) (by repeat (first | exact Cl.p _ | exact Cl.dsl _ _ | exact Cl.any | refine Cl.tup ?_ | refine Cl.agg ?_ | exact Clo.nil | refine Clo.cons ?_ ?_)) ⟨rfl, by rw [Tm.spot_no h4]; rfl⟩)
theorem c_RIsSpot (t : Tm) (hg : t.good) : PF Try.prog 33 [t.av] (bv t.spot) := fun H => tri_wf fun hw => tri_wordhoardref_IsSpot (by
  unfold S_wordhoardref_IsSpot
  by_cases h4 : t.kind = 4
  · have hl := (Tm.good_eq.1 hg).1.1 h4
    match hks : t.kids, hl with
    | [f, x], _ =>
      have hs : t.spot = decide (f.kind = 3) := by unfold Tm.spot; rw [hks]; simp [h4]; rfl
      simp (disch := first | omega | simp) [iv, Tm.av, Tm.cs_g0, Tm.cs_g5, h4, hks]
      exact rt_one hw (by repeat (first | with_reducible assumption | with_reducible exact AH.le.refl _ | with_reducible apply AH.le.up | (with_reducible refine AH.le.put hw ?_ ?_; · first | omega | (simp only [up_nx, put_nx, kill_nx]; done) | (simp only [up_nx, put_nx, kill_nx]; omega)) | (with_reducible refine AH.le.kill hw ?_ ?_; · first | omega | (simp only [up_nx, put_nx, kill_nx]; done) | (simp only [up_nx, put_nx, kill_nx]; omega)))) (by repeat (first | exact Cl.p _ | exact Cl.dsl _ _ | exact Cl.any | refine Cl.tup ?_ | refine Cl.agg ?_ | exact Clo.nil | refine Clo.cons ?_ ?_)) ⟨rfl, by rw [hs]; rfl⟩
  · simp (disch := first | omega | simp) [iv, Tm.av, Tm.cs_g0, h4]
    exact rt_one hw (by repeat (first | with_reducible assumption | with_reducible exact AH.le.refl _ | with_reducible apply AH.le.up | (with_reducible refine AH.le.put hw ?_ ?_; · first | omega | (simp only [up_nx, put_nx, kill_nx]; done) | (simp only [up_nx, put_nx, kill_nx]; omega)) | (with_reducible refine AH.le.kill hw ?_ ?_; · first | omega | (simp only [up_nx, put_nx, kill_nx]; done) | (simp only [up_nx, put_nx, kill_nx]; omega)))) (by repeat (first | exact Cl.p _ | exact Cl.dsl _ _ | exact Cl.any | refine Cl.tup ?_ | refine Cl.agg ?_ | exact Clo.nil | refine Clo.cons ?_ ?_)) ⟨rfl, by rw [Tm.spot_no h4]; rfl⟩)
set_option maxHeartbeats 2000000 in
theorem c_step {t f x b : Tm} {n : Int} {ty : Ty} (e : t = ⟨4, n, ty, [f, x]⟩) (hf : f.kids = [b]) (_hg : t.good) (_hfg : f.good) (hxg : x.good) (hbg : b.good) (hs : t.size ≤ 400) (d : Int) (hd : 0 ≤ d ∧ d ≤ 1000000) : PF Try.prog 45 [t.av, iv d] (.tup [(stepT d x b t).av, bv (stepB d x b)]) := fun H => tri_wf fun hw => tri_term_step (by
  have hks : t.kids = [f, x] := by rw [e]
  have hsz := t.size_eq
  have hfsz := f.size_eq
  rw [hks] at hsz
  rw [hf] at hfsz
  simp [Tm.sizes] at hsz hfsz
  have hbp := b.size_pos
  have hxp := x.size_pos
  have hul := Tm.uses_le 0 b
  unfold S_term_step
  have hw1 : ∀ q : AH, WF q → ∀ i, q.nx ≤ i → q.get i = none := fun q h i hi => wf_none h hi
  have hM : WF (((H.up 3).put H.nx (.box 27 t.cs)).put (H.nx + 1) (.box 27 [.p (.int .i64 0), .p (.int .i64 0), .p (.int .i64 0), .p (.int .i64 0), .p (.slice none 0 0), .p (.slice none 0 0)])) := ((hw.up 3).box (by first | omega | (simp only [up_nx]; done) | (simp only [up_nx]; omega)) (t.cl _)).box (by first | omega | (simp only [up_nx, put_nx]; done) | (simp only [up_nx, put_nx]; omega)) (by repeat (first | exact Cl.p _ | exact Cl.dsl _ _ | exact Cl.any | refine Cl.tup ?_ | refine Cl.agg ?_ | exact Clo.nil | refine Clo.cons ?_ ?_))
  simp (disch := first | omega | simp) [iv, Tm.av, Tm.cs_len, Tm.cs_g5, Tm.cs_take, put_get_ne, hks, hf, wf_none hw]
  refine ca_pure (by kernel_rfl) (c_size x 400 (by decide) (by decide) _) ?_
  rw [capN_low (by omega)]
  simp (disch := first | omega | simp) [iv, Tm.cs_len, Tm.cs_take, put_get_ne]
  refine cav_pure (by kernel_rfl) (fun H2 _ => c_size b 400 (by decide) (by decide) H2) ?_
  rw [capN_low (by omega)]
  simp (disch := first | omega | simp) [iv, Tm.cs_len, Tm.cs_take, put_get_ne]
  refine cav_pure (by kernel_rfl) (fun H2 _ => c_uses b.size b (Nat.le_refl _) (by omega) 0 (by decide) (by omega) H2) ?_
  have hmul : (Tm.uses 0 b : Int) * ((x.size : Int) - 1) ≤ 160000 := by
    have h1 : Tm.uses 0 b * (x.size - 1) ≤ 400 * 400 := Nat.mul_le_mul (by omega) (by omega)
    have h2 : ((Tm.uses 0 b * (x.size - 1) : Nat) : Int) = (Tm.uses 0 b : Int) * ((x.size : Int) - 1) := by rw [Int.natCast_mul]; congr 1; omega
    omega
  have hmul0 : 0 ≤ (Tm.uses 0 b : Int) * ((x.size : Int) - 1) := Int.mul_nonneg (by omega) (by omega)
  have w1 : IntKind.i64.wrap ((x.size : Int) - 1) = (x.size : Int) - 1 := wrapI (by omega) (by omega)
  have w2 : IntKind.i64.wrap (d + (b.size : Int)) = d + (b.size : Int) := wrapI (by omega) (by omega)
  have w3 : IntKind.i64.wrap ((Tm.uses 0 b : Int) * ((x.size : Int) - 1)) = (Tm.uses 0 b : Int) * ((x.size : Int) - 1) := wrapI (by omega) (by omega)
  have w4 : IntKind.i64.wrap (d + (b.size : Int) + (Tm.uses 0 b : Int) * ((x.size : Int) - 1)) = d + (b.size : Int) + (Tm.uses 0 b : Int) * ((x.size : Int) - 1) := wrapI (by omega) (by omega)
  by_cases hc : d + (b.size : Int) + (Tm.uses 0 b : Int) * ((x.size : Int) - 1) ≤ 400
  · have hv : stepT d x b t = Tm.put x 0 b := by unfold stepT; rw [if_pos hc]
    have hb : stepB d x b = true := decide_eq_true hc
    have hc2 : ¬ 400 < d + (b.size : Int) + (Tm.uses 0 b : Int) * ((x.size : Int) - 1) := by omega
    simp (disch := first | omega | simp) [iv, Tm.cs_len, Tm.cs_take, put_get_ne, w1, w2, w3, w4, hc2]
    refine ca_pure (by kernel_rfl) (c_put x hxg (by omega) b.size b (Nat.le_refl _) (by omega) hbg 0 (by decide) (by omega) _) ?_
    simp (disch := first | omega | simp) [Tm.av, Tm.cs_len, Tm.cs_take, put_get_ne]
    exact rt_tup hw (by repeat (first | with_reducible assumption | with_reducible exact AH.le.refl _ | with_reducible apply AH.le.up | (with_reducible refine AH.le.put hw ?_ ?_; · first | omega | (simp only [up_nx, put_nx, kill_nx]; done) | (simp only [up_nx, put_nx, kill_nx]; omega)) | (with_reducible refine AH.le.kill hw ?_ ?_; · first | omega | (simp only [up_nx, put_nx, kill_nx]; done) | (simp only [up_nx, put_nx, kill_nx]; omega)))) (.cons (.agg (Tm.cl _ _)) (.cons (Cl.p _) .nil)) ⟨rfl, by rw [hv, hb]; rfl⟩
  · have hv : stepT d x b t = t := by unfold stepT; rw [if_neg hc]
    have hb : stepB d x b = false := decide_eq_false hc
    have hc2 : 400 < d + (b.size : Int) + (Tm.uses 0 b : Int) * ((x.size : Int) - 1) := by omega
    simp (disch := first | omega | simp) [iv, Tm.cs_len, Tm.cs_take, put_get_ne, w1, w2, w3, w4, hc2]
    exact rt_tup hw (by repeat (first | with_reducible assumption | with_reducible exact AH.le.refl _ | with_reducible apply AH.le.up | (with_reducible refine AH.le.put hw ?_ ?_; · first | omega | (simp only [up_nx, put_nx, kill_nx]; done) | (simp only [up_nx, put_nx, kill_nx]; omega)) | (with_reducible refine AH.le.kill hw ?_ ?_; · first | omega | (simp only [up_nx, put_nx, kill_nx]; done) | (simp only [up_nx, put_nx, kill_nx]; omega)))) (.cons (.agg (Tm.cl _ _)) (.cons (Cl.p _) .nil)) ⟨rfl, by rw [hv, hb]; rfl⟩)
end Go.Proofs.Ytkocpdekknfmaaa
