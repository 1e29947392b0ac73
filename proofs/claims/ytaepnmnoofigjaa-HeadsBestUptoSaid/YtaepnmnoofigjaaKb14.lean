/- Texts that the proof rests on, part 14: what each holds stands at its head. -/
import Derived.Test.YtaepnmnoofigjaaKb13

/- The best edges, found one by one. -/
namespace Go.Proofs.Ytaepnmnoofigjaa
open Go.RowKit Go.Maps
theorem natCast_inj {a b : Nat} : ((a : Int) = (b : Int)) ↔ a = b := by omega
theorem c_Index (ring : List Nat) (hl : ring.length ≤ 1000) (v : Nat) : ∀ H, Tri Try.prog 36 [.dsl 1 (nE ring), iv (v : Int)] H (fun r H' => H' = H ∧ ∃ i : Int, r = iv i ∧ decide (0 ≤ i) = decide (v ∈ ring)) := fun H => tri_wf fun hw => tri_slices_Index_s_int_int (by
  unfold S_slices_Index_s_int_int
  simp [nE_len]
  refine loop_st (fun i : Nat => [iv i]) (fun i H' => H = H' ∧ i ≤ ring.length ∧ ∀ y ∈ ring.take i, decide (y = v) = false) (fun i => ring.length - i) 0 (.refl (Nat.le_refl _)) ⟨rfl, Nat.zero_le _, by simp⟩ ?_
  rintro i _ _ ⟨rfl, hi, hno⟩ k hk
  unfold S_slices_Index_s_int_int_L1
  by_cases h : i < ring.length
  · obtain ⟨x, hx⟩ : ∃ x, ring[i]? = some x := ⟨_, List.getElem?_eq_getElem h⟩
    have hxg : ∀ h, ring[i]'h = x := fun _ => (List.getElem?_eq_some_iff.1 hx).2
    by_cases e : x = v
    · subst e
      have hm := List.mem_of_getElem? hx
      simp [iv, h, nE, hxg]
      exact rt_refl ⟨rfl, _, rfl, by simp [hm]⟩ (Nat.le_refl _)
    · have e' : ¬ v = x := fun c => e c.symm
      have e2 : ¬ (v : Int) = (x : Int) := by omega
      simp [iv, h, nE, hxg, e2]
      rw [ivn (by omega)]
      exact hk (i + 1) _ _ _ (.refl (Nat.le_refl _)) ⟨rfl, h, any_take hno hx (by simp [e])⟩ (by omega)
  · have hn : v ∉ ring := fun hm => by
      have := List.any_eq_false.1 (any_done hno (by omega)) v hm
      simp at this
    simp [iv, h]
    exact rt_refl ⟨rfl, _, rfl, by simp [hn]⟩ (Nat.le_refl _))
theorem c_Contains (ring : List Nat) (hl : ring.length ≤ 1000) (v : Nat) : PF Try.prog 35 [.dsl 1 (nE ring), iv (v : Int)] (bv (decide (v ∈ ring))) := fun H => tri_wf fun hw => tri_slices_Contains_s_int_int (by
  unfold S_slices_Contains_s_int_int
  refine ca_of (by kernel_rfl) (c_Index ring hl v H) ?_
  rintro _ H1 ⟨rfl, i, rfl, hi⟩
  simp [iv, bv]
  exact rt_refl ⟨rfl, by rw [hi]⟩ (Nat.le_refl _))
theorem fill_set {α : Type} {a b : α} {n v : Nat} (h : v < n) : (List.replicate v a ++ List.replicate (n - v) b).set v a = List.replicate (v + 1) a ++ List.replicate (n - (v + 1)) b := by
  rw [List.set_append_right _ _ (by simp), List.replicate_succ', List.append_assoc]
  congr 1
  obtain ⟨m, hm⟩ : ∃ m, n - v = m + 1 := ⟨n - v - 1, by omega⟩
  rw [List.length_replicate, Nat.sub_self, hm, List.replicate_succ, List.set_cons_zero, show n - (v + 1) = m by omega]; rfl
set_option maxHeartbeats 8000000 in
theorem c_grown (N : Nat) : ∀ n, n ≤ N → N ≤ 13 → 1 ≤ n → ∀ (l : List Ed) (B : Nat), HasZ n l → l.length ≤ 1000 → (∀ e ∈ l, -(B : Int) ≤ e.w ∧ e.w ≤ (B : Int)) → B * 2 ^ n ≤ 2 ^ 60 →
    ∀ H, Tri Try.prog 32 [iv (n : Int), .dsl 4 (edE l)] H (fun v H' => H' = H ∧ ∃ ids, v = .dsl 1 (iE ids) ∧ Grown n l ids) := by
  induction N with
  | zero => intro n h1 _ h2; omega
  | succ N ih =>
  intro n hnN hN hn1 l B hz hl hB hB2 H
  refine tri_wf fun hw => tri_heads_grown ?_
  have hml : maxLen = 9223372036854775807 := by decide
  unfold S_heads_grown
  simp (disch := first | omega | simp) [iv]
  refine ⟨by omega, by omega, ?_⟩
  have hzz : List.replicate n [AV.p (.int .i64 0)] = iE (List.replicate 0 (-1) ++ List.replicate (n - 0) 0) := by simp [iE, iv]
  rw [hzz]
  generalize hM : AH.put _ _ _ = M
  have hMl : H.le M := by rw [← hM]; exact (by repeat (first | with_reducible assumption | with_reducible exact AH.le.refl _ | with_reducible apply AH.le.up | (with_reducible refine AH.le.put hw ?_ ?_; · first | omega | (simp only [up_nx, put_nx, kill_nx]; done) | (simp only [up_nx, put_nx, kill_nx]; omega)) | (with_reducible refine AH.le.kill hw ?_ ?_; · first | omega | (simp only [up_nx, put_nx, kill_nx]; done) | (simp only [up_nx, put_nx, kill_nx]; omega))))
  have hMn : M.nx = H.nx + 3 := by rw [← hM]; rfl
  have hMr : M.get (H.nx + 1) = some (.row 3 1 (iE (List.replicate 0 (-1) ++ List.replicate (n - 0) 0))) := by rw [← hM, put_get]
  -- all are -1
  refine loop_wf (H0 := M) (fun v : Nat => [iv v]) (fun v H' => H.le H' ∧ H.nx + 3 ≤ H'.nx ∧ v ≤ n ∧ H'.get (H.nx + 1) = some (.row 3 1 (iE (List.replicate v (-1) ++ List.replicate (n - v) 0)))) (fun v => n - v) 0 (.refl (Nat.le_refl _)) ⟨hMl, by omega, Nat.zero_le _, hMr⟩ ?_
  rintro v H1 hn1' hw1 ⟨hle, hnx, hvn, hrow⟩ k hk
  unfold S_heads_grown_L9
  have hlen : (iE (List.replicate v (-1) ++ List.replicate (n - v) 0)).length = n := by rw [iE_len]; simp; omega
  by_cases hv : v < n
  · have hg : ∀ h, (iE (List.replicate v (-1) ++ List.replicate (n - v) 0))[v]'h = [iv 0] := fun h => by
      simp [iE, List.getElem_append_right]
    have hset := fill_set (a := (-1 : Int)) (b := 0) hv
    simp (disch := first | omega | simp) [iv, hv, hrow, hg]
    rw [ivn (by omega)]
    exact hk (v + 1) _ _ _ (.refl (by simp only [put_nx, up_nx]; omega)) ⟨(by repeat (first | with_reducible assumption | with_reducible exact AH.le.refl _ | with_reducible apply AH.le.up | (with_reducible refine AH.le.put hw ?_ ?_; · first | omega | (simp only [up_nx, put_nx, kill_nx]; done) | (simp only [up_nx, put_nx, kill_nx]; omega)) | (with_reducible refine AH.le.kill hw ?_ ?_; · first | omega | (simp only [up_nx, put_nx, kill_nx]; done) | (simp only [up_nx, put_nx, kill_nx]; omega)))), (by first | omega | (simp only [up_nx, put_nx]; done) | (simp only [up_nx, put_nx]; omega)), hv, by rw [put_get, ← hset, iE, iE, List.map_set]; rfl⟩ (by omega)
  have hve : n = v := by omega
  subst hve
  simp (disch := first | omega | simp) [iv, edE_len]
  have hrow : H1.get (H.nx + 1) = some (.row 3 1 (iE (List.replicate n (-1)))) := by rw [hrow, Nat.sub_self, List.replicate_zero, List.append_nil]
  -- the best edges
  refine loop_wf (H0 := H1) (fun x : Nat × List Int => [iv x.1]) (fun x H' => H.le H' ∧ H.nx + 3 ≤ H'.nx ∧ x.1 ≤ l.length ∧ H'.get (H.nx + 1) = some (.row 3 1 (iE x.2)) ∧ x.2.length = n ∧ ∀ v, v < n → ∃ y, x.2[v]? = some y ∧ BI l x.1 v y) (fun x => l.length - x.1) (0, List.replicate n (-1)) (.refl (Nat.le_refl _)) ⟨hle, hnx, Nat.zero_le _, hrow, by simp, fun v hv => ⟨-1, by simp [hv], BI.start l v⟩⟩ ?_
  rintro ⟨i, bl⟩ H2 hn2 hw2 ⟨hle2, hnx2, hi, hrow2, hbll, hBI⟩ k2 hk2
  dsimp only at hi hrow2 hbll hBI hk2
  unfold S_heads_grown_L8
  by_cases hil : i < l.length
  · obtain ⟨e, he⟩ : ∃ e, l[i]? = some e := ⟨_, List.getElem?_eq_getElem hil⟩
    have heg : ∀ h, (edE l)[i]'h = [iv (e.fr : Int), iv (e.to : Int), iv e.w, iv e.id] := fun h => (List.getElem?_eq_some_iff.1 (edE_at he)).2
    have heo := edE_at he
    simp only [iv] at heo heg
    obtain ⟨hefr, heto⟩ := hz.2 e (List.mem_of_getElem? he)
    obtain ⟨y, hy, hyb⟩ := hBI e.to heto
    have hyg : ∀ h, (iE bl)[e.to]'h = [iv y] := fun h => (List.getElem?_eq_some_iff.1 (iE_at hy)).2
    have hiv := ivn (i := i) (by omega)
    have skip : (∀ v, v < n → ∃ y, bl[v]? = some y ∧ BI l (i + 1) v y) → ∀ X : AH, H.le X → H2.nx ≤ X.nx → X.get (H.nx + 1) = some (.row 3 1 (iE bl)) → k2 [.p (.int .i64 (IntKind.i64.wrap ((i : Int) + 1)))] X := fun hB X hX hXn hXr => by
      rw [hiv]
      have := hk2 (i + 1, bl) X _ _ (.refl (by omega)) ⟨hX, by omega, hil, hXr, hbll, hB⟩ (by dsimp only; omega)
      exact this
    unfold S_heads_grown_C1
    by_cases h0 : e.to = 0
    · have h0' : (e.to = 0) = True := eq_true h0
      have h0i : ((e.to : Int) = 0) = True := eq_true (by omega)
      simp (disch := first | omega | simp) [iv, hil, edE_len, heo, h0']
      refine skip ?_ _ ?_ ?_ ?_
      · exact fun v hv => by obtain ⟨y, h1, h2⟩ := hBI v hv; exact ⟨y, h1, h2.skip he fun e => .inl (by omega)⟩
      · exact (by repeat (first | with_reducible assumption | with_reducible exact AH.le.refl _ | with_reducible apply AH.le.up | (with_reducible refine AH.le.put hw ?_ ?_; · first | omega | (simp only [up_nx, put_nx, kill_nx]; done) | (simp only [up_nx, put_nx, kill_nx]; omega)) | (with_reducible refine AH.le.kill hw ?_ ?_; · first | omega | (simp only [up_nx, put_nx, kill_nx]; done) | (simp only [up_nx, put_nx, kill_nx]; omega))))
      · exact (by first | omega | (simp only [up_nx, put_nx]; done) | (simp only [up_nx, put_nx]; omega))
      · simp (disch := first | omega | simp) [put_get_ne, hrow2]
    have h0' : (e.to = 0) = False := eq_false h0
    have h0i : ((e.to : Int) = 0) = False := eq_false (by omega)
    by_cases h1 : e.fr = e.to
    · have h1' : (e.fr = e.to) = True := eq_true h1
      have h1i : ((e.fr : Int) = (e.to : Int)) = True := eq_true (by omega)
      simp (disch := first | omega | simp) [iv, hil, edE_len, heo, h0', h1i]
      refine skip ?_ _ ?_ ?_ ?_
      · exact fun v hv => by obtain ⟨y, h1, h2⟩ := hBI v hv; exact ⟨y, h1, h2.skip he fun e => .inr (by omega)⟩
      · exact (by repeat (first | with_reducible assumption | with_reducible exact AH.le.refl _ | with_reducible apply AH.le.up | (with_reducible refine AH.le.put hw ?_ ?_; · first | omega | (simp only [up_nx, put_nx, kill_nx]; done) | (simp only [up_nx, put_nx, kill_nx]; omega)) | (with_reducible refine AH.le.kill hw ?_ ?_; · first | omega | (simp only [up_nx, put_nx, kill_nx]; done) | (simp only [up_nx, put_nx, kill_nx]; omega))))
      · exact (by first | omega | (simp only [up_nx, put_nx]; done) | (simp only [up_nx, put_nx]; omega))
      · simp (disch := first | omega | simp) [put_get_ne, hrow2]
    have h1' : (e.fr = e.to) = False := eq_false h1
    have h1i : ((e.fr : Int) = (e.to : Int)) = False := eq_false (by omega)
    have hyo := iE_at hy
    simp only [iv] at hyo hyg
    have write : (y < 0 ∨ ∃ (j : Nat) (e1 : Ed), y = (j : Int) ∧ l[j]? = some e1 ∧ e1.w < e.w) → ∀ X : AH, H.le X → H2.nx ≤ X.nx → X.get (H.nx + 1) = some (.row 3 1 ((iE bl).set e.to [iv i])) → k2 [.p (.int .i64 (IntKind.i64.wrap ((i : Int) + 1)))] X := fun hB X hX hXn hXr => by
      rw [hiv]
      have := hk2 (i + 1, bl.set e.to i) X _ _ (.refl (by omega)) ⟨hX, by omega, hil, by rw [hXr]; simp [iE, List.map_set], by simp [hbll], fun v hv => ?_⟩ (by dsimp only; omega)
      · exact this
      · by_cases q : v = e.to
        · subst q
          exact ⟨i, by simp [hbll, hv], hyb.better he rfl h0 h1 hB⟩
        · obtain ⟨z, z1, z2⟩ := hBI v hv
          exact ⟨z, by dsimp only; rw [List.getElem?_set_ne (fun c => q c.symm)]; exact z1, z2.skip he fun c => absurd c.symm q⟩
    by_cases h2 : y < 0
    · simp (disch := first | omega | simp) [iv, hil, edE_len, heo, put_get_ne, h0', h1i, hrow2, heto, hyo, h2]
      refine write (.inl h2) _ ?_ ?_ ?_
      · exact (by repeat (first | with_reducible assumption | with_reducible exact AH.le.refl _ | with_reducible apply AH.le.up | (with_reducible refine AH.le.put hw ?_ ?_; · first | omega | (simp only [up_nx, put_nx, kill_nx]; done) | (simp only [up_nx, put_nx, kill_nx]; omega)) | (with_reducible refine AH.le.kill hw ?_ ?_; · first | omega | (simp only [up_nx, put_nx, kill_nx]; done) | (simp only [up_nx, put_nx, kill_nx]; omega))))
      · exact (by first | omega | (simp only [up_nx, put_nx]; done) | (simp only [up_nx, put_nx]; omega))
      · rw [put_get]; rfl
    obtain ⟨j, e1, hyj, he1⟩ := hyb.neg h2
    subst hyj
    have hjl := (List.getElem?_eq_some_iff.1 he1).1
    have he1o := edE_at he1
    have he1g : ∀ h, (edE l)[j]'h = [iv (e1.fr : Int), iv (e1.to : Int), iv e1.w, iv e1.id] := fun h => (List.getElem?_eq_some_iff.1 he1o).2
    simp only [iv] at he1o he1g
    by_cases h3 : e1.w < e.w
    · simp (disch := first | omega | simp) [iv, hil, edE_len, heo, put_get_ne, h0', h1i, hrow2, heto, hyo, h2, hjl, he1o, h3]
      refine write (.inr ⟨j, e1, rfl, he1, h3⟩) _ ?_ ?_ ?_
      · exact (by repeat (first | with_reducible assumption | with_reducible exact AH.le.refl _ | with_reducible apply AH.le.up | (with_reducible refine AH.le.put hw ?_ ?_; · first | omega | (simp only [up_nx, put_nx, kill_nx]; done) | (simp only [up_nx, put_nx, kill_nx]; omega)) | (with_reducible refine AH.le.kill hw ?_ ?_; · first | omega | (simp only [up_nx, put_nx, kill_nx]; done) | (simp only [up_nx, put_nx, kill_nx]; omega))))
      · exact (by first | omega | (simp only [up_nx, put_nx]; done) | (simp only [up_nx, put_nx]; omega))
      · rw [put_get]; rfl
    · simp (disch := first | omega | simp) [iv, hil, edE_len, heo, put_get_ne, h0', h1i, hrow2, heto, hyo, h2, hjl, he1o, h3]
      refine skip ?_ _ ?_ ?_ ?_
      · intro v hv
        by_cases q : v = e.to
        · subst q
          exact ⟨_, hy, hyb.worse he rfl he1 (by omega)⟩
        · obtain ⟨z, z1, z2⟩ := hBI v hv
          exact ⟨z, z1, z2.skip he fun c => absurd c.symm q⟩
      · exact (by repeat (first | with_reducible assumption | with_reducible exact AH.le.refl _ | with_reducible apply AH.le.up | (with_reducible refine AH.le.put hw ?_ ?_; · first | omega | (simp only [up_nx, put_nx, kill_nx]; done) | (simp only [up_nx, put_nx, kill_nx]; omega)) | (with_reducible refine AH.le.kill hw ?_ ?_; · first | omega | (simp only [up_nx, put_nx, kill_nx]; done) | (simp only [up_nx, put_nx, kill_nx]; omega))))
      · exact (by first | omega | (simp only [up_nx, put_nx]; done) | (simp only [up_nx, put_nx]; omega))
      · simp (disch := first | omega | simp) [put_get_ne, hrow2]
  have hie : i = l.length := by omega
  subst hie
  obtain ⟨b, hbst, hbat⟩ := BI.best hz hBI
  simp (disch := first | omega | simp) [iv]
  have hup : UpAt H2 (.osl (H.nx + 1) 1 0 n) bl := by
    rw [UpAt, elF_osl, hrow2, elRow_row _ _ _ _ _ (by rw [iE_len, hbll]; omega), List.drop_zero, List.take_of_length_le (by rw [iE_len, hbll]; omega)]
  refine ca_of (by kernel_rfl) (c_ringOf (by omega) hup hbat fun v v0 vn => ⟨(hz.2 _ (hbst v v0 vn).1).1, (hbst v v0 vn).2.2.1⟩) ?_
  rintro r H3 ⟨e3, hr⟩
  subst e3
  rcases hr with ⟨rfl, hrank⟩ | ⟨ring, rfl, hring⟩
  · -- no ring
    simp (disch := first | omega | simp)
    have hrow3 : ∀ {X : AH}, H3.le X → X.get (H.nx + 1) = some (.row 3 1 (iE bl)) := fun hX => hX _ _ hrow2
    refine loop_wf (H0 := H3) (fun s : AV × Nat => [s.1, iv (s.2 : Int)]) (fun s H' => H3.le H' ∧ H3.nx ≤ H'.nx ∧ 1 ≤ s.2 ∧ s.2 ≤ n ∧ Grows 3 1 H3 H' s.1 (iE ((List.range' 1 (s.2 - 1)).map fun v => (b v).id))) (fun s => n - s.2) (.p (.slice none 0 0), 1) (.refl (Nat.le_refl _)) ⟨.refl _, Nat.le_refl _, Nat.le_refl _, hn1, .nil _ _ _ _⟩ ?_
    rintro ⟨w, j⟩ H4 hn4 hw4 ⟨hle4, hnx4, hj1, hj, hgr⟩ k4 hk4
    dsimp only at hj1 hj hgr hk4
    unfold S_heads_grown_L2
    by_cases hjn : j < n
    · obtain ⟨i, hb1, hb2⟩ := hbat j (by omega) hjn
      have he2 := edE_at hb2
      have hil2 := (List.getElem?_eq_some_iff.1 hb2).1
      have hbg : ∀ h, (iE bl)[j]'h = [iv (i : Int)] := fun h => (List.getElem?_eq_some_iff.1 (iE_at hb1)).2
      have hrow4 := hrow3 hle4
      have hbo := iE_at hb1
      simp only [iv] at hbo he2
      simp (disch := first | omega | simp) [iv, hjn, hrow4, hbo, edE_len, hil2, he2]
      refine Grows.app (t := 3) hw2 (hgr.up_ (by first | omega | (simp only [up_nx, put_nx]; done) | (simp only [up_nx, put_nx]; omega)) fun j o hj _ ho => by simp (disch := first | omega | simp) [put_get_ne]; exact ho) ?_ (by first | omega | (simp only [up_nx, put_nx, kill_nx]; done) | (simp only [up_nx, put_nx, kill_nx]; omega)) (by first | omega | (simp only [up_nx, put_nx]; done) | (simp only [up_nx, put_nx]; omega)) (ys := iE [(b j).id]) ?_ (dt_iE _) ?_ ?_ fun v' H5 g2 l2 n2 k2 hfr => ?_
      · exact hle4.trans (by have hw := hw4; exact (by repeat (first | with_reducible assumption | with_reducible exact AH.le.refl _ | with_reducible apply AH.le.up | (with_reducible refine AH.le.put hw ?_ ?_; · first | omega | (simp only [up_nx, put_nx, kill_nx]; done) | (simp only [up_nx, put_nx, kill_nx]; omega)) | (with_reducible refine AH.le.kill hw ?_ ?_; · first | omega | (simp only [up_nx, put_nx, kill_nx]; done) | (simp only [up_nx, put_nx, kill_nx]; omega)))))
      · simp [iv, iE]
      · simp [iE_len]; omega
      · simp [iE_len]; omega
      have n2' : H5.nx = H4.nx + 12 := by rw [n2]; rfl
      have hrg : (List.range' 1 (j + 1 - 1)).map (fun v => (b v).id) = (List.range' 1 (j - 1)).map (fun v => (b v).id) ++ [(b j).id] := by
        obtain ⟨m, rfl⟩ : ∃ m, j = m + 1 := ⟨j - 1, by omega⟩
        simp only [Nat.add_sub_cancel]
        rw [List.range'_1_concat, List.map_append, Nat.add_comm 1 m]; rfl
      simp
      rw [ivn (by omega)]
      exact hk4 (v', j + 1) _ _ _ (.refl (by omega)) ⟨l2, by omega, by dsimp only; omega, by dsimp only; omega, by dsimp only; rw [hrg, iE, List.map_append]; exact g2⟩ (by dsimp only; omega)
    · have hje : j = n := by omega
      subst hje
      simp (disch := first | omega | simp) [iv]
      exact (hgr.base (H0 := H) (by omega)).rt hw (hle2.trans hle4) (by omega) ⟨rfl, _, rfl, grown_tree hbst hrank⟩
  -- a ring
  have hrl := hring.2.2.1
  have hrle := hring.le
  have hone : ((n - ring.length : Nat) : Int) = (n : Int) - (ring.length : Int) := by omega
  have hwone : IntKind.i64.wrap ((n : Int) - (ring.length : Int)) = ((n - ring.length : Nat) : Int) := by rw [IntKind.wrap_i64]; omega
  simp (disch := first | omega | simp)
  refine ⟨by rw [nE_len]; omega, by omega, by omega, ?_⟩
  have hz0 : List.replicate n [AV.p (.int .i64 0)] = nE (nmL ring n 0) := by rw [nmL_zero, nE_zero]; rfl
  rw [hz0]
  generalize hM4 : AH.put _ _ _ = M4
  have hM4l : H3.le M4 := by rw [← hM4]; have hw := hw2; exact (by repeat (first | with_reducible assumption | with_reducible exact AH.le.refl _ | with_reducible apply AH.le.up | (with_reducible refine AH.le.put hw ?_ ?_; · first | omega | (simp only [up_nx, put_nx, kill_nx]; done) | (simp only [up_nx, put_nx, kill_nx]; omega)) | (with_reducible refine AH.le.kill hw ?_ ?_; · first | omega | (simp only [up_nx, put_nx, kill_nx]; done) | (simp only [up_nx, put_nx, kill_nx]; omega))))
  have hM4n : M4.nx = H3.nx + 3 := by rw [← hM4]; rfl
  have hM4r : M4.get (H3.nx + 1) = some (.row 3 1 (nE (nmL ring n 0))) := by rw [← hM4, put_get]
  refine loop_wf (H0 := M4) (fun v : Nat => [iv (cnt ring v : Nat), iv v]) (fun v H' => H3.le H' ∧ M4.nx ≤ H'.nx ∧ v ≤ n ∧ H'.get (H3.nx + 1) = some (.row 3 1 (nE (nmL ring n v)))) (fun v => n - v) 0 (.refl (Nat.le_refl _)) ⟨hM4l, Nat.le_refl _, Nat.zero_le _, hM4r⟩ ?_
  rintro v H4 hn4 hw4 ⟨hle4, hnx4, hvn4, hrow4⟩ k4 hk4
  unfold S_heads_grown_L7
  have hnl := nmL_len (ring := ring) hvn4
  by_cases hv4 : v < n
  · have hno := nE_at (l := nmL ring n v) (i := v) (x := 0) (by
      unfold nmL
      rw [List.getElem?_append_right (by simp), List.getElem?_replicate]
      simp only [List.length_map, List.length_range, Nat.sub_self]
      rw [if_pos (by omega)])
    have hng : ∀ h, (nE (nmL ring n v))[v]'h = [iv (0 : Nat)] := fun h => (List.getElem?_eq_some_iff.1 hno).2
    have hcs : cnt ring (v + 1) = cnt ring v + if v ∈ ring then 0 else 1 := rfl
    have hcl : cnt ring v ≤ n := by have := cnt_mono ring v (n - v); rw [show v + (n - v) = n by omega] at this; omega
    simp (disch := first | omega | simp) [iv, hv4]
    refine ca_pure (by kernel_rfl) (c_Contains ring (by omega) v _) ?_
    by_cases hm : v ∈ ring
    · have hset := nmL_set (ring := ring) hv4
      rw [nm_ring hm] at hset
      rw [if_pos hm] at hcs
      simp (disch := first | omega | simp) [iv, bv, hm, nE_len, hrow4, hv4, hno, hwone]
      rw [ivn (by omega)]
      have := hk4 (v + 1) ((H4.up 8).put (H3.nx + 1) (.row 3 1 (nE (nmL ring n (v + 1))))) [iv (cnt ring v : Nat), iv (v + 1 : Nat)] _ (by rw [hcs]; exact .refl (by simp only [put_nx, up_nx]; omega)) ⟨by have hw := hw2; exact (by repeat (first | with_reducible assumption | with_reducible exact AH.le.refl _ | with_reducible apply AH.le.up | (with_reducible refine AH.le.put hw ?_ ?_; · first | omega | (simp only [up_nx, put_nx, kill_nx]; done) | (simp only [up_nx, put_nx, kill_nx]; omega)) | (with_reducible refine AH.le.kill hw ?_ ?_; · first | omega | (simp only [up_nx, put_nx, kill_nx]; done) | (simp only [up_nx, put_nx, kill_nx]; omega)))), by simp only [put_nx, up_nx]; omega, hv4, put_get _ _⟩ (by omega)
      rw [← hset, nE_set] at this
      exact this
    · have hset := nmL_set (ring := ring) hv4
      rw [show nm ring n v = cnt ring v by rw [nm, if_neg hm]] at hset
      rw [if_neg hm] at hcs
      simp (disch := first | omega | simp) [iv, bv, hm, hrow4, hv4, hno]
      rw [ivn (by omega), ivn (by omega)]
      have := hk4 (v + 1) ((H4.up 5).put (H3.nx + 1) (.row 3 1 (nE (nmL ring n (v + 1))))) [iv (cnt ring v + 1 : Nat), iv (v + 1 : Nat)] _ (by rw [hcs]; exact .refl (by simp only [put_nx, up_nx]; omega)) ⟨by have hw := hw2; exact (by repeat (first | with_reducible assumption | with_reducible exact AH.le.refl _ | with_reducible apply AH.le.up | (with_reducible refine AH.le.put hw ?_ ?_; · first | omega | (simp only [up_nx, put_nx, kill_nx]; done) | (simp only [up_nx, put_nx, kill_nx]; omega)) | (with_reducible refine AH.le.kill hw ?_ ?_; · first | omega | (simp only [up_nx, put_nx, kill_nx]; done) | (simp only [up_nx, put_nx, kill_nx]; omega)))), by simp only [put_nx, up_nx]; omega, hv4, put_get _ _⟩ (by omega)
      rw [← hset, nE_set] at this
      exact this
  have hve4 : v = n := by omega
  rw [hve4] at hrow4
  have hv4' : ¬ (v : Int) < (n : Int) := by omega
  simp (disch := first | omega | simp) [iv, hv4', nE_len, edE_len, hwone]
  -- the edges between the new nodes
  have hnmg : ∀ {X : AH} {u : Nat}, H4.le X → u < n → X.get (H3.nx + 1) = some (.row 3 1 (nE (nmL ring n n))) ∧ (nE (nmL ring n n))[u]? = some [iv (nm ring n u : Nat)] ∧ ∀ h, (nE (nmL ring n n))[u]'h = [iv (nm ring n u : Nat)] := fun {X u} hX hu => ⟨hX _ _ hrow4, nE_at (nmL_at hu), fun h => (List.getElem?_eq_some_iff.1 (nE_at (nmL_at hu))).2⟩
  have hnnl : (nE (nmL ring n n)).length = n := by rw [nE_len, nmL_len (Nat.le_refl _)]
  refine loop_wf (H0 := H4) (fun s : AV × Nat => [s.1, iv s.2]) (fun s H' => H4.le H' ∧ H4.nx ≤ H'.nx ∧ s.2 ≤ l.length ∧ Grows 54 4 H4 H' s.1 (edE (con ring n b 0 (l.take s.2)))) (fun s => l.length - s.2) (.p (.slice none 0 0), 0) (.refl (Nat.le_refl _)) ⟨.refl _, Nat.le_refl _, Nat.zero_le _, .nil _ _ _ _⟩ ?_
  rintro ⟨w, i⟩ H5 hn5 hw5 ⟨hle5, hnx5, hi5, hgr5⟩ k5 hk5
  dsimp only at hi5 hgr5 hk5
  unfold S_heads_grown_L6
  by_cases hil5 : i < l.length
  · obtain ⟨e, he⟩ : ∃ e, l[i]? = some e := ⟨_, List.getElem?_eq_getElem hil5⟩
    have heo := edE_at he
    simp only [iv] at heo
    obtain ⟨hefr, heto⟩ := hz.2 e (List.mem_of_getElem? he)
    obtain ⟨hr5, hf1, hf2⟩ := hnmg (X := H5) hle5 hefr
    obtain ⟨_, ht1, ht2⟩ := hnmg (X := H5) hle5 heto
    simp only [iv] at hf1 hf2 ht1 ht2
    have hiv := ivn (i := i) (by omega)
    have hct := con_take (ring := ring) (n := n) (b := b) l 0 i e he
    rw [Nat.zero_add] at hct
    by_cases hq : nm ring n e.fr = nm ring n e.to
    · have hq' : (nm ring n e.fr = nm ring n e.to) = True := eq_true hq
      have hqi : (((nm ring n e.fr : Nat) : Int) = ((nm ring n e.to : Nat) : Int)) = True := eq_true (by omega)
      rw [conF, if_pos hq] at hct
      simp (disch := first | omega | simp) [iv, hil5, edE_len, heo, put_get_ne, hr5, hefr, heto, hf2, ht2, hqi]
      rw [hiv]
      refine hk5 (w, i + 1) _ _ _ (.refl (by simp only [put_nx, up_nx]; omega)) ⟨hle5.trans (by have hw := hw5; exact (by repeat (first | with_reducible assumption | with_reducible exact AH.le.refl _ | with_reducible apply AH.le.up | (with_reducible refine AH.le.put hw ?_ ?_; · first | omega | (simp only [up_nx, put_nx, kill_nx]; done) | (simp only [up_nx, put_nx, kill_nx]; omega)) | (with_reducible refine AH.le.kill hw ?_ ?_; · first | omega | (simp only [up_nx, put_nx, kill_nx]; done) | (simp only [up_nx, put_nx, kill_nx]; omega))))), by simp only [put_nx, up_nx]; omega, hil5, ?_⟩ (by dsimp only; omega)
      dsimp only
      rw [hct]
      simp only [Option.toList_none, List.append_nil]
      exact hgr5.up_ (by simp only [put_nx, up_nx]; omega) fun j o hj _ ho => by simp (disch := first | omega | simp) [put_get_ne]; exact ho
    have hq' : (nm ring n e.fr = nm ring n e.to) = False := eq_false hq
    have hqi : (((nm ring n e.fr : Nat) : Int) = ((nm ring n e.to : Nat) : Int)) = False := eq_false (by omega)
    rw [conF, if_neg hq] at hct
    have hBe := hB e (List.mem_of_getElem? he)
    have hB60 := pow_two_low hB2
    have hcl := con_len (ring := ring) (n := n) (b := b) (l.take i) 0
    rw [List.length_take] at hcl
    unfold S_heads_grown_C3
    by_cases hto : nm ring n e.to = n - ring.length
    · have hto' : (nm ring n e.to = n - ring.length) = True := eq_true hto
      have htoi : (((nm ring n e.to : Nat) : Int) = ((n - ring.length : Nat) : Int)) = True := eq_true (by omega)
      rw [if_pos hto] at hct
      have hmr := nm_one hring heto hto
      obtain ⟨v0, vn⟩ := hring.2.1 _ hmr
      obtain ⟨j, hb1, hb2⟩ := hbat e.to v0 vn
      have hbo := iE_at hb1
      have hbg : ∀ h, (iE bl)[e.to]'h = [iv (j : Int)] := fun h => (List.getElem?_eq_some_iff.1 (iE_at hb1)).2
      have he2 := edE_at hb2
      have hjl := (List.getElem?_eq_some_iff.1 hb2).1
      have hrowb : H5.get (H.nx + 1) = some (.row 3 1 (iE bl)) := hle5 _ _ (hle4 _ _ hrow2)
      simp only [iv] at hbo hbg he2
      have hBb := hB _ (List.mem_of_getElem? hb2)
      have hsub : IntKind.i64.wrap (e.w - (b e.to).w) = e.w - (b e.to).w := by rw [IntKind.wrap_i64]; omega
      simp (disch := first | omega | simp) [iv, hil5, edE_len, heo, put_get_ne, hr5, hefr, heto, hf2, ht2, hqi, htoi, hrowb, hbo, hjl, he2, hsub]
      refine Grows.app (t := 54) hw4 (hgr5.up_ (by first | omega | (simp only [up_nx, put_nx]; done) | (simp only [up_nx, put_nx]; omega)) fun j o hj _ ho => by simp (disch := first | omega | simp) [put_get_ne]; exact ho) ?_ (by first | omega | (simp only [up_nx, put_nx, kill_nx]; done) | (simp only [up_nx, put_nx, kill_nx]; omega)) (by first | omega | (simp only [up_nx, put_nx]; done) | (simp only [up_nx, put_nx]; omega)) (ys := edE [⟨nm ring n e.fr, nm ring n e.to, e.w - (b e.to).w, (i : Int)⟩]) ?_ (dt_edE _) ?_ ?_ fun v' H6 g2 l2 n2 k2 hfr => ?_
      · exact hle5.trans (by have hw := hw5; exact (by repeat (first | with_reducible assumption | with_reducible exact AH.le.refl _ | with_reducible apply AH.le.up | (with_reducible refine AH.le.put hw ?_ ?_; · first | omega | (simp only [up_nx, put_nx, kill_nx]; done) | (simp only [up_nx, put_nx, kill_nx]; omega)) | (with_reducible refine AH.le.kill hw ?_ ?_; · first | omega | (simp only [up_nx, put_nx, kill_nx]; done) | (simp only [up_nx, put_nx, kill_nx]; omega)))))
      · simp [iv, edE, Ed.cs]
      · simp [edE_len]; omega
      · simp [edE_len]; omega
      have n2' : H6.nx = H5.nx + 15 := by rw [n2]; rfl
      simp
      rw [hiv]
      exact hk5 (v', i + 1) _ _ _ (.refl (by omega)) ⟨l2, by omega, hil5, by dsimp only; rw [hct, edE_app]; exact g2⟩ (by dsimp only; omega)
    · have hto' : (nm ring n e.to = n - ring.length) = False := eq_false hto
      have htoi : (((nm ring n e.to : Nat) : Int) = ((n - ring.length : Nat) : Int)) = False := eq_false (by omega)
      rw [if_neg hto] at hct
      simp (disch := first | omega | simp) [iv, hil5, edE_len, heo, put_get_ne, hr5, hefr, heto, hf2, ht2, hqi, htoi]
      refine Grows.app (t := 54) hw4 (hgr5.up_ (by first | omega | (simp only [up_nx, put_nx]; done) | (simp only [up_nx, put_nx]; omega)) fun j o hj _ ho => by simp (disch := first | omega | simp) [put_get_ne]; exact ho) ?_ (by first | omega | (simp only [up_nx, put_nx, kill_nx]; done) | (simp only [up_nx, put_nx, kill_nx]; omega)) (by first | omega | (simp only [up_nx, put_nx]; done) | (simp only [up_nx, put_nx]; omega)) (ys := edE [⟨nm ring n e.fr, nm ring n e.to, e.w, (i : Int)⟩]) ?_ (dt_edE _) ?_ ?_ fun v' H6 g2 l2 n2 k2 hfr => ?_
      · exact hle5.trans (by have hw := hw5; exact (by repeat (first | with_reducible assumption | with_reducible exact AH.le.refl _ | with_reducible apply AH.le.up | (with_reducible refine AH.le.put hw ?_ ?_; · first | omega | (simp only [up_nx, put_nx, kill_nx]; done) | (simp only [up_nx, put_nx, kill_nx]; omega)) | (with_reducible refine AH.le.kill hw ?_ ?_; · first | omega | (simp only [up_nx, put_nx, kill_nx]; done) | (simp only [up_nx, put_nx, kill_nx]; omega)))))
      · simp [iv, edE, Ed.cs]
      · simp [edE_len]; omega
      · simp [edE_len]; omega
      have n2' : H6.nx = H5.nx + 15 := by rw [n2]; rfl
      simp
      rw [hiv]
      exact hk5 (v', i + 1) _ _ _ (.refl (by omega)) ⟨l2, by omega, hil5, by dsimp only; rw [hct, edE_app]; exact g2⟩ (by dsimp only; omega)
  have hie5 : i = l.length := by omega
  subst hie5
  rw [List.take_length] at hgr5
  have hadd : IntKind.i64.wrap (((n - ring.length : Nat) : Int) + 1) = ((n - ring.length + 1 : Nat) : Int) := ivn (by omega)
  simp (disch := first | omega | simp) [iv, hadd]
  obtain ⟨H6, f1, f2, f3, f4, f5⟩ := hgr5.fz (P := Try.prog) hw4 hle5 hnx5
  have hclen := con_len (ring := ring) (n := n) (b := b) l 0
  refine ca_wf (by kernel_rfl) (Tri.st f1 (Tri.args (.cons (.refl _) (.cons f5 .nil)) (ih (n - ring.length + 1) (by omega) (by omega) (by omega) (con ring n b 0 l) (2 * B) (con_hasZ hring hz) (by omega) (con_w (fun v hv => (hbst v (hring.2.1 v hv).1 (hring.2.1 v hv).2).1) (fun e he hq => nm_one hring (hz.2 e he).2 hq) hB) (pow_two_step hB2 (by omega)) H6))) ?_
  rintro r H7 hw7 ⟨e7, ids, rfl, hgi⟩
  subst e7
  obtain ⟨x, ⟨i0, hi0, e0, he0, hex⟩, hxr, hids, hfin⟩ := grown_ring hbst hz hring hgi
  have hfin := hfin (idOf l) fun k e he => idOf_at he
  have hidl := hgi.len
  simp (disch := first | omega | simp) [iE_len]
  have hH7 : H.le H7 := hle2.trans (hle4.trans f2)
  have hxn := hring.2.1 x hxr
  refine loop_wf (H0 := H7) (fun s : AV × Int × Nat => [s.1, iv s.2.1, iv s.2.2]) (fun s H' => H7.le H' ∧ H7.nx ≤ H'.nx ∧ s.2.2 ≤ ids.length ∧ Grows 3 1 H7 H' s.1 (iE ((ids.take s.2.2).map (idOf l))) ∧ (s.2.1 = (x : Int) ∨ (s.2.1 = -1 ∧ ∀ y ∈ ids.take s.2.2, y ≠ (i0 : Int)))) (fun s => ids.length - s.2.2) (.p (.slice none 0 0), -1, 0) (.refl (Nat.le_refl _)) ⟨.refl _, Nat.le_refl _, Nat.zero_le _, .nil _ _ _ _, .inr ⟨rfl, by simp⟩⟩ ?_
  rintro ⟨w6, en, j⟩ H8 hn8 hw8 ⟨hle8, hnx8, hj, hgr8, hen⟩ k8 hk8
  dsimp only at hj hgr8 hen hk8
  unfold S_heads_grown_L5
  have htl : ((ids.take j).map (idOf l)).length ≤ 13 := by rw [List.length_map, List.length_take]; omega
  by_cases hjl : j < ids.length
  · obtain ⟨y, hy⟩ : ∃ y, ids[j]? = some y := ⟨_, List.getElem?_eq_getElem hjl⟩
    obtain ⟨i, rfl, e, he, hetox⟩ := hids y (List.mem_of_getElem? hy)
    have hyo := iE_at hy
    have heo := edE_at he
    have hil := (List.getElem?_eq_some_iff.1 he).1
    obtain ⟨hefr, heto⟩ := hz.2 e (List.mem_of_getElem? he)
    have hj1 := ivn (i := j) (by omega)
    have htk : (ids.take (j + 1)).map (idOf l) = (ids.take j).map (idOf l) ++ [e.id] := by
      rw [List.take_add_one, hy, List.map_append]; simp [idOf_at he]
    have hnext : ∀ {en2 : Int}, (en2 = (x : Int) ∨ (en2 = -1 ∧ (e.to ≠ x) ∧ en = -1)) → (en2 = (x : Int) ∨ (en2 = -1 ∧ ∀ y ∈ ids.take (j + 1), y ≠ (i0 : Int))) := fun {en2} h => by
      rcases h with h | ⟨h1, h2, h3⟩
      · exact .inl h
      · refine .inr ⟨h1, fun y hy2 => ?_⟩
        rw [List.take_add_one, hy, List.mem_append] at hy2
        rcases hy2 with hy2 | hy2
        · rcases hen with hen | ⟨_, hen⟩
          · omega
          · exact hen y hy2
        · simp at hy2
          subst hy2
          intro c
          have : i = i0 := by omega
          subst this
          rw [he] at he0; injection he0 with he0; subst he0
          exact h2 hex
    simp only [iv] at hyo heo
    simp (disch := first | omega | simp) [iv, hjl, iE_len, hyo, edE_len, hil, heo]
    refine Grows.app (t := 3) hw7 (hgr8.up_ (by first | omega | (simp only [up_nx, put_nx]; done) | (simp only [up_nx, put_nx]; omega)) fun j o hj _ ho => by simp (disch := first | omega | simp) [put_get_ne]; exact ho) ?_ (by first | omega | (simp only [up_nx, put_nx, kill_nx]; done) | (simp only [up_nx, put_nx, kill_nx]; omega)) (by first | omega | (simp only [up_nx, put_nx]; done) | (simp only [up_nx, put_nx]; omega)) (ys := iE [e.id]) ?_ (dt_iE _) ?_ ?_ fun v' H9 g2 l2 n2 k2 hfr => ?_
    · exact hle8.trans (by have hw := hw8; exact (by repeat (first | with_reducible assumption | with_reducible exact AH.le.refl _ | with_reducible apply AH.le.up | (with_reducible refine AH.le.put hw ?_ ?_; · first | omega | (simp only [up_nx, put_nx, kill_nx]; done) | (simp only [up_nx, put_nx, kill_nx]; omega)) | (with_reducible refine AH.le.kill hw ?_ ?_; · first | omega | (simp only [up_nx, put_nx, kill_nx]; done) | (simp only [up_nx, put_nx, kill_nx]; omega)))))
    · simp [iv, iE]
    · simp only [iE_len, List.length_cons, List.length_nil]; omega
    · simp only [iE_len, List.length_cons, List.length_nil]; omega
    have n2' : H9.nx = H8.nx + 9 := by rw [n2]; rfl
    obtain ⟨hr9, ht1, ht2⟩ := hnmg (X := H9) (f2.trans l2) heto
    simp only [iv] at ht1 ht2
    by_cases hto : nm ring n e.to = n - ring.length
    · have hto' : (nm ring n e.to = n - ring.length) = True := eq_true hto
      have htoi : (((nm ring n e.to : Nat) : Int) = ((n - ring.length : Nat) : Int)) = True := eq_true (by omega)
      have hex2 := hetox hto
      simp (disch := first | omega | simp) [hil, edE_len, heo, hr9, heto, ht2, htoi, hj1]
      refine hk8 (v', (x : Int), j + 1) _ _ _ (by rw [hex2]; exact .refl (by omega)) ⟨l2, by omega, hjl, ?_, hnext (.inl rfl)⟩ (by dsimp only; omega)
      dsimp only; rw [htk, iE, List.map_append]; exact g2
    · have hto' : (nm ring n e.to = n - ring.length) = False := eq_false hto
      have htoi : (((nm ring n e.to : Nat) : Int) = ((n - ring.length : Nat) : Int)) = False := eq_false (by omega)
      have hnx' : e.to ≠ x := fun c => hto (by rw [c, nm_ring hxr])
      simp (disch := first | omega | simp) [hil, edE_len, heo, hr9, heto, ht2, htoi, hj1]
      refine hk8 (v', en, j + 1) _ _ _ (.refl (by omega)) ⟨l2, by omega, hjl, ?_, hnext ?_⟩ (by dsimp only; omega)
      · dsimp only; rw [htk, iE, List.map_append]; exact g2
      · rcases hen with h | ⟨h, _⟩
        · exact .inl h
        · exact .inr ⟨h, hnx', h⟩
  have hje : j = ids.length := by omega
  subst hje
  rw [List.take_length] at hgr8 hen htl
  have henx : en = (x : Int) := by
    rcases hen with h | ⟨_, h⟩
    · exact h
    · exact absurd rfl (h _ hi0)
  subst henx
  simp (disch := first | omega | simp) [iv, nE_len]
  refine loop_wf (H0 := H8) (fun s : AV × Nat => [s.1, iv s.2]) (fun s H' => H7.le H' ∧ H8.nx ≤ H'.nx ∧ s.2 ≤ ring.length ∧ Grows 3 1 H7 H' s.1 (iE (ids.map (idOf l) ++ ((ring.take s.2).filter (· != x)).map fun v => (b v).id))) (fun s => ring.length - s.2) (w6, 0) (.refl (Nat.le_refl _)) ⟨hle8, Nat.le_refl _, Nat.zero_le _, by dsimp only; rw [List.take_zero, List.filter_nil, List.map_nil, List.append_nil]; exact hgr8⟩ ?_
  rintro ⟨w7, q⟩ H9 hn9 hw9 ⟨hle9, hnx9, hq, hgr9⟩ k9 hk9
  dsimp only at hq hgr9 hk9
  unfold S_heads_grown_L4
  by_cases hql : q < ring.length
  · obtain ⟨v, hv⟩ : ∃ v, ring[q]? = some v := ⟨_, List.getElem?_eq_getElem hql⟩
    obtain ⟨v0, vn⟩ := hring.2.1 v (List.mem_of_getElem? hv)
    obtain ⟨j, hb1, hb2⟩ := hbat v v0 vn
    have hvo := nE_at hv
    have hbo := iE_at hb1
    have he2 := edE_at hb2
    have hjl2 := (List.getElem?_eq_some_iff.1 hb2).1
    have hrowb : H9.get (H.nx + 1) = some (.row 3 1 (iE bl)) := hle9 _ _ (f2 _ _ (hle4 _ _ hrow2))
    have hq1 := ivn (i := q) (by omega)
    have hft := filter_take_next (p := (· != x)) hv
    have hfl := filter_len_le ring (· != x) q
    simp only [iv] at hvo hbo he2
    by_cases hvx : v = x
    · have hvx' : (v = x) = True := eq_true hvx
      have hvxi : ((v : Int) = (x : Int)) = True := eq_true (by omega)
      rw [if_neg (by simp [hvx])] at hft
      simp (disch := first | omega | simp) [iv, hql, nE_len, hvo, hvxi, hq1]
      exact hk9 (w7, q + 1) _ _ _ (.refl (by omega)) ⟨hle9, hnx9, hql, by dsimp only; rw [hft, List.append_nil]; exact hgr9⟩ (by dsimp only; omega)
    · have hvx' : (v = x) = False := eq_false hvx
      have hvxi : ((v : Int) = (x : Int)) = False := eq_false (by omega)
      rw [if_pos (by simpa using hvx)] at hft
      simp (disch := first | omega | simp) [iv, hql, nE_len, hvo, hvxi, hrowb, vn, hbo, edE_len, hjl2, he2]
      refine Grows.app (t := 3) hw7 (hgr9.up_ (by first | omega | (simp only [up_nx, put_nx]; done) | (simp only [up_nx, put_nx]; omega)) fun j o hj _ ho => by simp (disch := first | omega | simp) [put_get_ne]; exact ho) ?_ (by first | omega | (simp only [up_nx, put_nx, kill_nx]; done) | (simp only [up_nx, put_nx, kill_nx]; omega)) (by first | omega | (simp only [up_nx, put_nx]; done) | (simp only [up_nx, put_nx]; omega)) (ys := iE [(b v).id]) ?_ (dt_iE _) ?_ ?_ fun v' HA g2 l2 n2 k2 hfr => ?_
      · exact hle9.trans (by have hw := hw9; exact (by repeat (first | with_reducible assumption | with_reducible exact AH.le.refl _ | with_reducible apply AH.le.up | (with_reducible refine AH.le.put hw ?_ ?_; · first | omega | (simp only [up_nx, put_nx, kill_nx]; done) | (simp only [up_nx, put_nx, kill_nx]; omega)) | (with_reducible refine AH.le.kill hw ?_ ?_; · first | omega | (simp only [up_nx, put_nx, kill_nx]; done) | (simp only [up_nx, put_nx, kill_nx]; omega)))))
      · simp [iv, iE]
      · simp only [iE_len, List.length_append, List.length_map, List.length_cons, List.length_nil] at htl ⊢; omega
      · simp only [iE_len, List.length_append, List.length_map, List.length_cons, List.length_nil] at htl ⊢; omega
      have n2' : HA.nx = H9.nx + 12 := by rw [n2]; rfl
      simp
      rw [hq1]
      refine hk9 (v', q + 1) _ _ _ (.refl (by omega)) ⟨l2, by omega, hql, ?_⟩ (by dsimp only; omega)
      dsimp only
      rw [hft, List.map_append, ← List.append_assoc, iE, List.map_append]; exact g2
  · have hqe : q = ring.length := by omega
    subst hqe
    rw [List.take_length] at hgr9
    simp (disch := first | omega | simp) [iv]
    exact (hgr9.base (H0 := H) (by omega)).rt hw (hH7.trans hle9) (by omega) ⟨rfl, _, rfl, hfin⟩
end Go.Proofs.Ytaepnmnoofigjaa

/- The best tree of words. -/
namespace Go.Proofs.Ytaepnmnoofigjaa
open Go.RowKit Go.Maps
/-- a function that scores -/
def Scores (H : AH) (g : FuncId) (cap : List AV) (n : Nat) (s : Nat → Nat → Int) : Prop := callable Try.prog g = true ∧ ∀ H', H.le H' → ∀ h w, h < n → 0 < w → w < n → Tri Try.prog g ([] ++ [iv (h : Int), iv (w : Int)] ++ cap) H' (fun v H'' => H'' = H' ∧ v = iv (s h w))
set_option maxHeartbeats 4000000 in
theorem c_best {H : AH} {g : FuncId} {cap : List AV} {n : Nat} {s : Nat → Nat → Int} (hn1 : 1 ≤ n) (hn : n ≤ 13) (hs : Scores H g cap n s) (hb : ∀ h w, h < n → 0 < w → w < n → -2199023255552 ≤ s h w ∧ s h w ≤ 2199023255552) :
    Tri Try.prog 21 [iv ((n - 1 : Nat) : Int), .fn (.func g) [] cap] H (fun v H' => H' = H ∧ ∃ u, v = .dsl 1 (iE (lst n u)) ∧ TreeF n u ∧ ∀ u', TreeF n u' → Wt n s u' ≤ Wt n s u) := tri_wf fun hw => tri_heads_best (by
  have hml : maxLen = 9223372036854775807 := by decide
  obtain ⟨hcg, hcl⟩ := hs
  have hN : IntKind.i64.wrap (((n - 1 : Nat) : Int) + 1) = (n : Int) := by rw [IntKind.wrap_i64]; omega
  unfold S_heads_best
  refine loop_wf (H0 := H) (fun x : AV × Nat => [x.1, iv x.2]) (fun x H' => H.le H' ∧ H.nx ≤ H'.nx ∧ 1 ≤ x.2 ∧ x.2 ≤ n ∧ Grows 54 4 H H' x.1 (edE (fulE n s (x.2 - 1)))) (fun x => n - x.2) (.p (.slice none 0 0), 1) (.refl (Nat.le_refl _)) ⟨.refl _, Nat.le_refl _, Nat.le_refl _, hn1, .nil _ _ _ _⟩ ?_
  rintro ⟨l, w⟩ H1 hn1' hw1 ⟨hle, hnx, hw0, hwn, hgr⟩ k hk
  dsimp only at hw0 hwn hgr hk
  unfold S_heads_best_L3
  have hflen := fulE_len n s (w - 1)
  have hfl2 : (w - 1) * n ≤ 12 * 13 := Nat.mul_le_mul (by omega) hn
  by_cases hwl : w < n
  · have hwl' : (w : Int) ≤ ((n - 1 : Nat) : Int) := by omega
    have hw1i := ivn (i := w) (by omega)
    simp (disch := first | omega | simp) [iv, hwl']
    refine loop_wf (H0 := H1) (fun x : AV × Nat => [x.1, iv x.2]) (fun x H' => H.le H' ∧ H1.nx ≤ H'.nx ∧ x.2 ≤ n ∧ Grows 54 4 H H' x.1 (edE (fulE n s (w - 1) ++ rowE n s w x.2))) (fun x => n - x.2) (l, 0) (.refl (Nat.le_refl _)) ⟨hle, Nat.le_refl _, Nat.zero_le _, by dsimp only; rw [rowE, List.append_nil]; exact hgr⟩ ?_
    rintro ⟨l2, h⟩ H2 hn2 hw2 ⟨hle2, hnx2, hhn, hgr2⟩ k2 hk2
    dsimp only at hhn hgr2 hk2
    have hrlen := rowE_len n s w h
    unfold S_heads_best_L1
    by_cases hhl : h < n
    · have hhl' : (h : Int) ≤ ((n - 1 : Nat) : Int) := by omega
      have hh1 := ivn (i := h) (by omega)
      have hrow : rowE n s w (h + 1) = rowE n s w h ++ (if h = w then [] else [⟨h, w, s h w, ((h * n + w : Nat) : Int)⟩]) := rfl
      by_cases hhw : h = w
      · have hhw' : (h = w) = True := eq_true hhw
        have hhwi : ((h : Int) = (w : Int)) = True := eq_true (by omega)
        rw [if_pos hhw, List.append_nil] at hrow
        simp (disch := first | omega | simp) [iv, hhl', hhwi, hh1]
        exact hk2 (l2, h + 1) _ _ _ (.refl (by omega)) ⟨hle2, hnx2, hhl, by dsimp only; rw [hrow]; exact hgr2⟩ (by dsimp only; omega)
      · have hhw' : (h = w) = False := eq_false hhw
        have hhwi : ((h : Int) = (w : Int)) = False := eq_false (by omega)
        rw [if_neg hhw] at hrow
        have hmul : IntKind.i64.wrap ((h : Int) * (n : Int)) = ((h * n : Nat) : Int) := by
          have : h * n ≤ 13 * 13 := Nat.mul_le_mul (by omega) hn
          rw [← Int.natCast_mul, IntKind.wrap_i64]; omega
        have hadd : IntKind.i64.wrap ((h : Int) * (n : Int) + (w : Int)) = (h : Int) * (n : Int) + (w : Int) := by
          have : h * n ≤ 13 * 13 := Nat.mul_le_mul (by omega) hn
          have h2 : (h : Int) * (n : Int) = ((h * n : Nat) : Int) := by rw [Int.natCast_mul]
          rw [h2, IntKind.wrap_i64]; omega
        simp (disch := first | omega | simp) [iv, hhl', hhwi]
        refine ca_pure hcg (hcl _ (by repeat (first | with_reducible assumption | with_reducible exact AH.le.refl _ | with_reducible apply AH.le.up | (with_reducible refine AH.le.put hw ?_ ?_; · first | omega | (simp only [up_nx, put_nx, kill_nx]; done) | (simp only [up_nx, put_nx, kill_nx]; omega)) | (with_reducible refine AH.le.kill hw ?_ ?_; · first | omega | (simp only [up_nx, put_nx, kill_nx]; done) | (simp only [up_nx, put_nx, kill_nx]; omega)))) h w hhl (by omega) hwl) ?_
        simp (disch := first | omega | simp) [iv, hN, hmul, hadd]
        refine Grows.app (t := 54) hw (hgr2.up_ (by first | omega | (simp only [up_nx, put_nx]; done) | (simp only [up_nx, put_nx]; omega)) fun j o hj _ ho => by simp (disch := first | omega | simp) [put_get_ne]; exact ho) (by repeat (first | with_reducible assumption | with_reducible exact AH.le.refl _ | with_reducible apply AH.le.up | (with_reducible refine AH.le.put hw ?_ ?_; · first | omega | (simp only [up_nx, put_nx, kill_nx]; done) | (simp only [up_nx, put_nx, kill_nx]; omega)) | (with_reducible refine AH.le.kill hw ?_ ?_; · first | omega | (simp only [up_nx, put_nx, kill_nx]; done) | (simp only [up_nx, put_nx, kill_nx]; omega)))) (by first | omega | (simp only [up_nx, put_nx, kill_nx]; done) | (simp only [up_nx, put_nx, kill_nx]; omega)) (by first | omega | (simp only [up_nx, put_nx]; done) | (simp only [up_nx, put_nx]; omega)) (ys := edE [⟨h, w, s h w, ((h * n + w : Nat) : Int)⟩]) ?_ (dt_edE _) ?_ ?_ fun v' H6 g2 l2 n2 k2 hfr => ?_
        · simp [iv, edE, Ed.cs]
        · simp only [edE_len, List.length_append, List.length_cons, List.length_nil]; omega
        · simp only [edE_len, List.length_append, List.length_cons, List.length_nil]; omega
        have n2' : H6.nx = H2.nx + 17 := by rw [n2]; rfl
        simp
        rw [hh1]
        exact hk2 (v', h + 1) _ _ _ (.refl (by omega)) ⟨l2, by omega, hhl, by dsimp only; rw [hrow, ← List.append_assoc, edE_app]; exact g2⟩ (by dsimp only; omega)
    · have hhe : h = n := by omega
      subst hhe
      have hhl' : ¬ (h : Int) ≤ ((h - 1 : Nat) : Int) := by omega
      simp (disch := first | omega | simp) [iv, hhl', hw1i]
      refine hk (l2, w + 1) _ _ _ (.refl (by omega)) ⟨hle2, by omega, by dsimp only; omega, hwl, ?_⟩ (by dsimp only; omega)
      obtain ⟨m, rfl⟩ : ∃ m, w = m + 1 := ⟨w - 1, by omega⟩
      simp only [Nat.add_sub_cancel] at hgr2 ⊢
      exact hgr2
  have hwe : n = w := by omega
  subst hwe
  have hwl' : ¬ (n : Int) ≤ ((n - 1 : Nat) : Int) := by omega
  simp (disch := first | omega | simp) [iv, hwl', hN]
  refine ⟨by omega, by omega, ?_⟩
  have hz0 : List.replicate (n - 1) [AV.p (.int .i64 0)] = iE (List.replicate (n - 1) 0) := by simp [iE, iv]
  rw [hz0]
  generalize hM : AH.put _ _ _ = M
  have hMl : H.le M := by rw [← hM]; exact (by repeat (first | with_reducible assumption | with_reducible exact AH.le.refl _ | with_reducible apply AH.le.up | (with_reducible refine AH.le.put hw ?_ ?_; · first | omega | (simp only [up_nx, put_nx, kill_nx]; done) | (simp only [up_nx, put_nx, kill_nx]; omega)) | (with_reducible refine AH.le.kill hw ?_ ?_; · first | omega | (simp only [up_nx, put_nx, kill_nx]; done) | (simp only [up_nx, put_nx, kill_nx]; omega))))
  have hMn : M.nx = H1.nx + 3 := by rw [← hM]; rfl
  have hMr : M.get (H1.nx + 1) = some (.row 3 1 (iE (List.replicate (n - 1) 0))) := by rw [← hM, put_get]
  have hgrM : Grows 54 4 H M l (edE (fulE n s (n - 1))) := by rw [← hM]; exact hgr.up_ (by simp only [put_nx, up_nx]; omega) fun j o hj _ ho => by simp (disch := first | omega | simp) [put_get_ne]; exact ho
  obtain ⟨H6, f1, f2, f3, f4, f5⟩ := hgrM.fz (P := Try.prog) hw hMl (by omega)
  have hr6 : H6.get (H1.nx + 1) = some (.row 3 1 (iE (List.replicate (n - 1) 0))) := by rw [f4 _ (hgrM.not fun xs e => by rw [hMr] at e; cases e)]; exact hMr
  have hfw : ∀ e ∈ fulE n s (n - 1), -((2199023255552 : Nat) : Int) ≤ e.w ∧ e.w ≤ ((2199023255552 : Nat) : Int) := fun e he => by
    obtain ⟨w, g, h1, h2, h3, h4, rfl⟩ := fulE_mem.1 he
    exact hb g w h3 h1 (by omega)
  have hpow : 2199023255552 * 2 ^ n ≤ 2 ^ 60 := by
    have : (2 : Nat) ^ n ≤ 2 ^ 13 := Nat.pow_le_pow_right (by omega) hn
    omega
  refine ca_wf (by kernel_rfl) (Tri.st f1 (Tri.args (.cons (.refl _) (.cons f5 .nil)) (c_grown 13 n hn (Nat.le_refl _) hn1 (fulE n s (n - 1)) 2199023255552 (fulE_hasZ n s) (by omega) hfw hpow H6))) ?_
  rintro r H7 hw7 ⟨e7, ids, rfl, hgi⟩
  subst e7
  have hidl := hgi.len
  obtain ⟨u, os, hT, hos, hids, hmax⟩ := best_of hgi
  have hosl : os.length = ids.length := by rw [hids, List.length_map]
  simp (disch := first | omega | simp) [iE_len]
  refine loop_wf (H0 := H7) (fun x : List Int × Nat => [iv x.2]) (fun x H' => H.le H' ∧ H7.nx ≤ H'.nx ∧ x.2 ≤ ids.length ∧ H'.get (H1.nx + 1) = some (.row 3 1 (iE x.1)) ∧ x.1.length = n - 1 ∧ ∀ v ∈ os.take x.2, x.1[v - 1]? = some (u v : Int)) (fun x => ids.length - x.2) (List.replicate (n - 1) 0, 0) (.refl (Nat.le_refl _)) ⟨f2, Nat.le_refl _, Nat.zero_le _, hr6, by simp, by simp⟩ ?_
  rintro ⟨x, j⟩ H8 hn8 hw8 ⟨hle8, hnx8, hj, hrow8, hxl, hxv⟩ k8 hk8
  dsimp only at hj hrow8 hxl hxv hk8
  unfold S_heads_best_L2
  by_cases hjl : j < ids.length
  · obtain ⟨v, hv⟩ : ∃ v, os[j]? = some v := ⟨_, List.getElem?_eq_getElem (by omega)⟩
    obtain ⟨v0, vn⟩ := (hos v).1 (List.mem_of_getElem? hv)
    have huv := hT.1 v v0 vn
    have hy : ids[j]? = some ((u v * n + v : Nat) : Int) := by rw [hids, List.getElem?_map, hv]; rfl
    have hyo := iE_at hy
    have hj1 := ivn (i := j) (by omega)
    have hrem : ((u v : Int) * (n : Int) + (v : Int)).tmod (n : Int) = (v : Int) := by
      have h2 : (u v : Int) * (n : Int) = ((u v * n : Nat) : Int) := by rw [Int.natCast_mul]
      rw [h2, ← Int.natCast_add, ← Int.ofNat_tmod, Nat.mul_comm, Nat.mul_add_mod, Nat.mod_eq_of_lt vn]
    have hquo : ((u v : Int) * (n : Int) + (v : Int)).tdiv (n : Int) = (u v : Int) := by
      have h2 : (u v : Int) * (n : Int) = ((u v * n : Nat) : Int) := by rw [Int.natCast_mul]
      rw [h2, ← Int.natCast_add, ← Int.ofNat_tdiv, Nat.mul_comm, Nat.mul_add_div (by omega), Nat.div_eq_of_lt vn, Nat.add_zero]
    have hv1 : IntKind.i64.wrap ((v : Int) - 1) = ((v - 1 : Nat) : Int) := by rw [IntKind.wrap_i64]; omega
    simp only [iv] at hyo
    simp (disch := first | omega | simp) [iv, hjl, iE_len, hyo, hN, hrem, hquo, hv1]
    obtain ⟨y, hy2⟩ : ∃ y, x[v - 1]? = some y := ⟨_, List.getElem?_eq_getElem (by omega)⟩
    have hyo2 := iE_at hy2
    have hwu : IntKind.i64.wrap ((u v : Nat) : Int) = ((u v : Nat) : Int) := by rw [IntKind.wrap_i64]; omega
    refine ⟨by omega, by omega, ?_⟩
    rw [hrow8]
    simp [hyo2, hwu, hj1]
    refine hk8 (x.set (v - 1) (u v : Int), j + 1) _ _ _ (.refl (by simp only [put_nx, up_nx]; omega)) ⟨(by repeat (first | with_reducible assumption | with_reducible exact AH.le.refl _ | with_reducible apply AH.le.up | (with_reducible refine AH.le.put hw ?_ ?_; · first | omega | (simp only [up_nx, put_nx, kill_nx]; done) | (simp only [up_nx, put_nx, kill_nx]; omega)) | (with_reducible refine AH.le.kill hw ?_ ?_; · first | omega | (simp only [up_nx, put_nx, kill_nx]; done) | (simp only [up_nx, put_nx, kill_nx]; omega)))), by simp only [put_nx, up_nx]; omega, hjl, by simp [iE, List.map_set, iv], by simpa using hxl, fun z hz => ?_⟩ (by dsimp only; omega)
    rw [List.take_add_one, hv, List.mem_append] at hz
    by_cases hzv : z = v
    · rw [hzv]
      dsimp only
      rw [List.getElem?_set_self (by omega)]
    · rcases hz with hz | hz
      · have z0 := ((hos z).1 (List.mem_of_mem_take hz)).1
        dsimp only
        rw [List.getElem?_set_ne (by omega)]
        exact hxv z hz
      · simp at hz; exact absurd hz hzv
  · have hje : j = ids.length := by omega
    subst hje
    rw [List.take_of_length_le (by omega)] at hxv
    have hxe : x = lst n u := lst_ext hxl fun v v0 vn => hxv v ((hos v).2 ⟨v0, vn⟩)
    subst hxe
    simp (disch := first | omega | simp) [iv]
    have hgr9 : Grows 3 1 H H8 (.osl (H1.nx + 1) 1 0 (n - 1)) (iE (lst n u)) := .row (by omega) (by omega) hrow8 (dt_iE _) (by rw [iE_len, lst_len])
    exact hgr9.rt hw hle8 (by omega) ⟨rfl, u, rfl, hT, hmax⟩)
/-- the scores' own function -/
theorem c_Best1 {H : AH} {a : AV} {n p : Nat} {t : TypeId} {s : List (List Int)} (ha : ScAt H a s) (hs : ScOk n s) (hp : H.get p = some (.box t [a])) : Scores H 22 [.ptr p 0] n (sco s) := by
  refine ⟨(by kernel_rfl), fun H' hle h w hh w0 hw => tri_heads_Best_fn1 ?_⟩
  unfold S_heads_Best_fn1
  obtain ⟨r, hr, hx, _⟩ := hs.at_ hh w0 hw
  obtain ⟨q, c, q1, q3, hc⟩ := (ha.le hle).acc hr
  obtain ⟨z, z1, z3⟩ := hc.acc hx
  have hw1 : IntKind.i64.wrap ((w : Int) - 1) = ((w - 1 : Nat) : Int) := by have := hs.2.2.1; rw [IntKind.wrap_i64]; omega
  have hp' := hle _ _ hp
  simp (disch := first | omega | simp) [iv, hp', q1, q3, hw1, z1, z3]
  exact rt_refl ⟨rfl, rfl⟩ (Nat.le_refl _)
/-- what Best says -/
def BestR (s : List (List Int)) (r : AV) : Prop := (chk s ≠ 0 ∧ r = .tup [.dsl 1 [], iv 0, iv (chk s)]) ∨ (chk s = 0 ∧ ∃ u, r = .tup [.dsl 1 (iE (lst s.length u)), iv (Wt s.length (sco s) u), iv 0] ∧ TreeF s.length u ∧ ∀ u', TreeF s.length u' → Wt s.length (sco s) u' ≤ Wt s.length (sco s) u)
theorem el_part {H : AH} {sz : Nat} {a : AV} {es : List (List AV)} (h : elF H sz a = some es) : AV.part a = true ∧ AV.cells a = [a] := by
  cases elF_iff.2 h <;> exact ⟨rfl, rfl⟩
theorem ScAt.part {H : AH} {a : AV} {s : List (List Int)} (h : ScAt H a s) : AV.part a = true ∧ AV.cells a = [a] := by
  obtain ⟨bs, h1, _⟩ := h
  exact el_part h1
theorem c_Best {H : AH} {a : AV} {s : List (List Int)} (ha : ScAt H a s) : Tri Try.prog 6 [a] H (fun r H' => H' = H ∧ BestR s r) := tri_wf fun hw => tri_heads_Best (by
  unfold S_heads_Best
  obtain ⟨hp1, hp2⟩ := ha.part
  simp (disch := first | omega | simp) [hp1, hp2]
  generalize hM : AH.put _ _ _ = M
  have hMl : H.le M := by rw [← hM]; exact (by repeat (first | with_reducible assumption | with_reducible exact AH.le.refl _ | with_reducible apply AH.le.up | (with_reducible refine AH.le.put hw ?_ ?_; · first | omega | (simp only [up_nx, put_nx, kill_nx]; done) | (simp only [up_nx, put_nx, kill_nx]; omega)) | (with_reducible refine AH.le.kill hw ?_ ?_; · first | omega | (simp only [up_nx, put_nx, kill_nx]; done) | (simp only [up_nx, put_nx, kill_nx]; omega))))
  have hMn : M.nx = H.nx + 4 := by rw [← hM]; rfl
  have hMb : M.get H.nx = some (.box 22 [a]) := by rw [← hM, put_get]
  have haM := ha.le hMl
  refine ca_pure (by kernel_rfl) (c_Check haM) ?_
  by_cases hc : chk s = 0
  · have hok := ScOk.of hc
    have h13 := hok.2.2.1
    have h1 := hok.2.1
    have hsub : IntKind.i64.wrap ((s.length : Int) - 1) = ((s.length - 1 : Nat) : Int) := by rw [IntKind.wrap_i64]; omega
    simp (disch := first | omega | simp) [iv, hc, hMb, haM.len, hsub]
    refine ca_of (by kernel_rfl) (c_best h1 h13 (c_Best1 haM hok hMb) fun h w hh w0 hw => by have := hok.rng h w hh w0 hw; omega) ?_
    rintro r H2 ⟨e2, u, rfl, hT, hmax⟩
    subst e2
    simp (disch := first | omega | simp) [hMb]
    refine ca_pure (by kernel_rfl) (c_worth haM hok (.dsl _) hT.1) ?_
    exact rt_tup hw hMl (by repeat (first | exact Cl.p _ | exact Cl.dsl _ _ | exact Cl.any | refine Cl.tup ?_ | refine Cl.agg ?_ | exact Clo.nil | refine Clo.cons ?_ ?_)) ⟨rfl, .inr ⟨hc, u, rfl, hT, hmax⟩⟩
  · simp (disch := first | omega | simp) [iv, hc]
    exact rt_sub (v' := .tup [.dsl 1 [], iv 0, iv (chk s)]) hw hMl (by omega) (.tup (.cons (.nil _ _ (Nat.zero_le _)) (.cons (.refl _) (.cons (.refl _) .nil)))) (by repeat (first | exact Cl.p _ | exact Cl.dsl _ _ | exact Cl.any | refine Cl.tup ?_ | refine Cl.agg ?_ | exact Clo.nil | refine Clo.cons ?_ ?_)) ⟨rfl, .inl ⟨hc, rfl⟩⟩)
/-- the scores' function when just one word may hang on 0 -/
theorem c_One1 {H : AH} {a : AV} {n p q r : Nat} {t t2 : TypeId} {s : List (List Int)} (ha : ScAt H a s) (hs : ScOk n s) (hp : H.get p = some (.box t [a])) (hq : H.get q = some (.box t2 [iv (r : Int)])) : Scores H 26 [.ptr q 0, .ptr p 0] n (onlyR r (sco s)) := by
  refine ⟨(by kernel_rfl), fun H' hle h w hh w0 hw => tri_heads_One_fn1 ?_⟩
  unfold S_heads_One_fn1 onlyR
  obtain ⟨x, hr, hx, _⟩ := hs.at_ hh w0 hw
  obtain ⟨y, c, q1, q3, hc⟩ := (ha.le hle).acc hr
  obtain ⟨z, z1, z3⟩ := hc.acc hx
  have hw1 : IntKind.i64.wrap ((w : Int) - 1) = ((w - 1 : Nat) : Int) := by have := hs.2.2.1; rw [IntKind.wrap_i64]; omega
  have hp' := hle _ _ hp
  have hq' := hle _ _ hq
  simp only [iv] at hq'
  by_cases h0 : h = 0
  · have h0' : (h = 0) = True := eq_true h0
    have h0i : ((h : Int) = 0) = True := eq_true (by omega)
    by_cases hwr : w = r
    · have hwr' : (w = r) = True := eq_true hwr
      have hwri : ((w : Int) = (r : Int)) = True := eq_true (by omega)
      rw [if_neg (fun c => c.2 hwr)]
      simp (disch := first | omega | simp) [iv, h0', hwri, hp', hq', q1, q3, hw1, z1, z3]
      exact rt_refl ⟨rfl, rfl⟩ (Nat.le_refl _)
    · have hwr' : (w = r) = False := eq_false hwr
      have hwri : ((w : Int) = (r : Int)) = False := eq_false (by omega)
      rw [if_pos ⟨h0, hwr⟩]
      simp (disch := first | omega | simp) [iv, h0', hwri, hq']
      exact rt_refl ⟨rfl, rfl⟩ (Nat.le_refl _)
  · have h0' : (h = 0) = False := eq_false h0
    have h0i : ((h : Int) = 0) = False := eq_false (by omega)
    rw [if_neg (fun c => h0 c.1)]
    simp (disch := first | omega | simp) [iv, h0', hp', q1, q3, hw1, z1, z3]
    exact rt_refl ⟨rfl, rfl⟩ (Nat.le_refl _)
end Go.Proofs.Ytaepnmnoofigjaa

/- The best tree in which just one word hangs on 0. -/
namespace Go.Proofs.Ytaepnmnoofigjaa
open Go.RowKit Go.Maps
/-- what One says -/
def OneRes (s : List (List Int)) (r : AV) : Prop := (chk s ≠ 0 ∧ r = .tup [.dsl 1 [], iv 0, iv (chk s)]) ∨ (chk s = 0 ∧ s.length = 1 ∧ r = .tup [.dsl 1 [], iv 0, iv 0]) ∨
  (chk s = 0 ∧ 1 < s.length ∧ ∃ u, r = .tup [.dsl 1 (iE (lst s.length u)), iv (Wt s.length (sco s) u), iv 0] ∧ TreeF s.length u ∧ (∃ q, 0 < q ∧ q < s.length ∧ OneR s.length u q) ∧ ∀ u' q, TreeF s.length u' → 0 < q → q < s.length → OneR s.length u' q → Wt s.length (sco s) u' ≤ Wt s.length (sco s) u)
/-- where the search stands: all roots below r are tried -/
def OneSt (n : Nat) (s : Nat → Nat → Int) (out : AV) (all : Int) (r : Nat) : Prop := (r = 1 ∧ out = .p (.slice none 0 0) ∧ all = -1099511627776) ∨
  (∃ u, out = .dsl 1 (iE (lst n u)) ∧ TreeF n u ∧ (∃ q, 0 < q ∧ q < n ∧ OneR n u q) ∧ all = Wt n s u ∧ 1 < r ∧ ∀ u' q, TreeF n u' → 0 < q → q < r → OneR n u' q → Wt n s u' ≤ all)
set_option maxHeartbeats 4000000 in
theorem c_One {H : AH} {a : AV} {s : List (List Int)} (ha : ScAt H a s) : Tri Try.prog 8 [a] H (fun r H' => H' = H ∧ OneRes s r) := tri_wf fun hw => tri_heads_One (by
  unfold S_heads_One
  obtain ⟨hp1, hp2⟩ := ha.part
  simp (disch := first | omega | simp) [hp1, hp2]
  generalize hM : AH.put _ _ _ = M
  have hMl : H.le M := by rw [← hM]; exact (by repeat (first | with_reducible assumption | with_reducible exact AH.le.refl _ | with_reducible apply AH.le.up | (with_reducible refine AH.le.put hw ?_ ?_; · first | omega | (simp only [up_nx, put_nx, kill_nx]; done) | (simp only [up_nx, put_nx, kill_nx]; omega)) | (with_reducible refine AH.le.kill hw ?_ ?_; · first | omega | (simp only [up_nx, put_nx, kill_nx]; done) | (simp only [up_nx, put_nx, kill_nx]; omega))))
  have hMn : M.nx = H.nx + 4 := by rw [← hM]; rfl
  have hMb : M.get H.nx = some (.box 22 [a]) := by rw [← hM, put_get]
  have haM := ha.le hMl
  refine ca_pure (by kernel_rfl) (c_Check haM) ?_
  by_cases hc : chk s = 0
  · have hok := ScOk.of hc
    have h13 := hok.2.2.1
    have h1 := hok.2.1
    have hrng := hok.rng
    generalize hN : s.length = n at *
    have hsub : IntKind.i64.wrap ((n : Int) - 1) = ((n - 1 : Nat) : Int) := by rw [IntKind.wrap_i64]; omega
    simp (disch := first | omega | simp) [iv, hc]
    generalize hK : AH.put _ _ _ = K
    have hKl : H.le K := by rw [← hK]; exact (by repeat (first | with_reducible assumption | with_reducible exact AH.le.refl _ | with_reducible apply AH.le.up | (with_reducible refine AH.le.put hw ?_ ?_; · first | omega | (simp only [up_nx, put_nx, kill_nx]; done) | (simp only [up_nx, put_nx, kill_nx]; omega)) | (with_reducible refine AH.le.kill hw ?_ ?_; · first | omega | (simp only [up_nx, put_nx, kill_nx]; done) | (simp only [up_nx, put_nx, kill_nx]; omega))))
    have hKn : K.nx = M.nx + 2 := by rw [← hK]; rfl
    have hKb : K.get H.nx = some (.box 22 [a]) := by rw [← hK]; simp (disch := first | omega | simp) [put_get_ne, hMb]
    have hKr : K.get M.nx = some (.box 3 [iv 1]) := by rw [← hK, put_get]; rfl
    refine loop_wf (H0 := K) (fun x : AV × Int × Nat × Nat => [x.1, iv x.2.1, .ptr x.2.2.1 0]) (fun x H' => H.le H' ∧ K.nx ≤ H'.nx ∧ H'.get H.nx = some (.box 22 [a]) ∧ H.nx < x.2.2.1 ∧ H'.get x.2.2.1 = some (.box 3 [iv (x.2.2.2 : Int)]) ∧ 1 ≤ x.2.2.2 ∧ x.2.2.2 ≤ n ∧ OneSt n (sco s) x.1 x.2.1 x.2.2.2) (fun x => n - x.2.2.2) (.p (.slice none 0 0), -1099511627776, M.nx, 1) (.refl (Nat.le_refl _)) ⟨hKl, Nat.le_refl _, hKb, by dsimp only; omega, hKr, Nat.le_refl _, h1, .inl ⟨rfl, rfl, rfl⟩⟩ ?_
    rintro ⟨out, all, p, r⟩ H1 hn1 hw1 ⟨hle, hnx, hb1, hp, hr1, hr0, hrn, hst⟩ k hk
    dsimp only at hp hr1 hr0 hrn hst hk
    unfold S_heads_One_L3
    have ha1 := ha.le hle
    simp only [iv] at hr1
    by_cases hrl : r < n
    · have hrl' : (r : Int) < (n : Int) := by omega
      simp (disch := first | omega | simp) [iv, hr1, hb1, ha1.len, hN, hrl', hsub]
      refine ca_of (by kernel_rfl) (c_best (s := onlyR r (sco s)) h1 h13 (c_One1 ha1 hok hb1 hr1) fun h w hh w0 hw => by have := hrng h w hh w0 hw; unfold onlyR; split <;> omega) ?_
      rintro _ H2 ⟨e2, u, rfl, hT, hmax⟩
      subst e2
      obtain ⟨hone, hbest⟩ := one_of h13 ⟨by omega, hrl⟩ hrng hT hmax
      have hrt : rts u (n - 1) = 1 := rts_OneR.2 ⟨r, by omega, hrl, hone⟩
      simp (disch := first | omega | simp) [iE_len, lst_len]
      refine loop_wf (H0 := H2) (fun i : Nat => [iv (rts u i : Nat), iv i]) (fun i H' => H2 = H' ∧ i ≤ n - 1 ∧ rts u i ≤ i) (fun i => n - 1 - i) 0 (.refl (Nat.le_refl _)) ⟨rfl, Nat.zero_le _, Nat.le_refl _⟩ ?_
      rintro i _ _ hw3 ⟨rfl, hi, hri⟩ k3 hk3
      unfold S_heads_One_L2
      by_cases hil : i < n - 1
      · have hyo := iE_at (lst_at (u := u) hil)
        simp only [iv] at hyo
        have hsu : rts u (i + 1) = rts u i + if u (i + 1) = 0 then 1 else 0 := rfl
        by_cases h0 : u (i + 1) = 0
        · have h0' : (u (i + 1) = 0) = True := eq_true h0
          rw [if_pos h0] at hsu
          simp (disch := first | omega | simp) [iv, hil, iE_len, lst_len, hyo, h0']
          rw [ivn (by omega), ivn (by omega)]
          have := hk3 (i + 1) H2 _ _ (.refl (Nat.le_refl _)) ⟨rfl, hil, by omega⟩ (by omega)
          rw [hsu] at this; exact this
        · have h0' : (u (i + 1) = 0) = False := eq_false h0
          have h0i : ((u (i + 1) : Int) = 0) = False := eq_false (by omega)
          rw [if_neg h0] at hsu
          simp (disch := first | omega | simp) [iv, hil, iE_len, lst_len, hyo, h0']
          rw [ivn (by omega)]
          have := hk3 (i + 1) H2 _ _ (.refl (Nat.le_refl _)) ⟨rfl, hil, by omega⟩ (by omega)
          rw [hsu] at this; exact this
      · have hie : i = n - 1 := by omega
        subst hie
        rw [hrt]
        simp (disch := first | omega | simp) [iv]
        unfold S_heads_One_C1
        simp (disch := first | omega | simp) [hb1]
        refine ca_pure (by kernel_rfl) (c_worth ha1 hok (.dsl _) hT.1) ?_
        have hr2 := ivn (i := r) (by omega)
        by_cases hgt : all < Wt n (sco s) u
        · simp (disch := first | omega | simp) [iv, hgt, hr1]
          rw [hr2]
          refine hk (.dsl 1 (iE (lst n u)), Wt n (sco s) u, H2.nx, r + 1) _ _ _ (.refl (by simp only [put_nx, up_nx]; omega)) ⟨(by repeat (first | with_reducible assumption | with_reducible exact AH.le.refl _ | with_reducible apply AH.le.up | (with_reducible refine AH.le.put hw ?_ ?_; · first | omega | (simp only [up_nx, put_nx, kill_nx]; done) | (simp only [up_nx, put_nx, kill_nx]; omega)) | (with_reducible refine AH.le.kill hw ?_ ?_; · first | omega | (simp only [up_nx, put_nx, kill_nx]; done) | (simp only [up_nx, put_nx, kill_nx]; omega)))), by simp only [put_nx, up_nx]; omega, by simp (disch := first | omega | simp) [put_get_ne, hb1], by dsimp only; omega, by simp (disch := first | omega | simp) [iv], by dsimp only; omega, hrl, .inr ⟨u, rfl, hT, ⟨r, by omega, hrl, hone⟩, rfl, by dsimp only; omega, fun u' q hu' hq0 hq hqo => ?_⟩⟩ (by dsimp only; omega)
          dsimp only at hq ⊢
          by_cases hqr : q = r
          · subst hqr; exact hbest u' hu' hqo
          · rcases hst with ⟨h1, _⟩ | ⟨_, _, _, _, _, _, hall⟩
            · omega
            · have := hall u' q hu' hq0 (by omega) hqo; omega
        · simp (disch := first | omega | simp) [iv, hgt, hr1]
          rw [hr2]
          have hst2 : OneSt n (sco s) out all (r + 1) := by
            rcases hst with ⟨_, _, h3⟩ | ⟨u0, h2, h3, h4, h5, h6, hall⟩
            · have := wtK_abs (M := 1000000) hT.1 hrng (n - 1) (Nat.le_refl _)
              have hw' : Wt n (sco s) u = wtK (sco s) u (n - 1) := rfl
              omega
            · refine .inr ⟨u0, h2, h3, h4, h5, by omega, fun u' q hu' hq0 hq hqo => ?_⟩
              by_cases hqr : q = r
              · subst hqr; have := hbest u' hu' hqo; omega
              · exact hall u' q hu' hq0 (by omega) hqo
          exact hk (out, all, H2.nx, r + 1) _ _ _ (.refl (by simp only [put_nx, up_nx]; omega)) ⟨(by repeat (first | with_reducible assumption | with_reducible exact AH.le.refl _ | with_reducible apply AH.le.up | (with_reducible refine AH.le.put hw ?_ ?_; · first | omega | (simp only [up_nx, put_nx, kill_nx]; done) | (simp only [up_nx, put_nx, kill_nx]; omega)) | (with_reducible refine AH.le.kill hw ?_ ?_; · first | omega | (simp only [up_nx, put_nx, kill_nx]; done) | (simp only [up_nx, put_nx, kill_nx]; omega)))), by simp only [put_nx, up_nx]; omega, by simp (disch := first | omega | simp) [put_get_ne, hb1], by dsimp only; omega, by simp (disch := first | omega | simp) [iv], by dsimp only; omega, hrl, hst2⟩ (by dsimp only; omega)
    · have hre : r = n := by omega
      subst hre
      by_cases hr1n : r = 1
      · subst hr1n
        rcases hst with ⟨_, h2, _⟩ | ⟨_, _, _, ⟨q, q1, q2, _⟩, _⟩
        · subst h2
          simp (disch := first | omega | simp) [iv, hr1, hb1, ha1.len, hN]
          exact rt_sub (v' := .tup [.dsl 1 [], iv 0, iv 0]) hw hle (by omega) (.tup (.cons (.nil _ _ (Nat.zero_le _)) (.cons (.refl _) (.cons (.refl _) .nil)))) (by repeat (first | exact Cl.p _ | exact Cl.dsl _ _ | exact Cl.any | refine Cl.tup ?_ | refine Cl.agg ?_ | exact Clo.nil | refine Clo.cons ?_ ?_)) ⟨rfl, .inr (.inl ⟨hc, hN, rfl⟩)⟩
        · omega
      · have hr1' : (r = 1) = False := eq_false hr1n
        have hr1i : ((r : Int) = 1) = False := eq_false (by omega)
        rcases hst with ⟨h1, _⟩ | ⟨u, h2, h3, h4, h5, h6, hall⟩
        · omega
        · subst h2 h5
          simp (disch := first | omega | simp) [iv, hr1, hb1, ha1.len, hN, hr1i]
          subst hN
          exact rt_tup hw hle (by repeat (first | exact Cl.p _ | exact Cl.dsl _ _ | exact Cl.any | refine Cl.tup ?_ | refine Cl.agg ?_ | exact Clo.nil | refine Clo.cons ?_ ?_)) ⟨rfl, .inr (.inr ⟨hc, by omega, u, rfl, h3, h4, fun u' q hu' hq0 hq hqo => hall u' q hu' hq0 hq hqo⟩)⟩
  · simp (disch := first | omega | simp) [iv, hc]
    exact rt_sub (v' := .tup [.dsl 1 [], iv 0, iv (chk s)]) hw hMl (by omega) (.tup (.cons (.nil _ _ (Nat.zero_le _)) (.cons (.refl _) (.cons (.refl _) .nil)))) (by repeat (first | exact Cl.p _ | exact Cl.dsl _ _ | exact Cl.any | refine Cl.tup ?_ | refine Cl.agg ?_ | exact Clo.nil | refine Clo.cons ?_ ?_)) ⟨rfl, .inl ⟨hc, rfl⟩⟩)
end Go.Proofs.Ytaepnmnoofigjaa
