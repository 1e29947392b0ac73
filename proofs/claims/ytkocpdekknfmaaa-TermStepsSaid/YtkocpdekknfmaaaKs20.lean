/- Texts that the proof rests on, part 20: what each holds stands at its head. -/
import Derived.Test.YtkocpdekknfmaaaKs19

/- The first spot; a step at a way; a copy; the normal form. -/
namespace Go.Proofs.Ytkocpdekknfmaaa
open Go.RowKit Go.Maps
theorem Tm.spots_eq (t : Tm) : t.spots = (if t.spot then [[]] else []) ++ Tm.spotss 0 t.kids := by cases t; rw [Tm.spots]
theorem Tm.spotss_at {ks : List Tm} {i : Nat} {x : Tm} (n : Nat) (h : ks[i]? = some x) : Tm.spotss n (ks.drop i) = x.spots.map ((n : Int) :: ·) ++ Tm.spotss (n + 1) (ks.drop (i + 1)) := by
  obtain ⟨h1, h2⟩ := List.getElem?_eq_some_iff.1 h
  rw [List.drop_eq_getElem_cons h1, Tm.spotss, h2]
theorem Tm.spotss_end {ks : List Tm} {i n : Nat} (h : ks.length ≤ i) : Tm.spotss n (ks.drop i) = [] := by rw [List.drop_eq_nil_iff.2 h, Tm.spotss]
def fstR (way : List Int) (t : Tm) : AV := match t.spots with
  | [] => .tup [wE [], bv false]
  | s :: _ => .tup [wE (way ++ s), bv true]
theorem wE_cl (l : List Int) (B : Nat) : Cl B (wE l) := Cl.dsl _ _
theorem wE_cons (i : Int) (l : List Int) : wE (i :: l) = .dsl 1 ([iv i] :: l.map fun x => [iv x]) := rfl
set_option maxHeartbeats 2000000 in
theorem c_first (N : Nat) : ∀ t : Tm, t.size ≤ N → N ≤ 400 → t.good → ∀ way : List Int, way.length + N ≤ 1000 → ∀ H, Tri Try.prog 24 [t.av, wE way] H (fun r H' => H' = H ∧ r = fstR way t) := by
  induction N with
  | zero => intro t ht; have := t.size_pos; omega
  | succ N ih =>
    intro t ht hN hg way hway H
    refine tri_wf fun hw => tri_term_first ?_
    have hml : maxLen = 9223372036854775807 := by decide
    have hsz := t.size_eq
    have hlk := Tm.len_sizes t.kids
    have hse := t.spots_eq
    unfold S_term_first
    simp (disch := first | omega | simp) [Tm.av, Tm.cs_len, Tm.cs_take]
    refine ca_pure (by kernel_rfl) (c_isSpot t hg _) ?_
    cases hs : t.spot with
    | true =>
      rw [hs] at hse
      simp (disch := first | omega | simp) [bv]
      exact rt_tup hw (by repeat (first | with_reducible assumption | with_reducible exact AH.le.refl _ | with_reducible apply AH.le.up | (with_reducible refine AH.le.put hw ?_ ?_; · first | omega | (simp only [up_nx, put_nx, kill_nx]; done) | (simp only [up_nx, put_nx, kill_nx]; omega)) | (with_reducible refine AH.le.kill hw ?_ ?_; · first | omega | (simp only [up_nx, put_nx, kill_nx]; done) | (simp only [up_nx, put_nx, kill_nx]; omega)))) (.cons (wE_cl _ _) (.cons (Cl.p _) .nil)) ⟨rfl, by unfold fstR; rw [hse]; simp [bv]⟩
    | false =>
      rw [hs] at hse
      simp only [Bool.false_eq_true, if_false, List.nil_append] at hse
      simp (disch := first | omega | simp) [bv, Tm.cs_g5]
      refine loop_wf (fun i : Nat => [iv i]) (fun i H' => H.le H' ∧ H.nx ≤ H'.nx ∧ i ≤ t.kids.length ∧ t.spots = Tm.spotss i (t.kids.drop i)) (fun i => t.kids.length - i) 0 (.refl (Nat.le_refl _)) ⟨(by repeat (first | with_reducible assumption | with_reducible exact AH.le.refl _ | with_reducible apply AH.le.up | (with_reducible refine AH.le.put hw ?_ ?_; · first | omega | (simp only [up_nx, put_nx, kill_nx]; done) | (simp only [up_nx, put_nx, kill_nx]; omega)) | (with_reducible refine AH.le.kill hw ?_ ?_; · first | omega | (simp only [up_nx, put_nx, kill_nx]; done) | (simp only [up_nx, put_nx, kill_nx]; omega)))), (by first | omega | (simp only [up_nx, put_nx]; done) | (simp only [up_nx, put_nx]; omega)), Nat.zero_le _, by rw [hse, List.drop_zero]⟩ ?_
      rintro i H1 hn1 hw1 ⟨hle, hn, hi, hsp⟩ k hk
      unfold S_term_first_L1
      by_cases hil : i < t.kids.length
      · obtain ⟨x, hx⟩ : ∃ x, t.kids[i]? = some x := ⟨_, List.getElem?_eq_getElem hil⟩
        have hxg : ∀ h, t.kids[i]'h = x := fun h => (List.getElem?_eq_some_iff.1 hx).2
        have hiv := ivn (i := i) (by omega)
        have hxs := Tm.sizes_mem (List.mem_of_getElem? hx)
        have hgx := Tm.good_kid hg (List.mem_of_getElem? hx)
        rw [Tm.spotss_at i hx] at hsp
        simp (disch := first | omega | simp) [iv, hil, hxg, Tm.cs_len, Tm.cs_take]
        generalize hL : ((H1.up 6).put (H1.nx + 3) (.box 27 [.p (.int .i64 0), .p (.int .i64 0), .p (.int .i64 0), .p (.int .i64 0), .p (.slice none 0 0), .p (.slice none 0 0)])).put (H1.nx + 3) (.box 27 x.cs) = L
        have hLw : WF L := by rw [← hL]; exact ((hw1.up 6).box (by first | omega | (simp only [up_nx]; done) | (simp only [up_nx]; omega)) (by repeat (first | exact Cl.p _ | exact Cl.dsl _ _ | exact Cl.any | refine Cl.tup ?_ | refine Cl.agg ?_ | exact Clo.nil | refine Clo.cons ?_ ?_))).box (by first | omega | (simp only [up_nx, put_nx]; done) | (simp only [up_nx, put_nx]; omega)) (x.cl _)
        have hLl : H1.le L := by rw [← hL]; exact AH.le.put hw1 (by first | omega | (simp only [up_nx, put_nx, kill_nx]; done) | (simp only [up_nx, put_nx, kill_nx]; omega)) (AH.le.put hw1 (by first | omega | (simp only [up_nx, put_nx, kill_nx]; done) | (simp only [up_nx, put_nx, kill_nx]; omega)) (AH.le.up (.refl _)))
        have hHL : H.le L := hle.trans hLl
        have hLn : L.nx = H1.nx + 6 := by rw [← hL]; rfl
        have hLb : L.get (H1.nx + 3) = some (.box 27 x.cs) := by rw [← hL]; simp
        refine car_of 3 1 (way.map fun x => [iv x]) (by kernel_rfl) (int_len _) (fun H2 _ => c_CloneI way (by omega)) ?_
        simp (disch := first | omega | simp) [iv]
        refine wrf_row rfl (wf_none hLw (by first | omega | (simp only [up_nx, put_nx, kill_nx]; done) | (simp only [up_nx, put_nx, kill_nx]; omega))) (es := way.map fun x => [iv x]) (by simp (disch := first | omega | simp) [put_get_ne, iv]) (by simp) (elF_whole (t := 3) (es := [[iv i]]) rfl (by simp (disch := first | omega | simp) [iv]) rfl) (by simp; omega) (by simp; omega) ?_
        have hes : ((way.map fun x => [iv x]).drop 0).take way.length ++ [[iv i]] = (way ++ [(i : Int)]).map fun x => [iv x] := by rw [List.drop_zero, List.take_of_length_le (by simp), List.map_append]; rfl
        rw [hes]
        simp only [List.length_singleton]
        refine can_frz (i := H1.nx + 6 + 5) (t := 3) (sz := 1) (es := (way ++ [(i : Int)]).map fun x => [iv x]) (r := fstR (way ++ [(i : Int)]) x) (by kernel_rfl) (by simp) (wf_none hLw (by first | omega | (simp only [up_nx, put_nx, kill_nx]; done) | (simp only [up_nx, put_nx, kill_nx]; omega))) (by simp) (dt_ints _) (fun H4 hle4 => ?_) ?_
        · have hg4 : H4.get (H1.nx + 6 + 5) = some (.frz 1 ((way ++ [(i : Int)]).map fun x => [iv x])) := hle4 _ _ (by simp only [mixV_cons, mixV_nil, put_get, mixO_some])
          have hfz := Sub.frz (P := Try.prog) (off := 0) (n := way.length + 1) hg4 (by simp)
          rw [List.drop_zero, List.take_of_length_le (by simp)] at hfz
          exact Tri.args (.cons (Sub.refl _) (.cons hfz .nil)) (ih x (by omega) (by omega) hgx (way ++ [(i : Int)]) (by simp; omega) H4)
        · cases hxsp : x.spots with
          | nil =>
            rw [hxsp] at hsp
            simp (disch := first | omega | simp) [iv, bv, fstR, hxsp, hiv]
            exact hk (i + 1) _ _ _ (.refl (by first | omega | (simp only [up_nx, put_nx, kill_nx]; done) | (simp only [up_nx, put_nx, kill_nx]; omega))) ⟨(by repeat (first | with_reducible assumption | with_reducible exact AH.le.refl _ | with_reducible apply AH.le.up | (with_reducible refine AH.le.put hw ?_ ?_; · first | omega | (simp only [up_nx, put_nx, kill_nx]; done) | (simp only [up_nx, put_nx, kill_nx]; omega)) | (with_reducible refine AH.le.kill hw ?_ ?_; · first | omega | (simp only [up_nx, put_nx, kill_nx]; done) | (simp only [up_nx, put_nx, kill_nx]; omega)))), (by first | omega | (simp only [up_nx, put_nx, kill_nx]; done) | (simp only [up_nx, put_nx, kill_nx]; omega)), hil, by rw [hsp]; rfl⟩ (by omega)
          | cons s r =>
            rw [hxsp] at hsp
            simp (disch := first | omega | simp) [iv, bv, fstR, hxsp]
            exact rt_tup hw (by repeat (first | with_reducible assumption | with_reducible exact AH.le.refl _ | with_reducible apply AH.le.up | (with_reducible refine AH.le.put hw ?_ ?_; · first | omega | (simp only [up_nx, put_nx, kill_nx]; done) | (simp only [up_nx, put_nx, kill_nx]; omega)) | (with_reducible refine AH.le.kill hw ?_ ?_; · first | omega | (simp only [up_nx, put_nx, kill_nx]; done) | (simp only [up_nx, put_nx, kill_nx]; omega)))) (.cons (wE_cl _ _) (.cons (Cl.p _) .nil)) ⟨rfl, by rw [hsp]; simp⟩
      · rw [Tm.spotss_end (by omega)] at hsp
        simp (disch := first | omega | simp) [iv, hil]
        exact rt_sub (v' := .tup [wE [], bv false]) hw (by repeat (first | with_reducible assumption | with_reducible exact AH.le.refl _ | with_reducible apply AH.le.up | (with_reducible refine AH.le.put hw ?_ ?_; · first | omega | (simp only [up_nx, put_nx, kill_nx]; done) | (simp only [up_nx, put_nx, kill_nx]; omega)) | (with_reducible refine AH.le.kill hw ?_ ?_; · first | omega | (simp only [up_nx, put_nx, kill_nx]; done) | (simp only [up_nx, put_nx, kill_nx]; omega)))) (by first | omega | (simp only [up_nx, put_nx, kill_nx]; done) | (simp only [up_nx, put_nx, kill_nx]; omega)) (.tup (.cons (.nil _ _ (Nat.zero_le _)) (.cons (.refl _) .nil))) (.tup (.cons (wE_cl _ _) (.cons (Cl.p _) .nil))) ⟨rfl, by unfold fstR; rw [hsp]⟩
set_option maxHeartbeats 4000000 in
theorem c_at : ∀ (way : List Int) (t : Tm), t.good → t.size ≤ 400 → ∀ b : Int, 0 ≤ b → b + t.size ≤ 1000 → ∀ H, Tri Try.prog 26 [t.av, wE way, iv b] H (fun r H' => H' = H ∧ r = .tup [(Tm.at_ way t b).1.av, iv (Tm.at_ way t b).2]) := by
  intro way
  induction way with
  | nil =>
    intro t hg ht b hb hbt H
    refine tri_wf fun hw => tri_term_at ?_
    have htp := t.size_pos
    unfold S_term_at wE
    simp (disch := first | omega | simp) [iv, Tm.av]
    unfold S_term_at_C1
    simp (disch := first | omega | simp) [Tm.cs_len, Tm.cs_take, put_get_ne]
    refine ca_pure (by kernel_rfl) (c_isSpot t hg _) ?_
    cases hs : t.spot with
    | false =>
      simp (disch := first | omega | simp) [bv, Tm.cs_len, Tm.cs_take, put_get_ne]
      exact rt_tup hw (by repeat (first | with_reducible assumption | with_reducible exact AH.le.refl _ | with_reducible apply AH.le.up | (with_reducible refine AH.le.put hw ?_ ?_; · first | omega | (simp only [up_nx, put_nx, kill_nx]; done) | (simp only [up_nx, put_nx, kill_nx]; omega)) | (with_reducible refine AH.le.kill hw ?_ ?_; · first | omega | (simp only [up_nx, put_nx, kill_nx]; done) | (simp only [up_nx, put_nx, kill_nx]; omega)))) (.cons (.agg (Tm.cl _ _)) (.cons (Cl.p _) .nil)) ⟨rfl, by rw [Tm.at_nil_no hs]⟩
    | true =>
      obtain ⟨n, ty, f, x, c, e, hf3, hfk, hfg, hxg, hbg, hr, hsz⟩ := Tm.spot_form hg hs
      have hat := Tm.at_nil_spot (d := b) hs hbg hr
      simp (disch := first | omega | simp) [bv, Tm.cs_len, Tm.cs_take, put_get_ne]
      refine ca_pure (by kernel_rfl) (c_step e hfk hg hfg hxg hbg ht b (by omega) _) ?_
      cases hq : stepB b x c with
      | true =>
        simp (disch := first | omega | simp) [bv, Tm.av, Tm.cs_len, Tm.cs_take, put_get_ne]
        exact rt_tup hw (by repeat (first | with_reducible assumption | with_reducible exact AH.le.refl _ | with_reducible apply AH.le.up | (with_reducible refine AH.le.put hw ?_ ?_; · first | omega | (simp only [up_nx, put_nx, kill_nx]; done) | (simp only [up_nx, put_nx, kill_nx]; omega)) | (with_reducible refine AH.le.kill hw ?_ ?_; · first | omega | (simp only [up_nx, put_nx, kill_nx]; done) | (simp only [up_nx, put_nx, kill_nx]; omega)))) (.cons (.agg (Tm.cl _ _)) (.cons (Cl.p _) .nil)) ⟨rfl, by rw [hat.1 hq]⟩
      | false =>
        simp (disch := first | omega | simp) [bv, Tm.av, Tm.cs_len, Tm.cs_take, put_get_ne]
        exact rt_tup hw (by repeat (first | with_reducible assumption | with_reducible exact AH.le.refl _ | with_reducible apply AH.le.up | (with_reducible refine AH.le.put hw ?_ ?_; · first | omega | (simp only [up_nx, put_nx, kill_nx]; done) | (simp only [up_nx, put_nx, kill_nx]; omega)) | (with_reducible refine AH.le.kill hw ?_ ?_; · first | omega | (simp only [up_nx, put_nx, kill_nx]; done) | (simp only [up_nx, put_nx, kill_nx]; omega)))) (.cons (.agg (Tm.cl _ _)) (.cons (Cl.p _) .nil)) ⟨rfl, by rw [hat.2 hq]⟩
  | cons i way ih =>
    intro t hg ht b hb hbt H
    refine tri_wf fun hw => tri_term_at ?_
    have htp := t.size_pos
    have hsz := t.size_eq
    have hlk := Tm.len_sizes t.kids
    have hne : ¬ ((way.length : Int) + 1 = 0) := by omega
    unfold S_term_at wE
    simp (disch := first | omega | simp) [iv, Tm.av, hne]
    unfold S_term_at_C3
    by_cases hi0 : i < 0
    · simp (disch := first | omega | simp) [Tm.cs_len, Tm.cs_take, put_get_ne, hi0]
      exact rt_tup hw (by repeat (first | with_reducible assumption | with_reducible exact AH.le.refl _ | with_reducible apply AH.le.up | (with_reducible refine AH.le.put hw ?_ ?_; · first | omega | (simp only [up_nx, put_nx, kill_nx]; done) | (simp only [up_nx, put_nx, kill_nx]; omega)) | (with_reducible refine AH.le.kill hw ?_ ?_; · first | omega | (simp only [up_nx, put_nx, kill_nx]; done) | (simp only [up_nx, put_nx, kill_nx]; omega)))) (.cons (.agg (Tm.cl _ _)) (.cons (Cl.p _) .nil)) ⟨rfl, by rw [Tm.at_low hi0]⟩
    obtain ⟨m, rfl⟩ : ∃ m : Nat, i = m := ⟨i.toNat, by omega⟩
    by_cases hil : m < t.kids.length
    · obtain ⟨x, hx⟩ : ∃ x, t.kids[m]? = some x := ⟨_, List.getElem?_eq_getElem hil⟩
      have hxg : ∀ h, t.kids[m]'h = x := fun h => (List.getElem?_eq_some_iff.1 hx).2
      have hgx := Tm.good_kid hg (List.mem_of_getElem? hx)
      have hxs := Tm.sizes_mem (List.mem_of_getElem? hx)
      have hxp := x.size_pos
      have hin := Tm.at_in (way := way) (d := b) hx
      have n1 : ¬ (t.kids.length : Int) ≤ (m : Int) := by omega
      simp (disch := first | omega | simp) [Tm.cs_g5, put_get_ne, hi0, n1]
      unfold S_term_at_C2
      have h1l : (1 : Int) ≤ (way.length : Int) + 1 := by omega
      simp (disch := first | omega | simp) [Tm.cs_len, Tm.cs_g5, Tm.cs_take, put_get_ne, hil, hxg, wf_none hw, h1l]
      refine cav_pure (by kernel_rfl) (fun H2 _ => c_size t 400 (by decide) (by decide) H2) ?_
      rw [capN_low (by omega)]
      have w1 : IntKind.i64.wrap (b + (t.size : Int)) = b + (t.size : Int) := wrapI (by omega) (by omega)
      simp (disch := first | omega | simp) [iv, Tm.cs_len, Tm.cs_take, w1]
      refine cav_pure (by kernel_rfl) (fun H2 _ => c_size x 400 (by decide) (by decide) H2) ?_
      rw [capN_low (by omega)]
      have w2 : IntKind.i64.wrap (b + (t.size : Int) - (x.size : Int)) = b + (t.size : Int) - (x.size : Int) := wrapI (by omega) (by omega)
      simp (disch := first | omega | simp) [iv, w2]
      refine cav_pure (by kernel_rfl) (fun H2 _ => ih x hgx (by omega) (b + t.size - x.size) (by omega) (by omega) H2) ?_
      generalize hrr : Tm.at_ way x (b + t.size - x.size) = rr at *
      obtain ⟨y, e⟩ := rr
      dsimp only at hin ⊢
      by_cases he : e = 0
      · subst he
        have hv := hin.1 rfl
        simp (disch := first | omega | simp) [iv, Tm.av, Tm.cs_len, Tm.cs_g5, put_get_ne]
        refine ca_wf (by kernel_rfl) (c_CloneTm t.kids (by omega)) ?_
        rintro v H5 hw5 ⟨hgr, hle5, hn5⟩
        simp only [up_nx, put_nx] at hn5
        have hb5 : H5.get H.nx = some (.box 27 t.cs) := hle5 _ _ (by simp (disch := first | omega | simp) [put_get_ne])
        have hc5 : H5.get (H.nx + 1) = some (.box 27 [.p (.int .i64 0), .p (.int .i64 0), .p (.int .i64 0), .p (.int .i64 0), .p (.slice none 0 0), .p (.slice none 0 0)]) := hle5 _ _ (by simp (disch := first | omega | simp) [put_get_ne])
        have hd5 : H5.get (H.nx + 3 + 7) = some (.box 27 y.cs) := hle5 _ _ (by simp (disch := first | omega | simp) [Tm.cs_len])
        have hHL : H.le H5 := by
          refine AH.le.trans ?_ hle5
          exact (by repeat (first | with_reducible assumption | with_reducible exact AH.le.refl _ | with_reducible apply AH.le.up | (with_reducible refine AH.le.put hw ?_ ?_; · first | omega | (simp only [up_nx, put_nx, kill_nx]; done) | (simp only [up_nx, put_nx, kill_nx]; omega)) | (with_reducible refine AH.le.kill hw ?_ ?_; · first | omega | (simp only [up_nx, put_nx, kill_nx]; done) | (simp only [up_nx, put_nx, kill_nx]; omega))))
        obtain ⟨r, xs, rfl, hr1, hr2, hr3⟩ := hgr.at_ (by simp; omega)
        have hr0 := hgr.ge rfl
        simp only [up_nx, put_nx] at hr0
        have hxm : xs[m]? = some x.cs := by rw [hr3 m (by simp; omega)]; simp [hx]
        have hxl : m < xs.length := (List.getElem?_eq_some_iff.1 hxm).1
        have hxq : ∀ h, xs[m]'h = x.cs := fun h => (List.getElem?_eq_some_iff.1 hxm).2
        have hyd : y.cs ++ List.drop 6 x.cs = y.cs := by rw [List.drop_of_length_le (by rw [Tm.cs_len]; omega), List.append_nil]
        simp (disch := first | omega | simp) [Tm.cs_len, Tm.cs_take, put_get_ne, hb5, hc5, hd5, hr2, hil, hxq, hyd]
        have hgr2 := (hgr.put (q := m) (e := y.cs) hr2 (fun a ha => dt_tm [y] _ (by simp) a ha)).base (H0 := H) (by simp only [up_nx, put_nx]; omega)
        rw [← List.map_set] at hgr2
        have hat : Tm.at_ ((m : Int) :: way) t b = (⟨t.kind, t.num, t.type, t.kids.set m y⟩, 0) := hv
        refine Grows.rt_in (M := H) (v' := .tup [Tm.av ⟨t.kind, t.num, t.type, t.kids.set m y⟩, iv 0]) (u := .osl r 6 0 t.kids.length) (t := 27) (sz := 6) (es := (t.kids.set m y).map Tm.cs) ?_ hw ?_ (by first | omega | (simp only [up_nx, put_nx]; done) | (simp only [up_nx, put_nx]; omega)) hw (.refl _) (Nat.le_refl _) ?_ (.tup (.cons (.agg (Tm.cl _ _)) (.cons (Cl.p _) .nil))) ⟨rfl, by rw [hat]; rfl⟩
        · rw [List.length_map] at hgr2
          refine hgr2.same (by first | omega | (simp only [up_nx, put_nx]; done) | (simp only [up_nx, put_nx]; omega)) fun j hj ⟨n, hn⟩ => ?_
          injection hn with hn
          subst hn
          simp (disch := first | omega | simp) [put_get_ne]
        · exact (by repeat (first | with_reducible assumption | with_reducible exact AH.le.refl _ | with_reducible apply AH.le.up | (with_reducible refine AH.le.put hw ?_ ?_; · first | omega | (simp only [up_nx, put_nx, kill_nx]; done) | (simp only [up_nx, put_nx, kill_nx]; omega)) | (with_reducible refine AH.le.kill hw ?_ ?_; · first | omega | (simp only [up_nx, put_nx, kill_nx]; done) | (simp only [up_nx, put_nx, kill_nx]; omega))))
        · intro H2 hs
          rw [show List.take 6 (List.take 6 (List.take 5 t.cs ++ AV.osl r 6 0 t.kids.length :: List.drop 6 t.cs)) = [iv t.kind, iv t.num, iv t.type.kind, iv t.type.num, .dsl 3 (t.type.kids.map Ty.cs), .osl r 6 0 t.kids.length] by rw [Tm.cs_eq]; rfl]
          rw [Tm.av_eq]
          exact .tup (.cons (.agg (.cons (.refl _) (.cons (.refl _) (.cons (.refl _) (.cons (.refl _) (.cons (.refl _) (.cons hs .nil))))))) (.cons (.refl _) .nil))
      · have hv := hin.2 he
        simp (disch := first | omega | simp) [iv, Tm.av, Tm.cs_len, Tm.cs_take, put_get_ne, he]
        exact rt_tup hw (by repeat (first | with_reducible assumption | with_reducible exact AH.le.refl _ | with_reducible apply AH.le.up | (with_reducible refine AH.le.put hw ?_ ?_; · first | omega | (simp only [up_nx, put_nx, kill_nx]; done) | (simp only [up_nx, put_nx, kill_nx]; omega)) | (with_reducible refine AH.le.kill hw ?_ ?_; · first | omega | (simp only [up_nx, put_nx, kill_nx]; done) | (simp only [up_nx, put_nx, kill_nx]; omega)))) (.cons (.agg (Tm.cl _ _)) (.cons (Cl.p _) .nil)) ⟨rfl, by rw [hv]⟩
    · have n1 : (t.kids.length : Int) ≤ (m : Int) := by omega
      simp (disch := first | omega | simp) [Tm.cs_len, Tm.cs_g5, Tm.cs_take, put_get_ne, hi0, n1]
      exact rt_tup hw (by repeat (first | with_reducible assumption | with_reducible exact AH.le.refl _ | with_reducible apply AH.le.up | (with_reducible refine AH.le.put hw ?_ ?_; · first | omega | (simp only [up_nx, put_nx, kill_nx]; done) | (simp only [up_nx, put_nx, kill_nx]; omega)) | (with_reducible refine AH.le.kill hw ?_ ?_; · first | omega | (simp only [up_nx, put_nx, kill_nx]; done) | (simp only [up_nx, put_nx, kill_nx]; omega)))) (.cons (.agg (Tm.cl _ _)) (.cons (Cl.p _) .nil)) ⟨rfl, by rw [Tm.at_high (by omega)]⟩
theorem c_copied (t : Tm) (hg : t.good) (ht : t.size ≤ 400) : PF Try.prog 25 [t.av] (Tm.lift 0 0 t).av := fun H => tri_wf fun hw => tri_term_copied (by
  unfold S_term_copied
  simp (disch := first | omega | simp) [Tm.av, Tm.cs_len, Tm.cs_take, put_get_ne]
  refine ca_pure (by kernel_rfl) (c_shifted t.size t (Nat.le_refl _) (by omega) hg 0 0 (by decide) (by omega) _) ?_
  simp (disch := first | omega | simp) [Tm.av, Tm.cs_len, Tm.cs_take]
  exact rt_one hw (by repeat (first | with_reducible assumption | with_reducible exact AH.le.refl _ | with_reducible apply AH.le.up | (with_reducible refine AH.le.put hw ?_ ?_; · first | omega | (simp only [up_nx, put_nx, kill_nx]; done) | (simp only [up_nx, put_nx, kill_nx]; omega)) | (with_reducible refine AH.le.kill hw ?_ ?_; · first | omega | (simp only [up_nx, put_nx, kill_nx]; done) | (simp only [up_nx, put_nx, kill_nx]; omega)))) (.agg (Tm.cl _ _)) ⟨rfl, rfl⟩)
def tyN : Ty := ⟨0, 0, []⟩
def tm0 : Tm := ⟨0, 0, tyN, []⟩
theorem tm0_cs : tm0.cs = [iv 0, iv 0, iv 0, iv 0, .dsl 3 [], .dsl 6 []] := by rw [Tm.cs_eq]; rfl
/-- what Normal says of a term that a check has let by, n steps on -/
def normA (n : Nat) (t : Tm) : AV := match Tm.norm (200 - n) t with
  | some (x, m) => .tup [(Tm.lift 0 0 x).av, iv ((n + m : Nat) : Int), iv 0]
  | none => .tup [tm0.av, iv 0, iv 7]
theorem Tm.norm_nil {f : Nat} {t : Tm} (h : t.spots = []) : Tm.norm f t = some (t, 0) := by cases f <;> rw [Tm.norm, h]
theorem Tm.norm_zero {t : Tm} {s : List Int} {r} (h : t.spots = s :: r) : Tm.norm 0 t = none := by rw [Tm.norm, h]
theorem Tm.norm_succ {t : Tm} {s : List Int} {r} {f : Nat} (h : t.spots = s :: r) : Tm.norm (f + 1) t = if (Tm.at_ s t 0).2 = 0 then (Tm.norm f (Tm.at_ s t 0).1).map fun r => (r.1, r.2 + 1) else none := by rw [Tm.norm, h]
theorem normA_step {n : Nat} {t : Tm} {s : List Int} {r} (hn : n < 200) (h : t.spots = s :: r) (h0 : (Tm.at_ s t 0).2 = 0) : normA n t = normA (n + 1) (Tm.at_ s t 0).1 := by
  unfold normA
  obtain ⟨f, hf⟩ : ∃ f, 200 - n = f + 1 := ⟨200 - n - 1, by omega⟩
  rw [hf, show 200 - (n + 1) = f by omega, Tm.norm_succ h, if_pos h0]
  cases Tm.norm f (Tm.at_ s t 0).1 with
  | none => rfl
  | some x => simp only [Option.map_some]; rw [show n + (x.2 + 1) = n + 1 + x.2 by omega]
theorem rt_tm0 {P : Program} {H0 H1 : AH} {vs : List AV} {Q : AV → AH → Prop} (hw : WF H0) (hle : H0.le H1) (hn : H0.nx ≤ H1.nx) (hc : Clo H0.nx vs) (hq : Q (.tup (tm0.av :: vs)) H0) : Rt P H0.nx (.tup (.agg [.p (.int .i64 0), .p (.int .i64 0), .p (.int .i64 0), .p (.int .i64 0), .p (.slice none 0 0), .p (.slice none 0 0)] :: vs)) Q H1 :=
  rt_sub (v' := .tup (tm0.av :: vs)) hw hle hn (by rw [Tm.av, tm0_cs]; exact .tup (.cons (.agg (.cons (.refl _) (.cons (.refl _) (.cons (.refl _) (.cons (.refl _) (.cons (.nil _ _ (Nat.zero_le _)) (.cons (.nil _ _ (Nat.zero_le _)) .nil))))))) (.refl _))) (.tup (.cons (.agg (Tm.cl _ _)) hc)) hq
def normR (t : Tm) : AV := if t.check = 0 then normA 0 t else .tup [tm0.av, iv 0, iv t.check]
set_option maxHeartbeats 4000000 in
theorem c_Normal (t : Tm) : PF Try.prog 7 [t.av] (normR t) := fun H => tri_wf fun hw => tri_term_Normal (by
  unfold S_term_Normal
  simp (disch := first | omega | simp) [Tm.av, Tm.cs_len, Tm.cs_take, put_get_ne]
  refine ca_pure (by kernel_rfl) (c_Check t _) ?_
  by_cases hc : t.check = 0
  · have hnr : normR t = normA 0 t := by unfold normR; rw [if_pos hc]
    obtain ⟨hwr, hsz⟩ := Tm.check_ok hc
    have hg := Tm.good_of t.size t (Nat.le_refl _) hwr
    simp (disch := first | omega | simp) [iv, hc]
    refine loop_wf (fun s : Tm × Nat => [iv s.2]) (fun s H' => H.le H' ∧ H.nx + 4 ≤ H'.nx ∧ H'.get H.nx = some (.box 27 s.1.cs) ∧ H'.get (H.nx + 1) = some (.box 27 [.p (.int .i64 0), .p (.int .i64 0), .p (.int .i64 0), .p (.int .i64 0), .p (.slice none 0 0), .p (.slice none 0 0)]) ∧ s.1.good ∧ s.1.size ≤ 400 ∧ s.2 ≤ 200 ∧ normR t = normA s.2 s.1) (fun s => 200 - s.2) (t, 0) (.refl (Nat.le_refl _)) ⟨(by repeat (first | with_reducible assumption | with_reducible exact AH.le.refl _ | with_reducible apply AH.le.up | (with_reducible refine AH.le.put hw ?_ ?_; · first | omega | (simp only [up_nx, put_nx, kill_nx]; done) | (simp only [up_nx, put_nx, kill_nx]; omega)) | (with_reducible refine AH.le.kill hw ?_ ?_; · first | omega | (simp only [up_nx, put_nx, kill_nx]; done) | (simp only [up_nx, put_nx, kill_nx]; omega)))), (by first | omega | (simp only [up_nx, put_nx]; done) | (simp only [up_nx, put_nx]; omega)), by simp (disch := first | omega | simp) [put_get_ne], by simp (disch := first | omega | simp), hg, hsz, Nat.zero_le _, hnr⟩ ?_
    rintro ⟨t', n⟩ H1 hn1 hw1 ⟨hle, hn, hb1, hc1, hg', hs', hn', hnr'⟩ k hk
    dsimp only at hb1 hg' hs' hn' hnr' hk
    unfold S_term_Normal_L2
    simp (disch := first | omega | simp) [iv, Tm.cs_len, Tm.cs_take, hb1]
    refine ca_of (by kernel_rfl) (Tri.args (qs := [t'.av, wE []]) (.cons (.refl _) (.cons (.nil 1 0 (Nat.zero_le _)) .nil)) (c_first t'.size t' (Nat.le_refl _) hs' hg' [] (by simp; omega) _)) ?_
    rintro _ H2 ⟨rfl, rfl⟩
    cases hsp : t'.spots with
    | nil =>
      simp (disch := first | omega | simp) [bv, fstR, hsp, hb1, Tm.cs_len, Tm.cs_take]
      refine ca_pure (by kernel_rfl) (c_copied t' hg' hs' _) ?_
      simp (disch := first | omega | simp) [Tm.av, Tm.cs_len, Tm.cs_take, hc1]
      refine rt_tup hw (by repeat (first | with_reducible assumption | with_reducible exact AH.le.refl _ | with_reducible apply AH.le.up | (with_reducible refine AH.le.put hw ?_ ?_; · first | omega | (simp only [up_nx, put_nx, kill_nx]; done) | (simp only [up_nx, put_nx, kill_nx]; omega)) | (with_reducible refine AH.le.kill hw ?_ ?_; · first | omega | (simp only [up_nx, put_nx, kill_nx]; done) | (simp only [up_nx, put_nx, kill_nx]; omega)))) (.cons (.agg (Tm.cl _ _)) (.cons (Cl.p _) (.cons (Cl.p _) .nil))) ⟨rfl, ?_⟩
      rw [hnr']; unfold normA; rw [Tm.norm_nil hsp]; rfl
    | cons s r =>
      simp (disch := first | omega | simp) [bv, fstR, hsp]
      unfold S_term_Normal_C1
      by_cases h200 : n = 200
      · subst h200
        simp (disch := first | omega | simp) [hc1]
        refine rt_tm0 hw (by repeat (first | with_reducible assumption | with_reducible exact AH.le.refl _ | with_reducible apply AH.le.up | (with_reducible refine AH.le.put hw ?_ ?_; · first | omega | (simp only [up_nx, put_nx, kill_nx]; done) | (simp only [up_nx, put_nx, kill_nx]; omega)) | (with_reducible refine AH.le.kill hw ?_ ?_; · first | omega | (simp only [up_nx, put_nx, kill_nx]; done) | (simp only [up_nx, put_nx, kill_nx]; omega)))) (by first | omega | (simp only [up_nx, put_nx]; done) | (simp only [up_nx, put_nx]; omega)) (.cons (Cl.p _) (.cons (Cl.p _) .nil)) ⟨rfl, ?_⟩
        rw [hnr']; unfold normA; rw [Tm.norm_zero hsp]; rfl
      · have h200' : ¬ (n : Int) = 200 := by omega
        have hiv := ivn (i := n) (by omega)
        simp (disch := first | omega | simp) [Tm.cs_len, Tm.cs_take, hb1, h200']
        refine ca_pure (by kernel_rfl) (c_at s t' hg' hs' 0 (by decide) (by omega) _) ?_
        by_cases h0 : (Tm.at_ s t' 0).2 = 0
        · obtain ⟨g1, g2⟩ := Tm.at_good s t' 0 hg' h0
          simp (disch := first | omega | simp) [iv, Tm.av, Tm.cs_len, Tm.cs_take, put_get_ne, hb1, h0, hiv]
          exact hk ((Tm.at_ s t' 0).1, n + 1) _ _ _ (.refl (by first | omega | (simp only [up_nx, put_nx]; done) | (simp only [up_nx, put_nx]; omega))) ⟨(by repeat (first | with_reducible assumption | with_reducible exact AH.le.refl _ | with_reducible apply AH.le.up | (with_reducible refine AH.le.put hw ?_ ?_; · first | omega | (simp only [up_nx, put_nx, kill_nx]; done) | (simp only [up_nx, put_nx, kill_nx]; omega)) | (with_reducible refine AH.le.kill hw ?_ ?_; · first | omega | (simp only [up_nx, put_nx, kill_nx]; done) | (simp only [up_nx, put_nx, kill_nx]; omega)))), (by first | omega | (simp only [up_nx, put_nx]; done) | (simp only [up_nx, put_nx]; omega)), by simp (disch := first | omega | simp) [Tm.cs_len], by simp (disch := first | omega | simp) [put_get_ne, hc1], g1, by dsimp only; omega, by dsimp only; omega, by dsimp only; rw [hnr', normA_step (by omega) hsp h0]⟩ (by dsimp only; omega)
        · have h7 : (Tm.at_ s t' 0).2 = 7 := (Tm.at_spot s t' 0 (by rw [hsp]; simp)).resolve_left h0
          simp (disch := first | omega | simp) [iv, Tm.av, Tm.cs_len, put_get_ne, hc1, h7]
          refine rt_tm0 hw (by repeat (first | with_reducible assumption | with_reducible exact AH.le.refl _ | with_reducible apply AH.le.up | (with_reducible refine AH.le.put hw ?_ ?_; · first | omega | (simp only [up_nx, put_nx, kill_nx]; done) | (simp only [up_nx, put_nx, kill_nx]; omega)) | (with_reducible refine AH.le.kill hw ?_ ?_; · first | omega | (simp only [up_nx, put_nx, kill_nx]; done) | (simp only [up_nx, put_nx, kill_nx]; omega)))) (by first | omega | (simp only [up_nx, put_nx]; done) | (simp only [up_nx, put_nx]; omega)) (.cons (Cl.p _) (.cons (Cl.p _) .nil)) ⟨rfl, ?_⟩
          rw [hnr']; unfold normA
          obtain ⟨f, hf⟩ : ∃ f, 200 - n = f + 1 := ⟨200 - n - 1, by omega⟩
          rw [hf, Tm.norm_succ hsp, if_neg h0]; rfl
  · have hnr : normR t = .tup [tm0.av, iv 0, iv t.check] := by unfold normR; rw [if_neg hc]
    simp (disch := first | omega | simp) [iv, hc]
    exact rt_tm0 hw (by repeat (first | with_reducible assumption | with_reducible exact AH.le.refl _ | with_reducible apply AH.le.up | (with_reducible refine AH.le.put hw ?_ ?_; · first | omega | (simp only [up_nx, put_nx, kill_nx]; done) | (simp only [up_nx, put_nx, kill_nx]; omega)) | (with_reducible refine AH.le.kill hw ?_ ?_; · first | omega | (simp only [up_nx, put_nx, kill_nx]; done) | (simp only [up_nx, put_nx, kill_nx]; omega)))) (by first | omega | (simp only [up_nx, put_nx]; done) | (simp only [up_nx, put_nx]; omega)) (.cons (Cl.p _) (.cons (Cl.p _) .nil)) ⟨rfl, hnr.symm⟩)
end Go.Proofs.Ytkocpdekknfmaaa

/- Readings of trees: what comes in at a type that holds itself. Nothing of the program is named here. -/
namespace Go.Proofs.Ytkocpdekknfmaaa
open Go.ChangeShapes Go.WideShapes Go.RowKit

def OpensN {α : Type} (P : Program) (t : TypeId) (ρ : Rep α) (N : Nat) : Prop :=
  ∀ (H : Type) (enc : TypeId × Value → H) (w : World) (base : Nat) (spare : Nat → Bool) (held : Bool) (fuel : Nat) (cs : List Value) (x : DataW H × List MemPlace), fuel ≤ N →
    DataW.trod enc P w base spare held fuel t cs = some x → ∃ y, ρ.R w (fun b => b < w.heap.size) cs y ∧ ρ.bulk y ≤ Rows.uptoBulk x.1
theorem Opens.n {α : Type} {P : Program} {t : TypeId} {ρ : Rep α} (h : Opens P t ρ) (N : Nat) : OpensN P t ρ N := fun H enc w base spare held fuel cs x _ hx => h H enc w base spare held fuel cs x hx
theorem OpensN.map {α β : Type} {P : Program} {t : TypeId} {ρ : Rep α} {σ : Rep β} {N : Nat} (h : OpensN P t ρ N) (f : α → β) (hr : ∀ w S cs y, ρ.R w S cs y → σ.R w S cs (f y)) (hb : ∀ y, σ.bulk (f y) ≤ ρ.bulk y) : OpensN P t σ N := by
  intro H enc w base spare held fuel cs x hf hx
  obtain ⟨y, h1, h2⟩ := h H enc w base spare held fuel cs x hf hx
  exact ⟨f y, hr _ _ _ _ h1, Nat.le_trans (hb y) h2⟩
/-- the same, by what may be used at one place alone -/
def trodAs {α : Type} (P : Program) (t : TypeId) (ρ : Rep α) (N : Nat) (H : Type) (enc : TypeId × Value → H) (w : World) (base : Nat) (spare : Nat → Bool) (held : Bool) : Prop :=
  ∀ (fuel : Nat) (cs : List Value) (x : DataW H × List MemPlace), fuel ≤ N → DataW.trod enc P w base spare held fuel t cs = some x → ∃ y, ρ.R w (fun b => b < w.heap.size) cs y ∧ ρ.bulk y ≤ Rows.uptoBulk x.1
theorem opensN_slice {α : Type} {ρ : Rep α} {P : Program} {t e : TypeId} {N : Nat} (ht : P.underlying t = some (.slice e)) (hs : P.cellsOf e = ρ.size) (hp : 0 < ρ.size) (he : OpensN P e ρ N) : OpensN P t (rList ρ) (N + 1) := by
  intro H enc w base spare held fuel cs x hfuel h
  rcases DataW.trod_slice ht h with ⟨rfl, rfl⟩ | ⟨a, len, cap, elems, rest, n, hn, rfl, rfl, _, hl, hm, hlen, hel, _, _⟩
  · exact ⟨[], ⟨none, 0, rfl, Sl.nil_⟩, by simp [rList, Rows.uptoBulk]⟩
  · have key : ∀ i, i < len → ∃ y, (a.block < w.heap.size ∧ (∃ u, ρ.R w (fun b => b < w.heap.size) u y ∧ ∀ j z, u[j]? = some z → w.cell? (a.add (i * ρ.size + j)) = some z)) ∧ ∀ d, (elems.map (·.1))[i]? = some d → ρ.bulk y ≤ Rows.uptoBulk d := by
      intro i hi
      have h1 := hel i hi
      rw [List.getElem?_eq_getElem (by omega)] at h1
      cases hc : w.cells? base (a.add (i * P.cellsOf e)) (P.cellsOf e) with
      | none => rw [hc] at h1; simp at h1
      | some us =>
        rw [hc] at h1
        simp only [Option.bind_some] at h1
        obtain ⟨y, hy, hb⟩ := he H enc w base spare held n us _ (by omega) h1
        obtain ⟨_, hcl, hat⟩ := World.cells?_some hc
        have hcell : ∀ j z, us[j]? = some z → w.cell? (a.add (i * ρ.size + j)) = some z := by
          intro j z hz
          have hj : j < P.cellsOf e := by have := (List.getElem?_eq_some_iff.1 hz).1; omega
          have := hat j hj
          rw [hz, add_of_add, hs] at this; exact this
        refine ⟨y, ⟨?_, us, hy, hcell⟩, fun d hd => ?_⟩
        · have h0 : 0 < us.length := by rw [ρ.len hy]; exact hp
          have := World.block_lt_of_cell? w _ (hcell 0 _ (List.getElem?_eq_getElem h0))
          rwa [block_of_add] at this
        · rw [List.getElem?_map, List.getElem?_eq_getElem (by omega)] at hd
          simp at hd; subst hd; exact hb
    obtain ⟨ys, hyl, hq⟩ := pick len key
    refine ⟨ys, ⟨some a, cap, by rw [hyl], by omega, hm, fun i y hy => ?_⟩, ?_⟩
    · obtain ⟨⟨hb, u, hr, hc⟩, _⟩ := hq i y hy
      exact ⟨a, u, rfl, hb, hr, hc⟩
    · have := sum_le ρ.bulk ys (elems.map (·.1)) (by rw [List.length_map]; omega) fun i y d hy hd => (hq i y hy).2 d hd
      simp only [rList, Rows.uptoBulk]; omega
def OpensLN {α : Type} (P : Program) (l : List Field) (off : Nat) (ρ : Rep α) (N : Nat) : Prop :=
  ∀ (H : Type) (enc : TypeId × Value → H) (w : World) (base : Nat) (spare : Nat → Bool) (held : Bool) (fuel : Nat) (cs : List Value) (xs : List (DataW H × List MemPlace)), fuel ≤ N →
    cs.length = off + ρ.size → xs.length = l.length → (∀ (i : Nat) (f : Field), l[i]? = some f → DataW.trod enc P w base spare held fuel f.type ((cs.drop f.offset).take (P.cellsOf f.type)) = xs[i]?) →
    ∃ y, ρ.R w (fun b => b < w.heap.size) (cs.drop off) y ∧ ρ.bulk y ≤ Rows.uptoBulkAll (xs.map (·.1))
theorem opensN_last {α : Type} {ρ : Rep α} {P : Program} {f : Field} {off N : Nat} (ho : f.offset = off) (hs : P.cellsOf f.type = ρ.size) (hf : OpensN P f.type ρ N) : OpensLN P [f] off ρ N := by
  intro H enc w base spare held fuel cs xs hfu hl hx h
  match xs, hx with
  | [x], _ =>
    have h0 := h 0 f rfl
    rw [ho, hs, List.take_of_length_le (by rw [List.length_drop]; omega)] at h0
    obtain ⟨y, hy, hb⟩ := hf H enc w base spare held fuel _ x hfu h0
    exact ⟨y, hy, by simp only [List.map_cons, List.map_nil, Rows.uptoBulkAll]; omega⟩
theorem opensN_more {α β : Type} {ρ : Rep α} {σ : Rep β} {P : Program} {f : Field} {l : List Field} {off N : Nat} (ho : f.offset = off) (hs : P.cellsOf f.type = ρ.size) (hf : OpensN P f.type ρ N) (hl : OpensLN P l (off + ρ.size) σ N) :
    OpensLN P (f :: l) off (rPair ρ σ) N := by
  intro H enc w base spare held fuel cs xs hfu hcs hx h
  match xs, hx with
  | x :: xs, hx =>
    have h0 := h 0 f rfl
    rw [ho, hs] at h0
    have hz : (rPair ρ σ).size = ρ.size + σ.size := rfl
    obtain ⟨y, hy, hb⟩ := hf H enc w base spare held fuel _ x hfu h0
    obtain ⟨z, hz, hb'⟩ := hl H enc w base spare held fuel cs xs hfu (by omega) (by simpa using hx) fun i f hi => h (i + 1) f (by simpa using hi)
    refine ⟨(y, z), ⟨_, _, ?_, hy, hz⟩, ?_⟩
    · rw [← List.drop_drop, List.take_append_drop]
    · simp only [rPair, List.map_cons, Rows.uptoBulkAll]; omega
theorem opensN_struct {α : Type} {ρ : Rep α} {P : Program} {t : TypeId} {l : List Field} {N : Nat} (ht : P.underlying t = some (.struct l.toArray)) (hs : P.cellsOf t = ρ.size) (hl : OpensLN P l 0 ρ N) : OpensN P t ρ (N + 1) := by
  intro H enc w base spare held fuel cs x hfu h
  obtain ⟨xs, n, hn, rfl, hcs, hx, hf⟩ := DataW.trod_struct ht h
  obtain ⟨y, hy, hb⟩ := hl H enc w base spare held n cs xs (by omega) (by omega) (by simpa using hx) fun i f hi => hf i f (by simpa using hi)
  exact ⟨y, by simpa using hy, by simp only [Rows.uptoBulk]; omega⟩
theorem OpensN.less {α : Type} {P : Program} {t : TypeId} {ρ : Rep α} {N M : Nat} (h : OpensN P t ρ N) (hm : M ≤ N) : OpensN P t ρ M := fun H enc w base spare held fuel cs x hf hx => h H enc w base spare held fuel cs x (Nat.le_trans hf hm) hx
/-- a struct that holds slices of itself -/
theorem opens_rec {α : Type} {ρ : Rep α} {P : Program} {t : TypeId} {fs : Array Field} (ht : P.underlying t = some (.struct fs)) (h : ∀ N, OpensN P t ρ N → OpensN P t ρ (N + 1)) : Opens P t ρ := by
  have key : ∀ N, OpensN P t ρ N := by
    intro N
    induction N with
    | zero =>
      intro H enc w base spare held fuel cs x hf hx
      obtain ⟨xs, n, hn, _⟩ := DataW.trod_struct ht hx
      omega
    | succ N ih => exact h N ih
  exact fun H enc w base spare held fuel cs x hx => key fuel H enc w base spare held fuel cs x (Nat.le_refl _) hx
def Rep.sub {α : Type} (ρ : Rep α) (p : α → Prop) : Rep α where
  size := ρ.size
  bulk := ρ.bulk
  R w S cs x := ρ.R w S cs x ∧ p x
  len h := ρ.len h.1
  one h := ρ.one h.1
  keep h hk := ⟨ρ.keep h.1 hk, h.2⟩
  more h hm := ⟨ρ.more h.1 hm, h.2⟩
theorem Sl.sub {α : Type} {ρ : Rep α} {w : World} {S : Nat → Prop} {A : Option Addr} {c : Nat} {xs : List α} (h : Sl ρ w S A c xs) {p : α → Prop} (hp : ∀ x ∈ xs, p x) : Sl (ρ.sub p) w S A c xs :=
  ⟨h.1, h.2.1, fun i x hx => by
    obtain ⟨ad, u, e, hs, hr, hc⟩ := h.2.2 i x hx
    exact ⟨ad, u, e, hs, ⟨hr, hp x (List.mem_of_getElem? hx)⟩, hc⟩⟩
/-- trees are told by their size -/
theorem avs_rec {α : Type} {ρ : Rep α} {av : α → List AV} {ok : α → Prop} (size : α → Nat) (h : ∀ N, AvsG (ρ.sub fun x => size x ≤ N) id av ok → AvsG (ρ.sub fun x => size x ≤ N + 1) id av ok) (h0 : ∀ x, 1 ≤ size x) : AvsG ρ id av ok := by
  have key : ∀ N, AvsG (ρ.sub fun x => size x ≤ N) id av ok := by
    intro N
    induction N with
    | zero => intro w S cs y hr; have := h0 y; have := hr.2; omega
    | succ N ih => exact h N ih
  exact fun w S cs y hr => key (size y) w S cs y ⟨hr, Nat.le_refl _⟩
end Go.Proofs.Ytkocpdekknfmaaa

/- Types and terms as they come in: what stands for them in memory. -/
namespace Go.Proofs.Ytkocpdekknfmaaa
open Go.RowKit
mutual
def Ty.R (w : World) (S : Nat → Prop) : List Value → Ty → Prop
  | cs, ⟨k, n, ks⟩ => ∃ A c, cs = [.int .i64 k, .int .i64 n, .slice A ks.length c] ∧ I64 k ∧ I64 n ∧ ks.length ≤ c ∧ c ≤ maxLen ∧ Ty.Rs w S A 0 ks
def Ty.Rs (w : World) (S : Nat → Prop) (A : Option Addr) : Nat → List Ty → Prop
  | _, [] => True
  | i, t :: r => (∃ ad u, A = some ad ∧ S ad.block ∧ Ty.R w S u t ∧ ∀ j z, u[j]? = some z → w.cell? (ad.add (i * 3 + j)) = some z) ∧ Ty.Rs w S A (i + 1) r
end
theorem Ty.Rs_iff {w : World} {S : Nat → Prop} {A : Option Addr} : ∀ {ks : List Ty} {i : Nat}, Ty.Rs w S A i ks ↔ ∀ j t, ks[j]? = some t → ∃ ad u, A = some ad ∧ S ad.block ∧ Ty.R w S u t ∧ ∀ m z, u[m]? = some z → w.cell? (ad.add ((i + j) * 3 + m)) = some z
  | [], i => by rw [Ty.Rs]; simp
  | t :: r, i => by
    rw [Ty.Rs, Ty.Rs_iff (ks := r) (i := i + 1)]
    constructor
    · rintro ⟨h1, h2⟩ j x hx
      match j with
      | 0 => simp at hx; subst hx; exact h1
      | j + 1 =>
        obtain ⟨ad, u, e, hs, hr, hc⟩ := h2 j x (by simpa using hx)
        exact ⟨ad, u, e, hs, hr, by rw [show i + (j + 1) = i + 1 + j from by omega]; exact hc⟩
    · intro h
      refine ⟨h 0 t rfl, fun j x hx => ?_⟩
      obtain ⟨ad, u, e, hs, hr, hc⟩ := h (j + 1) x (by simpa using hx)
      exact ⟨ad, u, e, hs, hr, by rw [show i + 1 + j = i + (j + 1) from by omega]; exact hc⟩
theorem Ty.R_mk {w : World} {S : Nat → Prop} {cs : List Value} {k n : Int} {ks : List Ty} : Ty.R w S cs ⟨k, n, ks⟩ ↔ ∃ A c, cs = [.int .i64 k, .int .i64 n, .slice A ks.length c] ∧ I64 k ∧ I64 n ∧ ks.length ≤ c ∧ c ≤ maxLen ∧ Ty.Rs w S A 0 ks := by rw [Ty.R]
theorem Ty.R_keep {w w' : World} {S S' : Nat → Prop} (hk : ∀ p : Addr, S p.block → w'.cell? p = w.cell? p) (hm : ∀ b, S b → S' b) : ∀ (N : Nat) {cs : List Value} {t : Ty}, t.size ≤ N → Ty.R w S cs t → Ty.R w' S' cs t
  | 0, cs, ⟨k, n, ks⟩, hN, h => by rw [Ty.size_mk] at hN; omega
  | N + 1, cs, ⟨k, n, ks⟩, hN, h => by
    rw [Ty.size_mk] at hN
    obtain ⟨A, c, e, h1, h2, h3, h4, h5⟩ := Ty.R_mk.1 h
    refine Ty.R_mk.2 ⟨A, c, e, h1, h2, h3, h4, Ty.Rs_iff.2 fun j t ht => ?_⟩
    obtain ⟨ad, u, ea, hs, hr, hc⟩ := Ty.Rs_iff.1 h5 j t ht
    have := Ty.sizes_mem (List.mem_of_getElem? ht)
    exact ⟨ad, u, ea, hm _ hs, Ty.R_keep hk hm N (by omega) hr, fun m z hz => (hk _ (by rw [block_of_add]; exact hs)).trans (hc m z hz)⟩
def rTy : Rep Ty where
  size := 3
  bulk := Ty.size
  R := Ty.R
  len := fun {w S cs x} h => by obtain ⟨k, n, ks⟩ := x; obtain ⟨A, c, e, _⟩ := Ty.R_mk.1 h; rw [e]; rfl
  one := fun {w S cs x} h => by obtain ⟨k, n, ks⟩ := x; obtain ⟨A, c, e, _⟩ := Ty.R_mk.1 h; rw [e]; intro u hu; simp at hu; rcases hu with rfl | rfl | rfl <;> rfl
  keep := fun h hk => Ty.R_keep hk (fun _ h => h) _ (Nat.le_refl _) h
  more := fun h hm => Ty.R_keep (fun _ _ => rfl) hm _ (Nat.le_refl _) h
theorem ty_open {w : World} {S : Nat → Prop} {cs : List Value} {t : Ty} (h : rTy.R w S cs t) : ∃ A c, cs = [.int .i64 t.kind, .int .i64 t.num, .slice A t.kids.length c] ∧ I64 t.kind ∧ I64 t.num ∧ Sl rTy w S A c t.kids := by
  obtain ⟨k, n, ks⟩ := t
  obtain ⟨A, c, e, h1, h2, h3, h4, h5⟩ := Ty.R_mk.1 h
  refine ⟨A, c, e, h1, h2, h3, h4, fun i x hx => ?_⟩
  have := Ty.Rs_iff.1 h5 i x hx
  rw [Nat.zero_add] at this; exact this
theorem ty_mk {w : World} {S : Nat → Prop} {A : Option Addr} {c : Nat} {t : Ty} (h1 : I64 t.kind) (h2 : I64 t.num) (h : Sl rTy w S A c t.kids) : rTy.R w S [.int .i64 t.kind, .int .i64 t.num, .slice A t.kids.length c] t := by
  obtain ⟨k, n, ks⟩ := t
  refine Ty.R_mk.2 ⟨A, c, rfl, h1, h2, h.le, h.max, Ty.Rs_iff.2 fun i x hx => ?_⟩
  have := h.2.2 i x hx
  rw [Nat.zero_add]; exact this

mutual
def Tm.R (w : World) (S : Nat → Prop) : List Value → Tm → Prop
  | cs, ⟨k, n, t, ks⟩ => ∃ A c u, cs = [.int .i64 k, .int .i64 n] ++ u ++ [.slice A ks.length c] ∧ I64 k ∧ I64 n ∧ rTy.R w S u t ∧ ks.length ≤ c ∧ c ≤ maxLen ∧ Tm.Rs w S A 0 ks
def Tm.Rs (w : World) (S : Nat → Prop) (A : Option Addr) : Nat → List Tm → Prop
  | _, [] => True
  | i, t :: r => (∃ ad u, A = some ad ∧ S ad.block ∧ Tm.R w S u t ∧ ∀ j z, u[j]? = some z → w.cell? (ad.add (i * 6 + j)) = some z) ∧ Tm.Rs w S A (i + 1) r
end
theorem Tm.Rs_iff {w : World} {S : Nat → Prop} {A : Option Addr} : ∀ {ks : List Tm} {i : Nat}, Tm.Rs w S A i ks ↔ ∀ j t, ks[j]? = some t → ∃ ad u, A = some ad ∧ S ad.block ∧ Tm.R w S u t ∧ ∀ m z, u[m]? = some z → w.cell? (ad.add ((i + j) * 6 + m)) = some z
  | [], i => by rw [Tm.Rs]; simp
  | t :: r, i => by
    rw [Tm.Rs, Tm.Rs_iff (ks := r) (i := i + 1)]
    constructor
    · rintro ⟨h1, h2⟩ j x hx
      match j with
      | 0 => simp at hx; subst hx; exact h1
      | j + 1 =>
        obtain ⟨ad, u, e, hs, hr, hc⟩ := h2 j x (by simpa using hx)
        exact ⟨ad, u, e, hs, hr, by rw [show i + (j + 1) = i + 1 + j from by omega]; exact hc⟩
    · intro h
      refine ⟨h 0 t rfl, fun j x hx => ?_⟩
      obtain ⟨ad, u, e, hs, hr, hc⟩ := h (j + 1) x (by simpa using hx)
      exact ⟨ad, u, e, hs, hr, by rw [show i + 1 + j = i + (j + 1) from by omega]; exact hc⟩
theorem Tm.R_mk {w : World} {S : Nat → Prop} {cs : List Value} {k n : Int} {t : Ty} {ks : List Tm} : Tm.R w S cs ⟨k, n, t, ks⟩ ↔ ∃ A c u, cs = [.int .i64 k, .int .i64 n] ++ u ++ [.slice A ks.length c] ∧ I64 k ∧ I64 n ∧ rTy.R w S u t ∧ ks.length ≤ c ∧ c ≤ maxLen ∧ Tm.Rs w S A 0 ks := by rw [Tm.R]
theorem Tm.R_keep {w w' : World} {S S' : Nat → Prop} (hk : ∀ p : Addr, S p.block → w'.cell? p = w.cell? p) (hm : ∀ b, S b → S' b) : ∀ (N : Nat) {cs : List Value} {t : Tm}, t.size ≤ N → Tm.R w S cs t → Tm.R w' S' cs t
  | 0, cs, ⟨k, n, ty, ks⟩, hN, h => by rw [Tm.size_mk] at hN; omega
  | N + 1, cs, ⟨k, n, ty, ks⟩, hN, h => by
    rw [Tm.size_mk] at hN
    obtain ⟨A, c, u, e, h1, h2, hu, h3, h4, h5⟩ := Tm.R_mk.1 h
    refine Tm.R_mk.2 ⟨A, c, u, e, h1, h2, rTy.more (rTy.keep hu hk) hm, h3, h4, Tm.Rs_iff.2 fun j t ht => ?_⟩
    obtain ⟨ad, u, ea, hs, hr, hc⟩ := Tm.Rs_iff.1 h5 j t ht
    have := Tm.sizes_mem (List.mem_of_getElem? ht)
    exact ⟨ad, u, ea, hm _ hs, Tm.R_keep hk hm N (by omega) hr, fun m z hz => (hk _ (by rw [block_of_add]; exact hs)).trans (hc m z hz)⟩
mutual
def Tm.bulk : Tm → Nat
  | ⟨_, _, t, ks⟩ => 1 + Ty.size t + Tm.bulks ks
def Tm.bulks : List Tm → Nat
  | [] => 0
  | t :: r => Tm.bulk t + Tm.bulks r
end
def rTm : Rep Tm where
  size := 6
  bulk := Tm.bulk
  R := Tm.R
  len := fun {w S cs x} h => by obtain ⟨k, n, t, ks⟩ := x; obtain ⟨A, c, u, e, _, _, hu, _⟩ := Tm.R_mk.1 h; have := rTy.len hu; rw [e]; simp [this, rTy]
  one := fun {w S cs x} h => by
    obtain ⟨k, n, t, ks⟩ := x; obtain ⟨A, c, u, e, _, _, hu, _⟩ := Tm.R_mk.1 h
    rw [e]; intro z hz
    simp only [List.mem_append, List.mem_cons, List.not_mem_nil, or_false] at hz
    rcases hz with ((rfl | rfl) | hz) | rfl
    · rfl
    · rfl
    · exact rTy.one hu z hz
    · rfl
  keep := fun h hk => Tm.R_keep hk (fun _ h => h) _ (Nat.le_refl _) h
  more := fun h hm => Tm.R_keep (fun _ _ => rfl) hm _ (Nat.le_refl _) h
theorem tm_open {w : World} {S : Nat → Prop} {cs : List Value} {t : Tm} (h : rTm.R w S cs t) : ∃ At ct A c, cs = [.int .i64 t.kind, .int .i64 t.num, .int .i64 t.type.kind, .int .i64 t.type.num, .slice At t.type.kids.length ct, .slice A t.kids.length c] ∧ (I64 t.kind ∧ I64 t.num ∧ I64 t.type.kind ∧ I64 t.type.num) ∧ Sl rTy w S At ct t.type.kids ∧ Sl rTm w S A c t.kids := by
  obtain ⟨k, n, ty, ks⟩ := t
  obtain ⟨A, c, u, e, h1, h2, hu, h3, h4, h5⟩ := Tm.R_mk.1 h
  obtain ⟨At, ct, rfl, i1, i2, hs⟩ := ty_open hu
  refine ⟨At, ct, A, c, by rw [e]; rfl, ⟨h1, h2, i1, i2⟩, hs, h3, h4, fun i x hx => ?_⟩
  have := Tm.Rs_iff.1 h5 i x hx
  rw [Nat.zero_add] at this; exact this
theorem tm_mk {w : World} {S : Nat → Prop} {At A : Option Addr} {ct c : Nat} {t : Tm} (hi : I64 t.kind ∧ I64 t.num ∧ I64 t.type.kind ∧ I64 t.type.num) (ht : Sl rTy w S At ct t.type.kids) (h : Sl rTm w S A c t.kids) :
    rTm.R w S [.int .i64 t.kind, .int .i64 t.num, .int .i64 t.type.kind, .int .i64 t.type.num, .slice At t.type.kids.length ct, .slice A t.kids.length c] t := by
  obtain ⟨k, n, ty, ks⟩ := t
  refine Tm.R_mk.2 ⟨A, c, _, rfl, hi.1, hi.2.1, ty_mk hi.2.2.1 hi.2.2.2 ht, h.le, h.max, Tm.Rs_iff.2 fun i x hx => ?_⟩
  have := h.2.2 i x hx
  rw [Nat.zero_add]; exact this

theorem avs_ty : AvsG rTy id Ty.cs (fun _ => True) := avs_rec Ty.size (fun N ih w S cs t hr => by
  obtain ⟨hr, hN⟩ := hr
  obtain ⟨A, c, rfl, _, _, hs⟩ := ty_open hr
  refine ⟨trivial, ?_⟩
  have hN : t.size ≤ N + 1 := hN
  rw [Ty.size_eq] at hN
  have h1 := (sl_rpd ih (Nat.zero_lt_succ _) (hs.sub fun x hx => by have := Ty.sizes_mem hx; show x.size ≤ N; omega)).2
  rw [List.map_id] at h1
  show RpsD w S (Ty.cs t) _
  rw [Ty.cs_eq]
  exact (RpsD.one (.p (.int .i64 t.kind) rfl)).append ((RpsD.one (.p (.int .i64 t.num) rfl)).append (.one h1))) Ty.size_pos
theorem avs_tm : AvsG rTm id Tm.cs (fun _ => True) := avs_rec Tm.size (fun N ih w S cs t hr => by
  obtain ⟨hr, hN⟩ := hr
  obtain ⟨At, ct, A, c, rfl, _, ht, hs⟩ := tm_open hr
  refine ⟨trivial, ?_⟩
  have hN : t.size ≤ N + 1 := hN
  rw [Tm.size_eq] at hN
  have h1 := (sl_rpd ih (Nat.zero_lt_succ _) (hs.sub fun x hx => by have := Tm.sizes_mem hx; show x.size ≤ N; omega)).2
  have h2 := (sl_rpd avs_ty (by decide) ht).2
  rw [List.map_id] at h1 h2
  show RpsD w S (Tm.cs t) _
  rw [Tm.cs_eq]
  exact (RpsD.one (.p (.int .i64 t.kind) rfl)).append ((RpsD.one (.p (.int .i64 t.num) rfl)).append ((RpsD.one (.p (.int .i64 t.type.kind) rfl)).append ((RpsD.one (.p (.int .i64 t.type.num) rfl)).append ((RpsD.one h2).append (.one h1)))))) Tm.size_pos
theorem ty_bulks : ∀ ks : List Ty, (ks.map Ty.size).sum = Ty.sizes ks
  | [] => rfl
  | t :: r => by rw [List.map_cons, List.sum_cons, ty_bulks r, Ty.sizes]
theorem tm_bulks : ∀ ks : List Tm, (ks.map Tm.bulk).sum = Tm.bulks ks
  | [] => by rw [Tm.bulks]; rfl
  | t :: r => by rw [List.map_cons, List.sum_cons, tm_bulks r, Tm.bulks]
theorem opens_ty : Opens Try.prog 24 rTy := opens_rec Try.underlying24 fun N ih =>
  OpensN.map (ρ := rPair rInt (rPair rInt (rList rTy))) (N := N + 1) (by
    refine OpensN.less (N := N + 1 + 1) (opensN_struct (l := [_, _, _]) Try.underlying24 rfl (opensN_more rfl rfl ((opens_int Try.underlying3).n _) (opensN_more rfl rfl ((opens_int Try.underlying3).n _) (opensN_last rfl rfl (opensN_slice Try.underlying22 rfl (by decide) ih))))) (by omega))
    (fun y => ⟨y.1, y.2.1, y.2.2⟩) (fun w S cs y hr => by
      obtain ⟨c1, c2, rfl, ⟨rfl, i1⟩, c3, c4, rfl, ⟨rfl, i2⟩, A, c, rfl, hs⟩ := hr
      exact ty_mk (t := ⟨y.1, y.2.1, y.2.2⟩) i1 i2 hs)
    (fun y => by
      show Ty.size ⟨y.1, y.2.1, y.2.2⟩ ≤ 1 + (1 + ((y.2.2.map Ty.size).sum + 1))
      rw [Ty.size_mk, ty_bulks]; omega)
theorem opens_tm : Opens Try.prog 27 rTm := opens_rec Try.underlying27 fun N ih =>
  OpensN.map (ρ := rPair rInt (rPair rInt (rPair rTy (rList rTm)))) (N := N + 1) (by
    refine OpensN.less (N := N + 1 + 1) (opensN_struct (l := [_, _, _, _]) Try.underlying27 rfl (opensN_more rfl rfl ((opens_int Try.underlying3).n _) (opensN_more rfl rfl ((opens_int Try.underlying3).n _) (opensN_more rfl rfl (opens_ty.n _) (opensN_last rfl rfl (opensN_slice Try.underlying25 rfl (by decide) ih)))))) (by omega))
    (fun y => ⟨y.1, y.2.1, y.2.2.1, y.2.2.2⟩) (fun w S cs y hr => by
      obtain ⟨c1, c2, rfl, ⟨rfl, i1⟩, c3, c4, rfl, ⟨rfl, i2⟩, c5, c6, rfl, ht, A, c, rfl, hs⟩ := hr
      obtain ⟨At, ct, rfl, j1, j2, hst⟩ := ty_open ht
      exact tm_mk (t := ⟨y.1, y.2.1, y.2.2.1, y.2.2.2⟩) ⟨i1, i2, j1, j2⟩ hst hs)
    (fun y => by
      show Tm.bulk ⟨y.1, y.2.1, y.2.2.1, y.2.2.2⟩ ≤ 1 + (1 + (Ty.size y.2.2.1 + ((y.2.2.2.map Tm.bulk).sum + 1)))
      rw [Tm.bulk, tm_bulks]; omega)
theorem opens_types : Opens Try.prog 22 (rList rTy) := opens_slice Try.underlying22 rfl (by decide) opens_ty
theorem opens_nums : Opens Try.prog 35 (rList rInt) := opens_slice Try.underlying35 rfl (by decide) (opens_int Try.underlying3)
end Go.Proofs.Ytkocpdekknfmaaa

/- What must be in any case; what the three laws say of types. -/
namespace Go.Proofs.Ytkocpdekknfmaaa
open Go.RowKit Go.Maps
section
variable {P : Program} {H H1 H2 : AH} {B : Nat}
/-- what a row holds is told anew -/
theorem Gst.resub {r : Nat} {t : TypeId} {sz : Nat} {es es' : List (List AV)} (hg : H.get r = some (.row t sz es)) (hl : es'.length = es.length) (h : ∀ (i : Nat) (e e' : List AV), es[i]? = some e → es'[i]? = some e' → Subs P H e e') : Gst P H (H.put r (.row t sz es')) := by
  have hget : ∀ id o, (H.put r (.row t sz es')).get id = some o → ∃ o', H.get id = some o' ∧ o'.owned = o.owned ∧ ((id = r ∧ o = .row t sz es') ∨ (id ≠ r ∧ o' = o)) := by
    intro id o ho
    by_cases e : id = r
    · subst e; rw [AH.get_put_self] at ho; injection ho with ho; subst ho; exact ⟨_, hg, rfl, .inl ⟨rfl, rfl⟩⟩
    · rw [AH.get_put_ne e] at ho; exact ⟨o, ho, rfl, .inr ⟨e, rfl⟩⟩
  refine ⟨Nat.le_refl _, fun w S σ hs => ⟨S, ⟨hs.sb, hs.dom, fun id o ho => ?_, fun i j o o' b h h' k k' => ?_, fun i o b h k hb => ?_, hs.sl⟩, fun _ h => h, fun _ h => .inl h, ?_⟩⟩
  · obtain ⟨o', h1, _, ⟨rfl, rfl⟩ | ⟨_, rfl⟩⟩ := hget id o ho
    · obtain ⟨A, c, h1, h2, h3, h4, h5⟩ := hs.obj id _ hg
      have hlen : ∀ i e', es'[i]? = some e' → ∃ e, es[i]? = some e := fun i e' he' => by
        have := (List.getElem?_eq_some_iff.1 he').1
        exact ⟨_, List.getElem?_eq_getElem (by omega)⟩
      refine ⟨A, c, by rw [hl]; exact h1, fun e' he' => ?_, by omega, h4, ?_⟩
      · obtain ⟨i, hi⟩ := List.getElem?_of_mem he'
        obtain ⟨e, he⟩ := hlen i e' hi
        rw [← (h i e e' he hi).1]; exact h2 e (List.mem_of_getElem? he)
      · refine h5.imp_right fun ⟨g, o, arr, k0, k1, k2, k3, k4⟩ => ⟨g, o, arr, k0, k1, k2, k3, fun i e' j a' he' ha' => ?_⟩
        obtain ⟨e, he⟩ := hlen i e' he'
        have hsub := h i e e' he he'
        obtain ⟨a, ha⟩ : ∃ a, e[j]? = some a := ⟨_, List.getElem?_eq_getElem (by have := (List.getElem?_eq_some_iff.1 ha').1; have := hsub.1; omega)⟩
        obtain ⟨v, hv, hr⟩ := k4 i e j a he ha
        exact ⟨v, hv, hsub.2 j a a' ha ha' w S σ v hs hr⟩
    · exact hs.obj id _ h1
  · obtain ⟨o1, h1, e1, _⟩ := hget i o h
    obtain ⟨o2, h2, e2, _⟩ := hget j o' h'
    exact hs.dj i j o1 o2 b h1 h2 (e1.trans k) (e2.trans k')
  · obtain ⟨o1, h1, e1, _⟩ := hget i o h
    exact hs.sep i o1 b h1 (e1.trans k) hb
  · rintro b ⟨i, o, h, k, hb⟩
    obtain ⟨o1, h1, e1, _⟩ := hget i o h
    exact ⟨i, o1, h1, e1.trans k, hb⟩
theorem rt_st {v : AV} {Q : AV → AH → Prop} (hs : Gst P H1 H2) (hb : B ≤ H1.nx) (h : Rt P B v Q H2) : Rt P B v Q H1 := Gh.step (.st hs hb) h
end
def selfF : Tm := ⟨3, 0, ⟨1, 0, []⟩, [⟨1, 0, tyN, []⟩]⟩
def selfT : Tm := ⟨4, 0, tyN, [selfF, ⟨2, 3, tyN, []⟩]⟩
def selfA1 : List AV := Tm.cs ⟨1, 0, tyN, []⟩
def selfA2 : List AV := selfF.cs
def selfA3 : List AV := Tm.cs ⟨2, 3, tyN, []⟩
theorem c_selfSame : PF Try.prog 29 [] selfT.av := fun H => tri_wf fun hw => tri_wordhoardlaw_selfSame (by
  unfold S_wordhoardlaw_selfSame
  simp (disch := first | omega | simp) [put_get_ne]
  generalize hM : AH.put _ _ _ = M
  have hMn : M.nx = H.nx + 12 := by rw [← hM]; rfl
  have hb1 : M.get (H.nx + 1 + 3 + 2) = some (.row 27 6 [[iv 1, iv 0, iv 0, iv 0, .p (.slice none 0 0), .p (.slice none 0 0)]]) := by rw [← hM]; simp (disch := first | omega | simp) [put_get_ne, iv]
  have hb2 : M.get (H.nx + 1 + 3 + 5) = some (.row 27 6 [[iv 3, iv 0, iv 1, iv 0, .p (.slice none 0 0), .osl (H.nx + 1 + 3 + 2) 6 0 1], [iv 2, iv 3, iv 0, iv 0, .p (.slice none 0 0), .p (.slice none 0 0)]]) := by rw [← hM]; simp (disch := first | omega | simp) [put_get_ne, iv]
  have hMl : H.le M := by rw [← hM]; exact (by repeat (first | with_reducible assumption | with_reducible exact AH.le.refl _ | with_reducible apply AH.le.up | (with_reducible refine AH.le.put hw ?_ ?_; · first | omega | (simp only [up_nx, put_nx, kill_nx]; done) | (simp only [up_nx, put_nx, kill_nx]; omega)) | (with_reducible refine AH.le.kill hw ?_ ?_; · first | omega | (simp only [up_nx, put_nx, kill_nx]; done) | (simp only [up_nx, put_nx, kill_nx]; omega))))
  clear hM
  have two : ∀ {H2 : AH} {u : AV} {a b c d : Int} {ks : List (List AV)}, Sub Try.prog H2 u (.dsl 6 ks) → Subs Try.prog H2 [iv a, iv b, iv c, iv d, .p (.slice none 0 0), u] [iv a, iv b, iv c, iv d, .dsl 3 [], .dsl 6 ks] := fun h => .cons (.refl _) (.cons (.refl _) (.cons (.refl _) (.cons (.refl _) (.cons (.nil _ _ (Nat.zero_le _)) (.cons h .nil)))))
  have dA1 : DtR [selfA1] := dt_tm [⟨1, 0, tyN, []⟩]
  have dA2 : DtR [selfA2, selfA3] := dt_tm [selfF, ⟨2, 3, tyN, []⟩]
  refine rt_st (.resub (es' := [selfA1]) hb1 rfl ?_) (by first | omega | (simp only [up_nx, put_nx, kill_nx]; done) | (simp only [up_nx, put_nx, kill_nx]; omega)) ?_
  · rintro i e e' he he'
    match i with
    | 0 => injection he with he; injection he' with he'; subst he he'; exact two (.nil _ _ (Nat.zero_le _))
    | i + 1 => cases he
  refine rt_st (.freeze (put_get _ _) dA1) (by first | omega | (simp only [put_nx]; done) | (simp only [put_nx]; omega)) ?_
  have hb3 : ((M.put (H.nx + 1 + 3 + 2) (.row 27 6 [selfA1])).put (H.nx + 1 + 3 + 2) (.frz 6 [selfA1])).get (H.nx + 1 + 3 + 5) = some (.row 27 6 [[iv 3, iv 0, iv 1, iv 0, .p (.slice none 0 0), .osl (H.nx + 1 + 3 + 2) 6 0 1], [iv 2, iv 3, iv 0, iv 0, .p (.slice none 0 0), .p (.slice none 0 0)]]) := by simp (disch := first | omega | simp) [put_get_ne]; exact hb2
  refine rt_st (.resub (es' := [selfA2, selfA3]) hb3 rfl ?_) (by first | omega | (simp only [put_nx]; done) | (simp only [put_nx]; omega)) ?_
  · rintro i e e' he he'
    match i with
    | 0 => injection he with he; injection he' with he'; subst he he'; exact two (.frz (es := [selfA1]) (off := 0) (n := 1) (put_get _ _) (Nat.le_refl _))
    | 1 => injection he with he; injection he' with he'; subst he he'; exact two (.nil _ _ (Nat.zero_le _))
    | i + 2 => cases he
  refine rt_st (.freeze (put_get _ _) dA2) (by first | omega | (simp only [put_nx]; done) | (simp only [put_nx]; omega)) ?_
  refine rt_sub (v' := selfT.av) hw (by repeat (first | with_reducible assumption | with_reducible exact AH.le.refl _ | with_reducible apply AH.le.up | (with_reducible refine AH.le.put hw ?_ ?_; · first | omega | (simp only [up_nx, put_nx, kill_nx]; done) | (simp only [up_nx, put_nx, kill_nx]; omega)) | (with_reducible refine AH.le.kill hw ?_ ?_; · first | omega | (simp only [up_nx, put_nx, kill_nx]; done) | (simp only [up_nx, put_nx, kill_nx]; omega)))) (by first | omega | (simp only [put_nx]; done) | (simp only [put_nx]; omega)) ?_ (.agg (Tm.cl _ _)) ⟨rfl, rfl⟩
  exact .agg (two (.frz (es := [selfA2, selfA3]) (off := 0) (n := 2) (put_get _ _) (Nat.le_refl _))))
theorem normA_self : normR selfT = .tup [(Tm.lift 0 0 ⟨2, 3, tyN, []⟩).av, iv 1, iv 0] := by
  have h1 : selfT.spots = [[]] := by simp [Tm.spots_eq, Tm.spotss, Tm.spot, selfT, selfF]
  have hf : selfF.spot = false := rfl
  have h2 : Tm.at_ [] selfT 0 = (⟨2, 3, tyN, []⟩, 0) := by simp [Tm.at_, Tm.spot, selfT, selfF, Tm.redex, Tm.put_eq, Tm.lift_eq, Tm.size_eq, Tm.sizes]
  have h3 : Tm.spots ⟨2, 3, tyN, []⟩ = [] := by simp [Tm.spots_eq, Tm.spotss, Tm.spot]
  have hc : selfT.check = 0 := by simp [Tm.check, Tm.size_eq, Tm.sizes, selfT, selfF, Tm.wrong_mk, Tm.wrongs, Tm.head, Ty.check, Ty.size_eq, Ty.sizes, Ty.bare, Ty.wrong_mk, Ty.head, Ty.wrongs, tyN]
  unfold normR
  rw [if_pos hc]
  unfold normA
  rw [Tm.norm_succ (f := 199) h1, h2, if_pos rfl, Tm.norm_nil h3]; rfl
theorem c_begun : PF Try.prog 9 [] (bv true) := fun H => tri_wf fun hw => tri_wordhoardlaw_termBegun (by
  unfold S_wordhoardlaw_termBegun
  simp (disch := first | omega | simp)
  refine ca_pure (by kernel_rfl) (c_selfSame _) ?_
  refine ca_pure (by kernel_rfl) (c_Normal selfT _) ?_
  rw [normA_self]
  have hl : (Tm.lift 0 0 ⟨2, 3, tyN, []⟩) = ⟨2, 3, tyN, []⟩ := rfl
  rw [hl]
  simp (disch := first | omega | simp) [iv, Tm.av, Tm.cs_len, Tm.cs_g0, Tm.cs_g1]
  exact rt_one hw (by repeat (first | with_reducible assumption | with_reducible exact AH.le.refl _ | with_reducible apply AH.le.up | (with_reducible refine AH.le.put hw ?_ ?_; · first | omega | (simp only [up_nx, put_nx, kill_nx]; done) | (simp only [up_nx, put_nx, kill_nx]; omega)) | (with_reducible refine AH.le.kill hw ?_ ?_; · first | omega | (simp only [up_nx, put_nx, kill_nx]; done) | (simp only [up_nx, put_nx, kill_nx]; omega)))) (by repeat (first | exact Cl.p _ | exact Cl.dsl _ _ | exact Cl.any | refine Cl.tup ?_ | refine Cl.agg ?_ | exact Clo.nil | refine Clo.cons ?_ ?_)) ⟨rfl, rfl⟩)
mutual
theorem Ty.same_refl : ∀ t : Ty, t.same t = true
  | ⟨k, n, ks⟩ => by rw [Ty.same, Ty.sames_refl ks]; simp
theorem Ty.sames_refl : ∀ ks : List Ty, Ty.sames ks ks = true
  | [] => by rw [Ty.sames]
  | t :: r => by rw [Ty.sames, Ty.same_refl t, Ty.sames_refl r]; rfl
end
mutual
theorem Tm.same_refl : ∀ t : Tm, t.same t = true
  | ⟨k, n, ty, ks⟩ => by rw [Tm.same, Tm.sames_refl ks, Ty.same_refl]; simp
theorem Tm.sames_refl : ∀ ks : List Tm, Tm.sames ks ks = true
  | [] => by rw [Tm.sames]
  | t :: r => by rw [Tm.sames, Tm.same_refl t, Tm.sames_refl r]; rfl
end
set_option maxHeartbeats 2000000 in
theorem c_TermTypes (t : Tm) (cons : List Ty) : PF Try.prog 5 [t.av, .dsl 3 (cons.map Ty.cs)] (bv true) := fun H => tri_len 1 rfl fun hcl _ => tri_wf fun hw => tri_wordhoardlaw_TermTypes (by
  have hml : maxLen = 9223372036854775807 := by decide
  rw [List.length_map] at hcl
  unfold S_wordhoardlaw_TermTypes
  simp (disch := first | omega | simp) [Tm.av, Tm.cs_len, Tm.cs_take]
  refine ca_pure (by kernel_rfl) (c_TypeOf t cons _) ?_
  simp (disch := first | omega | simp) [iv, Tm.cs_len, Tm.cs_take, Ty.av, Ty.cs_len, put_get_ne]
  refine ca_pure (by kernel_rfl) (c_RTypeOf t cons _) ?_
  simp (disch := first | omega | simp) [iv, Ty.av, Ty.cs_len]
  refine cav_pure (by kernel_rfl) (fun H2 _ => c_begun H2) ?_
  simp (disch := first | omega | simp) [bv, Tm.cs_len, Tm.cs_take, put_get_ne]
  refine cav_pure (by kernel_rfl) (fun H2 _ => c_Check t H2) ?_
  simp (disch := first | omega | simp) [iv, Tm.cs_len, Tm.cs_take, put_get_ne]
  refine cav_pure (by kernel_rfl) (fun H2 _ => c_RCheckTerm t H2) ?_
  simp (disch := first | omega | simp) [iv, Ty.cs_len, Ty.cs_take, put_get_ne]
  refine cav_pure (by kernel_rfl) (fun H2 _ => c_RSameType (typR t cons).1.size (typR t cons).1 (typR t cons).1 (Nat.le_refl _) H2) ?_
  rw [Ty.same_refl]
  simp (disch := first | omega | simp) [bv]
  refine loop_wf (fun i : Nat => [iv i]) (fun i H' => H.le H' ∧ H.nx ≤ H'.nx ∧ i ≤ cons.length) (fun i => cons.length - i) 0 (.refl (Nat.le_refl _)) ⟨(by repeat (first | with_reducible assumption | with_reducible exact AH.le.refl _ | with_reducible apply AH.le.up | (with_reducible refine AH.le.put hw ?_ ?_; · first | omega | (simp only [up_nx, put_nx, kill_nx]; done) | (simp only [up_nx, put_nx, kill_nx]; omega)) | (with_reducible refine AH.le.kill hw ?_ ?_; · first | omega | (simp only [up_nx, put_nx, kill_nx]; done) | (simp only [up_nx, put_nx, kill_nx]; omega)))), (by first | omega | (simp only [up_nx, put_nx]; done) | (simp only [up_nx, put_nx]; omega)), Nat.zero_le _⟩ ?_
  rintro i H1 hn1 hw1 ⟨hle, hn, hi⟩ k hk
  unfold S_wordhoardlaw_TermTypes_L1
  by_cases hil : i < cons.length
  · obtain ⟨x, hx⟩ : ∃ x, cons[i]? = some x := ⟨_, List.getElem?_eq_getElem hil⟩
    have hxg : ∀ h, cons[i]'h = x := fun h => (List.getElem?_eq_some_iff.1 hx).2
    have hiv := ivn (i := i) (by omega)
    simp (disch := first | omega | simp) [iv, hil, hxg, Ty.cs_len, Ty.cs_take]
    refine cav_pure (by kernel_rfl) (fun H2 _ => c_CheckType x H2) ?_
    simp (disch := first | omega | simp) [iv, hil, hxg, Ty.cs_len, Ty.cs_take]
    refine cav_pure (by kernel_rfl) (fun H2 _ => c_RCheckType x H2) ?_
    simp (disch := first | omega | simp) [iv, hiv]
    exact hk (i + 1) _ _ _ (.refl (by first | omega | (simp only [up_nx, put_nx, kill_nx]; done) | (simp only [up_nx, put_nx, kill_nx]; omega))) ⟨hle, hn, hil⟩ (by omega)
  · simp (disch := first | omega | simp) [iv, hil]
    exact rt_one hw hle (by repeat (first | exact Cl.p _ | exact Cl.dsl _ _ | exact Cl.any | refine Cl.tup ?_ | refine Cl.agg ?_ | exact Clo.nil | refine Clo.cons ?_ ?_)) ⟨rfl, rfl⟩)
theorem w_TermTypes (t : Tm) (cons : List Ty) (H : AH) : Tri Try.prog 5 [.agg (id t).cs, .dsl 3 (List.map Ty.cs (cons.map id))] H (fun v _ => v = .p (.bool true)) := by
  rw [List.map_id]
  exact (c_TermTypes t cons H).mono fun v H' h => h.2
end Go.Proofs.Ytkocpdekknfmaaa
