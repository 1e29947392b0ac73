/- What comes of one line, and of two. -/
import Derived.Test.YtcmnjoepadjioaaPc4
namespace Go.Proofs.Ytcmnjoepadjioaa
open Go.RowKit Go.Maps
theorem putL_old {l : List Lin} {x : Lin} {i : Nat} (h : idxC l x.c = some i) : putL l x = l := by unfold putL; rw [h]; rfl
theorem putL_new {l : List Lin} {x : Lin} (h : idxC l x.c = none) : putL l x = l ++ [x] := by unfold putL; rw [h]; rfl
theorem putL_len (l : List Lin) (x : Lin) : l.length ≤ (putL l x).length ∧ (putL l x).length ≤ l.length + 1 := by
  cases h : idxC l x.c with
  | none => rw [putL_new h, List.length_append]; simp
  | some i => rw [putL_old h]; omega
def voidL (c : Clm) (i : Int) (l : List Lin) (ns : List Int) : List Lin := ns.foldl (fun l n => putL l ⟨5, ⟨false, c.a, n⟩, [i]⟩) l
def nouns : List Int := [1, -1, 2, -2, 3, -3, 4, -4, 5, -5, 6, -6]
def oneL (l : List Lin) (c : Clm) (i : Int) : List Lin :=
  if c.so then putL (putL l ⟨7, ⟨true, c.b, c.a⟩, [i]⟩) ⟨8, ⟨true, c.a, c.a⟩, [i]⟩
  else if c.b = -c.a then voidL c i (putL l ⟨4, ⟨false, -c.b, -c.a⟩, [i]⟩) nouns
  else putL l ⟨4, ⟨false, -c.b, -c.a⟩, [i]⟩
theorem voidL_len (c : Clm) (i : Int) : ∀ (ns : List Int) (l : List Lin), l.length ≤ (voidL c i l ns).length ∧ (voidL c i l ns).length ≤ l.length + ns.length
  | [], l => by unfold voidL; simp
  | n :: r, l => by
    have h1 := putL_len l ⟨5, ⟨false, c.a, n⟩, [i]⟩
    have h2 := voidL_len c i r (putL l ⟨5, ⟨false, c.a, n⟩, [i]⟩)
    unfold voidL at h2 ⊢
    rw [List.foldl_cons, List.length_cons]
    omega
theorem voidL_snoc (c : Clm) (i : Int) (l : List Lin) (ns : List Int) (n : Int) : voidL c i l (ns ++ [n]) = putL (voidL c i l ns) ⟨5, ⟨false, c.a, n⟩, [i]⟩ := by unfold voidL; rw [List.foldl_append]; rfl
/-- put is called with a row laid for it -/
theorem ca_put {H : AH} {a m : Nat} {v : AV} {l : List Lin} (h : ArgH H a m v l) (rule : Int) (src : List Int) (c : Clm) (hc : c.ok) (hb : l.length < 1000000) {r n : Nat} {t : TypeId} (hr : H.get r = some (.row t 1 (src.map fun i => [iv i]))) (hn : n = src.length) {k : AV → AH → Prop}
    (hk : ∀ v' H', ArgH H' a m v' (putL l ⟨rule, c, src⟩) → H.nx ≤ H'.nx → (∀ j, j < H.nx → j ≠ r → j ≠ a → j ≠ m → (∀ n, v ≠ .osl j 5 0 n) → H'.get j = H.get j ∧ ∀ n, v' ≠ .osl j 5 0 n) → k (.tup []) H') : Ca Try.prog (.fn (.func 26) [] []) [.ptr a 0, .p (.int .i64 rule), .agg [.p (.bool c.so), .p (.int .i64 c.a), .p (.int .i64 c.b)], .osl r 1 0 n] k H := by
  subst hn
  have hd : DtR (src.map fun i => [iv i]) := fun e he x hx => by
    obtain ⟨i, _, rfl⟩ := List.mem_map.1 he
    simp only [List.mem_singleton] at hx
    subst hx; exact Dt.p _
  obtain ⟨f, hm, hf⟩ := h.map
  have hra : r ≠ a := fun e => by subst e; rw [h.box] at hr; cases hr
  have hrm : r ≠ m := fun e => by subst e; rw [hm] at hr; cases hr
  have hrv := h.row.not (j := r) (fun xs h => by rw [hr] at h; cases h)
  have h2 : ArgH (H.put r (.frz 1 (src.map fun i => [iv i]))) a m v l := ⟨h.la, h.lm, by rw [put_get_ne _ _ _ hra.symm]; exact h.box, h.row.same (Nat.le_refl _) (fun j _ ⟨n, hn⟩ => put_get_ne _ _ _ fun e => hrv n (e ▸ hn)), f, by rw [put_get_ne _ _ _ hrm.symm]; exact hm, hf⟩
  refine ca_of (by kernel_rfl) (Tri.st (.freeze hr hd) (Tri.args (.cons (Sub.refl _) (.cons (Sub.refl _) (.cons (Sub.refl _) (.cons ?_ .nil)))) (c_put h2 rule src c hc hb))) ?_
  · have := Sub.frz (P := Try.prog) (H := H.put r (.frz 1 (src.map fun i => [iv i]))) (r := r) (off := 0) (n := src.length) (put_get _ _) (by simp)
    rw [List.drop_zero, List.take_of_length_le (by simp)] at this
    exact this
  · rintro _ H' ⟨rfl, v', h3, h4, h5⟩
    exact hk v' H' h3 h4 fun j hj h6 h7 h8 h9 => by
      obtain ⟨q1, q2⟩ := h5 j hj h7 h8 h9
      exact ⟨by rw [q1, put_get_ne _ _ _ h6], q2⟩
theorem noun_at : ∀ n : Nat, n < 6 → nouns[2 * n]? = some ((n + 1 : Nat) : Int) ∧ nouns[2 * n + 1]? = some (-((n + 1 : Nat) : Int)) := by decide
theorem take_next {α : Type} {l : List α} {k : Nat} {x : α} (h : l[k]? = some x) : l.take (k + 1) = l.take k ++ [x] := by rw [List.take_add_one, h]; rfl
theorem wneg6 {n : Nat} (h : n < 6) : IntKind.i64.wrap (-((n : Int) + 1)) = -((n : Int) + 1) := by rw [IntKind.wrap_i64]; omega
theorem le6 {n : Nat} (h : n < 6) : (n : Int) + 1 ≤ 6 := by omega
theorem nle6 {n : Nat} (h : ¬ n < 6) : ¬ (n : Int) + 1 ≤ 6 := by omega
theorem noun2 {n j : Nat} (h : n < 6) (hj : j < 2) : ∃ b : Int, ([[iv ((n : Int) + 1)], [iv (-((n : Int) + 1))]] : List (List AV))[j]? = some [iv b] ∧ nouns[2 * n + j]? = some b ∧ litOk b := by
  obtain ⟨h1, h2⟩ := noun_at n h
  have : j = 0 ∨ j = 1 := by omega
  rcases this with rfl | rfl
  · exact ⟨_, rfl, h1, by unfold litOk; omega⟩
  · exact ⟨_, rfl, h2, by unfold litOk; omega⟩
theorem wn2 {n : Nat} (h : n < 6) : IntKind.i64.wrap ((n : Int) + 1 + 1) = (n : Int) + 1 + 1 := by rw [IntKind.wrap_i64]; omega
theorem two_of {j : Nat} (h : j ≤ 2) (k : ¬ j < 2) : j = 2 := by omega
theorem six_of {j : Nat} (h : j ≤ 6) (k : ¬ j < 6) : j = 6 := by omega
theorem c_one {H : AH} {a m : Nat} {v : AV} {l : List Lin} (h : ArgH H a m v l) {i : Nat} {x : Lin} (hx : l[i]? = some x) (hok : x.c.ok) (hb : l.length < 900000) :
    Tri Try.prog 27 [.ptr a 0, iv i] H (fun r H' => r = .tup [] ∧ ∃ v', ArgH H' a m v' (oneL l x.c i) ∧ Fr a m H v H' v') := tri_wf fun hw => tri_arguer_one (by
  have hil := (List.getElem?_eq_some_iff.1 hx).1
  obtain ⟨f, hm, hf⟩ := h.map
  have ha := h.la
  have hml := h.lm
  have hbx := h.box
  obtain ⟨r, xs, rfl, hr, hrow, hat⟩ := h.row.at_ (by rw [List.length_map]; omega)
  have hxi : xs[i]? = some x.cs := by rw [hat i (by rw [List.length_map]; omega), List.getElem?_map, hx]; rfl
  unfold S_arguer_one
  have hwa : IntKind.i64.wrap (-x.c.a) = -x.c.a := by have := hok.1; unfold litOk at this; rw [IntKind.wrap_i64]; omega
  have hwb : IntKind.i64.wrap (-x.c.b) = -x.c.b := by have := hok.2; unfold litOk at this; rw [IntKind.wrap_i64]; omega
  have hlen := putL_len l
  simp (disch := first | omega | simp) [iv, put_get_ne, hbx, hrow, hxi, hil, Lin.cs, hwa, hwb]
  have hfr : ∀ H1, H.nx ≤ H1.nx → (∀ j, j < H.nx → H1.get j = H.get j) → Fr a m H (.osl r 5 0 l.length) H1 (.osl r 5 0 l.length) := fun H1 => Fr.of
  rw [List.length_map] at h
  refine ⟨fun hso => ?_, fun hso => ?_⟩
  · refine ca_put (h.keep (by first | omega | (simp only [up_nx, put_nx, kill_nx]; done) | (simp only [up_nx, put_nx, kill_nx]; omega)) fun j hj => by simp (disch := first | omega | simp) [put_get_ne]) 7 [(i : Int)] ⟨true, x.c.b, x.c.a⟩ ⟨hok.2, hok.1⟩ (by omega) (put_get _ _) rfl fun v1 H1 h1 n1 k1 => ?_
    have n1' : H.nx + 19 ≤ H1.nx := by simp only [up_nx, put_nx] at n1; omega
    have hc1 : H1.get (H.nx + 8) = some (.box 24 x.c.cs) := by
      rw [(k1 _ (by first | omega | (simp only [up_nx, put_nx, kill_nx]; done) | (simp only [up_nx, put_nx, kill_nx]; omega)) (by omega) (by omega) (by omega) (fun n e => by injection e with e; omega)).1]
      simp (disch := first | omega | simp) [put_get_ne, Clm.cs]
    have f1 : Fr a m H (.osl r 5 0 l.length) H1 v1 := ⟨by omega, fun j hj q1 q2 q3 => by
      obtain ⟨e1, e2⟩ := k1 j (by first | omega | (simp only [up_nx, put_nx, kill_nx]; done) | (simp only [up_nx, put_nx, kill_nx]; omega)) (by omega) q1 q2 q3
      exact ⟨by rw [e1]; simp (disch := first | omega | simp) [put_get_ne], e2⟩⟩
    simp (disch := first | omega | simp) [hc1, Clm.cs]
    refine ca_put (h1.keep (by first | omega | (simp only [up_nx, put_nx, kill_nx]; done) | (simp only [up_nx, put_nx, kill_nx]; omega)) fun j hj => by simp (disch := first | omega | simp) [put_get_ne]) 8 [(i : Int)] ⟨true, x.c.a, x.c.a⟩ ⟨hok.1, hok.1⟩ (by have := hlen ⟨7, ⟨true, x.c.b, x.c.a⟩, [(i : Int)]⟩; omega) (put_get _ _) rfl fun v2 H2 h2 n2 k2 => ?_
    have n2' : H1.nx + 9 ≤ H2.nx := by simp only [up_nx, put_nx] at n2; omega
    have f2 : Fr a m H1 v1 H2 v2 := ⟨by omega, fun j hj q1 q2 q3 => by
      obtain ⟨e1, e2⟩ := k2 j (by first | omega | (simp only [up_nx, put_nx, kill_nx]; done) | (simp only [up_nx, put_nx, kill_nx]; omega)) (by omega) q1 q2 q3
      exact ⟨by rw [e1]; simp (disch := first | omega | simp) [put_get_ne], e2⟩⟩
    exact rt_refl ⟨rfl, v2, by rw [oneL, if_pos hso]; exact h2, f1.trans f2⟩ (by omega)
  · refine ca_put (h.keep (by first | omega | (simp only [up_nx, put_nx, kill_nx]; done) | (simp only [up_nx, put_nx, kill_nx]; omega)) fun j hj => by simp (disch := first | omega | simp) [put_get_ne]) 4 [(i : Int)] ⟨false, -x.c.b, -x.c.a⟩ ⟨lit_neg hok.2, lit_neg hok.1⟩ (by omega) (put_get _ _) rfl fun v1 H1 h1 n1 k1 => ?_
    have n1' : H.nx + 21 ≤ H1.nx := by simp only [up_nx, put_nx] at n1; omega
    have hc1 : H1.get (H.nx + 8) = some (.box 24 x.c.cs) := by
      rw [(k1 _ (by first | omega | (simp only [up_nx, put_nx, kill_nx]; done) | (simp only [up_nx, put_nx, kill_nx]; omega)) (by omega) (by omega) (by omega) (fun n e => by injection e with e; omega)).1]
      simp (disch := first | omega | simp) [put_get_ne, Clm.cs]
    have hv1 : ∀ n, v1 ≠ .osl (H.nx + 8) 5 0 n := (k1 _ (by first | omega | (simp only [up_nx, put_nx, kill_nx]; done) | (simp only [up_nx, put_nx, kill_nx]; omega)) (by omega) (by omega) (by omega) (fun n e => by injection e with e; omega)).2
    have f1 : Fr a m H (.osl r 5 0 l.length) H1 v1 := ⟨by omega, fun j hj q1 q2 q3 => by
      obtain ⟨e1, e2⟩ := k1 j (by first | omega | (simp only [up_nx, put_nx, kill_nx]; done) | (simp only [up_nx, put_nx, kill_nx]; omega)) (by omega) q1 q2 q3
      exact ⟨by rw [e1]; simp (disch := first | omega | simp) [put_get_ne], e2⟩⟩
    simp (disch := first | omega | simp) [hc1, Clm.cs, hwa]
    refine ⟨fun hne => ?_, fun heq => ?_⟩
    · exact rt_refl ⟨rfl, v1, by rw [oneL, if_neg (by simp [hso]), if_neg hne]; exact h1, f1⟩ (by omega)
    · have hl1 := hlen ⟨4, ⟨false, -x.c.b, -x.c.a⟩, [(i : Int)]⟩
      clear n1 k1 hfr hwa hwb
      generalize hL : putL l ⟨4, ⟨false, -x.c.b, -x.c.a⟩, [(i : Int)]⟩ = L at h1 hl1
      have hvl : ∀ q, (voidL x.c i L (nouns.take q)).length < 1000000 := fun q => by
        have := (voidL_len x.c i (nouns.take q) L).2
        have h12 : nouns.length = 12 := rfl
        rw [List.length_take] at this
        omega
      refine loop_st (fun q : Nat × AV => [iv ((q.1 + 1 : Nat) : Int)]) (fun q H' => q.1 ≤ 6 ∧ ArgH H' a m q.2 (voidL x.c i L (nouns.take (2 * q.1))) ∧ Fr a m H1 v1 H' q.2) (fun q => 6 - q.1) (0, v1) (.refl (Nat.le_refl _)) ⟨Nat.zero_le _, h1, .of (Nat.le_refl _) fun _ _ => rfl⟩ ?_
      rintro ⟨n, u⟩ H2 hn2 ⟨hn6, hA, hF⟩ k hk
      dsimp only at hn6 hA hF hk
      by_cases h6 : n < 6
      · obtain ⟨hna, hnb⟩ := noun_at n h6
        have hwn := wneg6 h6
        have h6' := le6 h6
        simp (disch := first | omega | simp) [iv, h6', hwn]
        clear hwn
        have hn3 := hA.row
        refine loop_st (fun q : Nat × AV => [iv (q.1 : Int)]) (fun q H' => q.1 ≤ 2 ∧ ArgH H' a m q.2 (voidL x.c i L (nouns.take (2 * n + q.1))) ∧ Fr a m ((H2.up 6).put (H2.nx + 3) (.row 3 1 [[iv ((n : Int) + 1)], [iv (-((n : Int) + 1))]])) u H' q.2) (fun q => 2 - q.1) (0, u) (.refl (by first | omega | (simp only [up_nx, put_nx, kill_nx]; done) | (simp only [up_nx, put_nx, kill_nx]; omega))) ⟨Nat.zero_le _, hA.keep (by first | omega | (simp only [up_nx, put_nx, kill_nx]; done) | (simp only [up_nx, put_nx, kill_nx]; omega)) fun j hj => by simp (disch := first | omega | simp) [put_get_ne], .of (Nat.le_refl _) fun _ _ => rfl⟩ ?_
        rintro ⟨j, u2⟩ H4 hn4 ⟨hj2, hA2, hF2⟩ k2 hk2
        dsimp only at hj2 hA2 hF2 hk2
        have hH3 : H2.nx + 6 ≤ H4.nx := by simp only [up_nx, put_nx] at hn4; omega
        have hu : ∀ q, H2.nx ≤ q → ∀ n, u ≠ .osl q 5 0 n := fun q hq n e => by have := hn3.lt e; omega
        have hla := hA.la
        have hlm := hA.lm
        have hh1 := hF.1
        have hrw : H4.get (H2.nx + 3) = some (.row 3 1 [[iv ((n : Int) + 1)], [iv (-((n : Int) + 1))]]) := by
          rw [(hF2.2 (H2.nx + 3) (by first | omega | (simp only [up_nx, put_nx, kill_nx]; done) | (simp only [up_nx, put_nx, kill_nx]; omega)) (by omega) (by omega) (hu _ (by omega))).1]; exact put_get _ _
        have hc2 := hF.2 (H.nx + 8) (by omega) (by omega) (by omega) hv1
        have hc4 : H4.get (H.nx + 8) = some (.box 24 x.c.cs) := by
          rw [(hF2.2 (H.nx + 8) (by first | omega | (simp only [up_nx, put_nx, kill_nx]; done) | (simp only [up_nx, put_nx, kill_nx]; omega)) (by omega) (by omega) hc2.2).1, put_get_ne _ _ _ (by omega), up_get, hc2.1, hc1]
        have f4 : Fr a m H1 v1 H4 u2 := (hF.trans (.of (H' := (H2.up 6).put (H2.nx + 3) (.row 3 1 [[iv ((n : Int) + 1)], [iv (-((n : Int) + 1))]])) (by first | omega | (simp only [up_nx, put_nx, kill_nx]; done) | (simp only [up_nx, put_nx, kill_nx]; omega)) fun j hj => by simp (disch := first | omega | simp) [put_get_ne])).trans hF2
        by_cases hjj : j < 2
        · obtain ⟨b, hb1, hb2, hbok⟩ := noun2 h6 hjj
          have hj3 : (j : Int) < 2 := by omega
          generalize ([[iv ((n : Int) + 1)], [iv (-((n : Int) + 1))]] : List (List AV)) = ys at hrw hb1
          have hyl : 0 ≤ (j : Int) := by omega
          simp (disch := first | omega | simp) [iv, hj3, hrw, hb1, hc4, Clm.cs]
          refine ca_put (hA2.keep (by first | omega | (simp only [up_nx, put_nx, kill_nx]; done) | (simp only [up_nx, put_nx, kill_nx]; omega)) fun j hj => by simp (disch := first | omega | simp) [put_get_ne]) 5 [(i : Int)] ⟨false, x.c.a, b⟩ ⟨hok.1, hbok⟩ (hvl _) (put_get _ _) rfl fun v5 H5 h5 n5 k5 => ?_
          have n5' : H4.nx + 8 ≤ H5.nx := by simp only [up_nx, put_nx] at n5; omega
          have hij := ivn (i := j) (by omega)
          have f5 : Fr a m H4 u2 H5 v5 := ⟨by omega, fun j hj q1 q2 q3 => by
            obtain ⟨e1, e2⟩ := k5 j (by first | omega | (simp only [up_nx, put_nx, kill_nx]; done) | (simp only [up_nx, put_nx, kill_nx]; omega)) (by omega) q1 q2 q3
            exact ⟨by rw [e1]; simp (disch := first | omega | simp) [put_get_ne], e2⟩⟩
          simp [hij]
          refine hk2 (j + 1, v5) _ _ _ (.refl (by first | omega | (simp only [up_nx, put_nx, kill_nx]; done) | (simp only [up_nx, put_nx, kill_nx]; omega))) ⟨hjj, ?_, hF2.trans f5⟩ (by simp only; omega)
          rw [← Nat.add_assoc, take_next hb2, voidL_snoc]
          exact h5
        · have hj3 : ¬ (j : Int) < 2 := by omega
          have hj2 := two_of hj2 hjj
          subst hj2
          have hij : IntKind.i64.wrap ((n : Int) + 1 + 1) = (n : Int) + 1 + 1 := wn2 h6
          simp (disch := first | omega | simp) [iv, hj3, hij]
          exact hk (n + 1, u2) _ _ _ (.refl (Nat.le_trans hh1 (by omega))) ⟨h6, hA2, f4⟩ (by simp only; omega)
      · have h6' := nle6 h6
        have hn6' := six_of hn6 h6
        subst hn6'
        simp (disch := first | omega | simp) [iv, h6']
        have h12 : nouns.take (2 * 6) = nouns := rfl
        rw [h12] at hA
        refine rt_refl ⟨rfl, u, ?_, f1.trans hF⟩ (Nat.le_trans f1.1 hF.1)
        rw [oneL, if_neg (by simp [hso]), if_pos heq, hL]
        exact hA)
end Go.Proofs.Ytcmnjoepadjioaa
