/- Texts that the proof rests on, part 4: what each holds stands at its head. -/
import Derived.Test.YtcmnjoepadjioaaMa3

/- What comes of one line, and of two. -/
namespace Go.Proofs.Ytcmnjoepadjioaa
open Go.RowKit Go.Maps
theorem putL_old {l : List Lin} {x : Lin} {i : Nat} (h : idxC l x.c = some i) : putL l x = l := by unfold putL; rw [h]; rfl
theorem putL_new {l : List Lin} {x : Lin} (h : idxC l x.c = none) : putL l x = l ++ [x] := by unfold putL; rw [h]; rfl
theorem putL_len (l : List Lin) (x : Lin) : l.length ≤ (putL l x).length ∧ (putL l x).length ≤ l.length + 1 := by
  cases h : idxC l x.c with
  | none => rw [putL_new h, List.length_append]; simp
  | some i => rw [putL_old h]; omega
def voidL (c : Clm) (i : Int) (l : List Lin) (ns : List Int) : List Lin := ns.foldl (fun l n => putL l ⟨5, ⟨false, c.a, n⟩, [i]⟩) l
def nouns : List Int := [1, -1, 2, -2, 3, -3, 4, -4, 5, -5, 6, -6]
def oneL (l : List Lin) (c : Clm) (i : Int) : List Lin :=
  if c.so then putL (putL l ⟨7, ⟨true, c.b, c.a⟩, [i]⟩) ⟨8, ⟨true, c.a, c.a⟩, [i]⟩
  else if c.b = -c.a then voidL c i (putL l ⟨4, ⟨false, -c.b, -c.a⟩, [i]⟩) nouns
  else putL l ⟨4, ⟨false, -c.b, -c.a⟩, [i]⟩
theorem voidL_len (c : Clm) (i : Int) : ∀ (ns : List Int) (l : List Lin), l.length ≤ (voidL c i l ns).length ∧ (voidL c i l ns).length ≤ l.length + ns.length
  | [], l => by unfold voidL; simp
  | n :: r, l => by
    have h1 := putL_len l ⟨5, ⟨false, c.a, n⟩, [i]⟩
    have h2 := voidL_len c i r (putL l ⟨5, ⟨false, c.a, n⟩, [i]⟩)
    unfold voidL at h2 ⊢
    rw [List.foldl_cons, List.length_cons]
    omega
theorem voidL_snoc (c : Clm) (i : Int) (l : List Lin) (ns : List Int) (n : Int) : voidL c i l (ns ++ [n]) = putL (voidL c i l ns) ⟨5, ⟨false, c.a, n⟩, [i]⟩ := by unfold voidL; rw [List.foldl_append]; rfl
/-- put is called with a row laid for it -/
theorem ca_put {H : AH} {a m : Nat} {v : AV} {l : List Lin} (h : ArgH H a m v l) (rule : Int) (src : List Int) (c : Clm) (hc : c.ok) (hb : l.length < 1000000) {r n : Nat} {t : TypeId} (hr : H.get r = some (.row t 1 (src.map fun i => [iv i]))) (hn : n = src.length) {k : AV → AH → Prop}
    (hk : ∀ v' H', ArgH H' a m v' (putL l ⟨rule, c, src⟩) → H.nx ≤ H'.nx → (∀ j, j < H.nx → j ≠ r → j ≠ a → j ≠ m → (∀ n, v ≠ .osl j 5 0 n) → H'.get j = H.get j ∧ ∀ n, v' ≠ .osl j 5 0 n) → k (.tup []) H') : Ca Try.prog (.fn (.func 26) [] []) [.ptr a 0, .p (.int .i64 rule), .agg [.p (.bool c.so), .p (.int .i64 c.a), .p (.int .i64 c.b)], .osl r 1 0 n] k H := by
  subst hn
  have hd : DtR (src.map fun i => [iv i]) := fun e he x hx => by
    obtain ⟨i, _, rfl⟩ := List.mem_map.1 he
    simp only [List.mem_singleton] at hx
    subst hx; exact Dt.p _
  obtain ⟨f, hm, hf⟩ := h.map
  have hra : r ≠ a := fun e => by subst e; rw [h.box] at hr; cases hr
  have hrm : r ≠ m := fun e => by subst e; rw [hm] at hr; cases hr
  have hrv := h.row.not (j := r) (fun xs h => by rw [hr] at h; cases h)
  have h2 : ArgH (H.put r (.frz 1 (src.map fun i => [iv i]))) a m v l := ⟨h.la, h.lm, by rw [put_get_ne _ _ _ hra.symm]; exact h.box, h.row.same (Nat.le_refl _) (fun j _ ⟨n, hn⟩ => put_get_ne _ _ _ fun e => hrv n (e ▸ hn)), f, by rw [put_get_ne _ _ _ hrm.symm]; exact hm, hf⟩
  refine ca_of (by kernel_rfl) (Tri.st (.freeze hr hd) (Tri.args (.cons (Sub.refl _) (.cons (Sub.refl _) (.cons (Sub.refl _) (.cons ?_ .nil)))) (c_put h2 rule src c hc hb))) ?_
  · have := Sub.frz (P := Try.prog) (H := H.put r (.frz 1 (src.map fun i => [iv i]))) (r := r) (off := 0) (n := src.length) (put_get _ _) (by simp)
    rw [List.drop_zero, List.take_of_length_le (by simp)] at this
    exact this
  · rintro _ H' ⟨rfl, v', h3, h4, h5⟩
    exact hk v' H' h3 h4 fun j hj h6 h7 h8 h9 => by
      obtain ⟨q1, q2⟩ := h5 j hj h7 h8 h9
      exact ⟨by rw [q1, put_get_ne _ _ _ h6], q2⟩
theorem noun_at : ∀ n : Nat, n < 6 → nouns[2 * n]? = some ((n + 1 : Nat) : Int) ∧ nouns[2 * n + 1]? = some (-((n + 1 : Nat) : Int)) := by decide
theorem take_next {α : Type} {l : List α} {k : Nat} {x : α} (h : l[k]? = some x) : l.take (k + 1) = l.take k ++ [x] := by rw [List.take_add_one, h]; rfl
theorem wneg6 {n : Nat} (h : n < 6) : IntKind.i64.wrap (-((n : Int) + 1)) = -((n : Int) + 1) := by rw [IntKind.wrap_i64]; omega
theorem le6 {n : Nat} (h : n < 6) : (n : Int) + 1 ≤ 6 := by omega
theorem nle6 {n : Nat} (h : ¬ n < 6) : ¬ (n : Int) + 1 ≤ 6 := by omega
theorem noun2 {n j : Nat} (h : n < 6) (hj : j < 2) : ∃ b : Int, ([[iv ((n : Int) + 1)], [iv (-((n : Int) + 1))]] : List (List AV))[j]? = some [iv b] ∧ nouns[2 * n + j]? = some b ∧ litOk b := by
  obtain ⟨h1, h2⟩ := noun_at n h
  have : j = 0 ∨ j = 1 := by omega
  rcases this with rfl | rfl
  · exact ⟨_, rfl, h1, by unfold litOk; omega⟩
  · exact ⟨_, rfl, h2, by unfold litOk; omega⟩
theorem wn2 {n : Nat} (h : n < 6) : IntKind.i64.wrap ((n : Int) + 1 + 1) = (n : Int) + 1 + 1 := by rw [IntKind.wrap_i64]; omega
theorem two_of {j : Nat} (h : j ≤ 2) (k : ¬ j < 2) : j = 2 := by omega
theorem six_of {j : Nat} (h : j ≤ 6) (k : ¬ j < 6) : j = 6 := by omega
theorem c_one {H : AH} {a m : Nat} {v : AV} {l : List Lin} (h : ArgH H a m v l) {i : Nat} {x : Lin} (hx : l[i]? = some x) (hok : x.c.ok) (hb : l.length < 900000) :
    Tri Try.prog 27 [.ptr a 0, iv i] H (fun r H' => r = .tup [] ∧ ∃ v', ArgH H' a m v' (oneL l x.c i) ∧ Fr a m H v H' v') := tri_wf fun hw => tri_arguer_one (by
  have hil := (List.getElem?_eq_some_iff.1 hx).1
  obtain ⟨f, hm, hf⟩ := h.map
  have ha := h.la
  have hml := h.lm
  have hbx := h.box
  obtain ⟨r, xs, rfl, hr, hrow, hat⟩ := h.row.at_ (by rw [List.length_map]; omega)
  have hxi : xs[i]? = some x.cs := by rw [hat i (by rw [List.length_map]; omega), List.getElem?_map, hx]; rfl
  unfold S_arguer_one
  have hwa : IntKind.i64.wrap (-x.c.a) = -x.c.a := by have := hok.1; unfold litOk at this; rw [IntKind.wrap_i64]; omega
  have hwb : IntKind.i64.wrap (-x.c.b) = -x.c.b := by have := hok.2; unfold litOk at this; rw [IntKind.wrap_i64]; omega
  have hlen := putL_len l
  simp (disch := first | omega | simp) [iv, put_get_ne, hbx, hrow, hxi, hil, Lin.cs, hwa, hwb]
  have hfr : ∀ H1, H.nx ≤ H1.nx → (∀ j, j < H.nx → H1.get j = H.get j) → Fr a m H (.osl r 5 0 l.length) H1 (.osl r 5 0 l.length) := fun H1 => Fr.of
  rw [List.length_map] at h
  refine ⟨fun hso => ?_, fun hso => ?_⟩
  · refine ca_put (h.keep (by first | omega | (simp only [up_nx, put_nx, kill_nx]; done) | (simp only [up_nx, put_nx, kill_nx]; omega)) fun j hj => by simp (disch := first | omega | simp) [put_get_ne]) 7 [(i : Int)] ⟨true, x.c.b, x.c.a⟩ ⟨hok.2, hok.1⟩ (by omega) (put_get _ _) rfl fun v1 H1 h1 n1 k1 => ?_
    have n1' : H.nx + 19 ≤ H1.nx := by simp only [up_nx, put_nx] at n1; omega
    have hc1 : H1.get (H.nx + 8) = some (.box 24 x.c.cs) := by
      rw [(k1 _ (by first | omega | (simp only [up_nx, put_nx, kill_nx]; done) | (simp only [up_nx, put_nx, kill_nx]; omega)) (by omega) (by omega) (by omega) (fun n e => by injection e with e; omega)).1]
      simp (disch := first | omega | simp) [put_get_ne, Clm.cs]
    have f1 : Fr a m H (.osl r 5 0 l.length) H1 v1 := ⟨by omega, fun j hj q1 q2 q3 => by
      obtain ⟨e1, e2⟩ := k1 j (by first | omega | (simp only [up_nx, put_nx, kill_nx]; done) | (simp only [up_nx, put_nx, kill_nx]; omega)) (by omega) q1 q2 q3
      exact ⟨by rw [e1]; simp (disch := first | omega | simp) [put_get_ne], e2⟩⟩
    simp (disch := first | omega | simp) [hc1, Clm.cs]
    refine ca_put (h1.keep (by first | omega | (simp only [up_nx, put_nx, kill_nx]; done) | (simp only [up_nx, put_nx, kill_nx]; omega)) fun j hj => by simp (disch := first | omega | simp) [put_get_ne]) 8 [(i : Int)] ⟨true, x.c.a, x.c.a⟩ ⟨hok.1, hok.1⟩ (by have := hlen ⟨7, ⟨true, x.c.b, x.c.a⟩, [(i : Int)]⟩; omega) (put_get _ _) rfl fun v2 H2 h2 n2 k2 => ?_
    have n2' : H1.nx + 9 ≤ H2.nx := by simp only [up_nx, put_nx] at n2; omega
    have f2 : Fr a m H1 v1 H2 v2 := ⟨by omega, fun j hj q1 q2 q3 => by
      obtain ⟨e1, e2⟩ := k2 j (by first | omega | (simp only [up_nx, put_nx, kill_nx]; done) | (simp only [up_nx, put_nx, kill_nx]; omega)) (by omega) q1 q2 q3
      exact ⟨by rw [e1]; simp (disch := first | omega | simp) [put_get_ne], e2⟩⟩
    exact rt_refl ⟨rfl, v2, by rw [oneL, if_pos hso]; exact h2, f1.trans f2⟩ (by omega)
  · refine ca_put (h.keep (by first | omega | (simp only [up_nx, put_nx, kill_nx]; done) | (simp only [up_nx, put_nx, kill_nx]; omega)) fun j hj => by simp (disch := first | omega | simp) [put_get_ne]) 4 [(i : Int)] ⟨false, -x.c.b, -x.c.a⟩ ⟨lit_neg hok.2, lit_neg hok.1⟩ (by omega) (put_get _ _) rfl fun v1 H1 h1 n1 k1 => ?_
    have n1' : H.nx + 21 ≤ H1.nx := by simp only [up_nx, put_nx] at n1; omega
    have hc1 : H1.get (H.nx + 8) = some (.box 24 x.c.cs) := by
      rw [(k1 _ (by first | omega | (simp only [up_nx, put_nx, kill_nx]; done) | (simp only [up_nx, put_nx, kill_nx]; omega)) (by omega) (by omega) (by omega) (fun n e => by injection e with e; omega)).1]
      simp (disch := first | omega | simp) [put_get_ne, Clm.cs]
    have hv1 : ∀ n, v1 ≠ .osl (H.nx + 8) 5 0 n := (k1 _ (by first | omega | (simp only [up_nx, put_nx, kill_nx]; done) | (simp only [up_nx, put_nx, kill_nx]; omega)) (by omega) (by omega) (by omega) (fun n e => by injection e with e; omega)).2
    have f1 : Fr a m H (.osl r 5 0 l.length) H1 v1 := ⟨by omega, fun j hj q1 q2 q3 => by
      obtain ⟨e1, e2⟩ := k1 j (by first | omega | (simp only [up_nx, put_nx, kill_nx]; done) | (simp only [up_nx, put_nx, kill_nx]; omega)) (by omega) q1 q2 q3
      exact ⟨by rw [e1]; simp (disch := first | omega | simp) [put_get_ne], e2⟩⟩
    simp (disch := first | omega | simp) [hc1, Clm.cs, hwa]
    refine ⟨fun hne => ?_, fun heq => ?_⟩
    · exact rt_refl ⟨rfl, v1, by rw [oneL, if_neg (by simp [hso]), if_neg hne]; exact h1, f1⟩ (by omega)
    · have hl1 := hlen ⟨4, ⟨false, -x.c.b, -x.c.a⟩, [(i : Int)]⟩
      clear n1 k1 hfr hwa hwb
      generalize hL : putL l ⟨4, ⟨false, -x.c.b, -x.c.a⟩, [(i : Int)]⟩ = L at h1 hl1
      have hvl : ∀ q, (voidL x.c i L (nouns.take q)).length < 1000000 := fun q => by
        have := (voidL_len x.c i (nouns.take q) L).2
        have h12 : nouns.length = 12 := rfl
        rw [List.length_take] at this
        omega
      refine loop_st (fun q : Nat × AV => [iv ((q.1 + 1 : Nat) : Int)]) (fun q H' => q.1 ≤ 6 ∧ ArgH H' a m q.2 (voidL x.c i L (nouns.take (2 * q.1))) ∧ Fr a m H1 v1 H' q.2) (fun q => 6 - q.1) (0, v1) (.refl (Nat.le_refl _)) ⟨Nat.zero_le _, h1, .of (Nat.le_refl _) fun _ _ => rfl⟩ ?_
      rintro ⟨n, u⟩ H2 hn2 ⟨hn6, hA, hF⟩ k hk
      dsimp only at hn6 hA hF hk
      by_cases h6 : n < 6
      · obtain ⟨hna, hnb⟩ := noun_at n h6
        have hwn := wneg6 h6
        have h6' := le6 h6
        simp (disch := first | omega | simp) [iv, h6', hwn]
        clear hwn
        have hn3 := hA.row
        refine loop_st (fun q : Nat × AV => [iv (q.1 : Int)]) (fun q H' => q.1 ≤ 2 ∧ ArgH H' a m q.2 (voidL x.c i L (nouns.take (2 * n + q.1))) ∧ Fr a m ((H2.up 6).put (H2.nx + 3) (.row 3 1 [[iv ((n : Int) + 1)], [iv (-((n : Int) + 1))]])) u H' q.2) (fun q => 2 - q.1) (0, u) (.refl (by first | omega | (simp only [up_nx, put_nx, kill_nx]; done) | (simp only [up_nx, put_nx, kill_nx]; omega))) ⟨Nat.zero_le _, hA.keep (by first | omega | (simp only [up_nx, put_nx, kill_nx]; done) | (simp only [up_nx, put_nx, kill_nx]; omega)) fun j hj => by simp (disch := first | omega | simp) [put_get_ne], .of (Nat.le_refl _) fun _ _ => rfl⟩ ?_
        rintro ⟨j, u2⟩ H4 hn4 ⟨hj2, hA2, hF2⟩ k2 hk2
        dsimp only at hj2 hA2 hF2 hk2
        have hH3 : H2.nx + 6 ≤ H4.nx := by simp only [up_nx, put_nx] at hn4; omega
        have hu : ∀ q, H2.nx ≤ q → ∀ n, u ≠ .osl q 5 0 n := fun q hq n e => by have := hn3.lt e; omega
        have hla := hA.la
        have hlm := hA.lm
        have hh1 := hF.1
        have hrw : H4.get (H2.nx + 3) = some (.row 3 1 [[iv ((n : Int) + 1)], [iv (-((n : Int) + 1))]]) := by
          rw [(hF2.2 (H2.nx + 3) (by first | omega | (simp only [up_nx, put_nx, kill_nx]; done) | (simp only [up_nx, put_nx, kill_nx]; omega)) (by omega) (by omega) (hu _ (by omega))).1]; exact put_get _ _
        have hc2 := hF.2 (H.nx + 8) (by omega) (by omega) (by omega) hv1
        have hc4 : H4.get (H.nx + 8) = some (.box 24 x.c.cs) := by
          rw [(hF2.2 (H.nx + 8) (by first | omega | (simp only [up_nx, put_nx, kill_nx]; done) | (simp only [up_nx, put_nx, kill_nx]; omega)) (by omega) (by omega) hc2.2).1, put_get_ne _ _ _ (by omega), up_get, hc2.1, hc1]
        have f4 : Fr a m H1 v1 H4 u2 := (hF.trans (.of (H' := (H2.up 6).put (H2.nx + 3) (.row 3 1 [[iv ((n : Int) + 1)], [iv (-((n : Int) + 1))]])) (by first | omega | (simp only [up_nx, put_nx, kill_nx]; done) | (simp only [up_nx, put_nx, kill_nx]; omega)) fun j hj => by simp (disch := first | omega | simp) [put_get_ne])).trans hF2
        by_cases hjj : j < 2
        · obtain ⟨b, hb1, hb2, hbok⟩ := noun2 h6 hjj
          have hj3 : (j : Int) < 2 := by omega
          generalize ([[iv ((n : Int) + 1)], [iv (-((n : Int) + 1))]] : List (List AV)) = ys at hrw hb1
          have hyl : 0 ≤ (j : Int) := by omega
          simp (disch := first | omega | simp) [iv, hj3, hrw, hb1, hc4, Clm.cs]
          refine ca_put (hA2.keep (by first | omega | (simp only [up_nx, put_nx, kill_nx]; done) | (simp only [up_nx, put_nx, kill_nx]; omega)) fun j hj => by simp (disch := first | omega | simp) [put_get_ne]) 5 [(i : Int)] ⟨false, x.c.a, b⟩ ⟨hok.1, hbok⟩ (hvl _) (put_get _ _) rfl fun v5 H5 h5 n5 k5 => ?_
          have n5' : H4.nx + 8 ≤ H5.nx := by simp only [up_nx, put_nx] at n5; omega
          have hij := ivn (i := j) (by omega)
          have f5 : Fr a m H4 u2 H5 v5 := ⟨by omega, fun j hj q1 q2 q3 => by
            obtain ⟨e1, e2⟩ := k5 j (by first | omega | (simp only [up_nx, put_nx, kill_nx]; done) | (simp only [up_nx, put_nx, kill_nx]; omega)) (by omega) q1 q2 q3
            exact ⟨by rw [e1]; simp (disch := first | omega | simp) [put_get_ne], e2⟩⟩
          simp [hij]
          refine hk2 (j + 1, v5) _ _ _ (.refl (by first | omega | (simp only [up_nx, put_nx, kill_nx]; done) | (simp only [up_nx, put_nx, kill_nx]; omega))) ⟨hjj, ?_, hF2.trans f5⟩ (by simp only; omega)
          rw [← Nat.add_assoc, take_next hb2, voidL_snoc]
          exact h5
        · have hj3 : ¬ (j : Int) < 2 := by omega
          have hj2 := two_of hj2 hjj
          subst hj2
          have hij : IntKind.i64.wrap ((n : Int) + 1 + 1) = (n : Int) + 1 + 1 := wn2 h6
          simp (disch := first | omega | simp) [iv, hj3, hij]
          exact hk (n + 1, u2) _ _ _ (.refl (Nat.le_trans hh1 (by omega))) ⟨h6, hA2, f4⟩ (by simp only; omega)
      · have h6' := nle6 h6
        have hn6' := six_of hn6 h6
        subst hn6'
        simp (disch := first | omega | simp) [iv, h6']
        have h12 : nouns.take (2 * 6) = nouns := rfl
        rw [h12] at hA
        refine rt_refl ⟨rfl, u, ?_, f1.trans hF⟩ (Nat.le_trans f1.1 hF.1)
        rw [oneL, if_neg (by simp [hso]), if_pos heq, hL]
        exact hA)
end Go.Proofs.Ytcmnjoepadjioaa

/- What comes of two lines; the clash. -/
namespace Go.Proofs.Ytcmnjoepadjioaa
open Go.RowKit Go.Maps
def twoL (l : List Lin) (c d : Clm) (i k : Int) : List Lin :=
  if d.so then l else if c.b = d.a then putL l ⟨if c.so then 9 else 3, ⟨c.so, c.a, d.b⟩, [i, k]⟩ else l
theorem c_two {H : AH} {a m : Nat} {v : AV} {l : List Lin} (h : ArgH H a m v l) {i k : Nat} {x y : Lin} (hx : l[i]? = some x) (hy : l[k]? = some y) (hok : x.c.ok) (hok2 : y.c.ok) (hb : l.length < 900000) :
    Tri Try.prog 28 [.ptr a 0, iv i, iv k] H (fun r H' => r = .tup [] ∧ ∃ v', ArgH H' a m v' (twoL l x.c y.c i k) ∧ Fr a m H v H' v') := tri_wf fun hw => tri_arguer_two (by
  have hil := (List.getElem?_eq_some_iff.1 hx).1
  have hkl := (List.getElem?_eq_some_iff.1 hy).1
  obtain ⟨f, hm, hf⟩ := h.map
  have ha := h.la
  have hml := h.lm
  have hbx := h.box
  obtain ⟨r, xs, rfl, hr, hrow, hat⟩ := h.row.at_ (by rw [List.length_map]; omega)
  have hxi : xs[i]? = some x.cs := by rw [hat i (by rw [List.length_map]; omega), List.getElem?_map, hx]; rfl
  have hyi : xs[k]? = some y.cs := by rw [hat k (by rw [List.length_map]; omega), List.getElem?_map, hy]; rfl
  have hn1 := wf_none hw (i := H.nx + 16) (by omega)
  have hn2 := wf_none hw (i := H.nx + 17) (by omega)
  unfold S_arguer_two
  rw [List.length_map] at h
  cases hyso : y.c.so <;> cases hxso : x.c.so <;> cases heq : decide (x.c.b = y.c.a) <;> simp (disch := first | omega | simp) [iv, put_get_ne, hbx, hrow, hxi, hyi, hil, hkl, Lin.cs, hn1, hn2, hyso, hxso, heq]
  all_goals simp only [decide_eq_true_eq, decide_eq_false_iff_not] at heq
  all_goals first
    | (refine rt_refl ⟨rfl, _, ?_, .of (by first | omega | (simp only [up_nx, put_nx, kill_nx]; done) | (simp only [up_nx, put_nx, kill_nx]; omega)) fun j hj => by simp (disch := first | omega | simp) [put_get_ne]⟩ (by first | omega | (simp only [up_nx, put_nx, kill_nx]; done) | (simp only [up_nx, put_nx, kill_nx]; omega))
       rw [show twoL l x.c y.c i k = l by unfold twoL; simp [hyso, heq]]
       exact h.keep (by first | omega | (simp only [up_nx, put_nx, kill_nx]; done) | (simp only [up_nx, put_nx, kill_nx]; omega)) fun j hj => by simp (disch := first | omega | simp) [put_get_ne])
    | (refine ca_put (h.keep (by first | omega | (simp only [up_nx, put_nx, kill_nx]; done) | (simp only [up_nx, put_nx, kill_nx]; omega)) fun j hj => by simp (disch := first | omega | simp) [put_get_ne]) _ [(i : Int), (k : Int)] ⟨_, x.c.a, y.c.b⟩ ⟨hok.1, hok2.2⟩ (by omega) (put_get _ _) rfl fun v1 H1 h1 n1 k1 => ?_
       have n1' : H.nx ≤ H1.nx := by simp only [up_nx, put_nx] at n1; omega
       refine rt_refl ⟨rfl, v1, ?_, n1', fun j hj q1 q2 q3 => ?_⟩ n1'
       · rw [show twoL l x.c y.c i k = putL l ⟨if x.c.so then 9 else 3, ⟨x.c.so, x.c.a, y.c.b⟩, [(i : Int), (k : Int)]⟩ by unfold twoL; simp [hyso, heq], hxso]
         exact h1
       · obtain ⟨e1, e2⟩ := k1 j (by first | omega | (simp only [up_nx, put_nx, kill_nx]; done) | (simp only [up_nx, put_nx, kill_nx]; omega)) (by omega) q1 q2 q3
         exact ⟨by rw [e1]; simp (disch := first | omega | simp) [put_get_ne], e2⟩))
def opp (c : Clm) : Clm := ⟨true, c.a, -c.b⟩
theorem c_clash {H : AH} {a m : Nat} {v : AV} {l : List Lin} (h : ArgH H a m v l) (hok : ∀ x ∈ l, x.c.ok) (hb : l.length < 900000) :
    Tri Try.prog 30 [.ptr a 0] H (fun r H' => H' = H ∧ ((∃ (i k : Nat) (x : Lin), l[i]? = some x ∧ x.c.so = false ∧ idxC l (opp x.c) = some k ∧ r = .tup [iv i, iv k, bv true]) ∨ (∀ x ∈ l, x.c.so = false → idxC l (opp x.c) = none) ∧ r = .tup [iv 0, iv 0, bv false])) := tri_wf fun hw => tri_arguer_clash (by
  obtain ⟨f, hm, hf⟩ := h.map
  have ha := h.la
  have hml := h.lm
  have hbx := h.box
  unfold S_arguer_clash
  simp (disch := first | omega | simp) [iv, put_get_ne, hbx, h.row.len]
  refine loop_st (fun i : Nat => [iv i]) (fun i H' => H.le H' ∧ H.nx ≤ H'.nx ∧ i ≤ l.length ∧ ∀ y ∈ l.take i, (!y.c.so && (idxC l (opp y.c)).isSome) = false) (fun i => l.length - i) 0 (.refl (Nat.le_refl _)) ⟨.refl _, Nat.le_refl _, Nat.zero_le _, by simp⟩ ?_
  rintro i H1 hn1 ⟨hle, hn, hi, hno⟩ k hk
  by_cases hi2 : i < l.length
  · obtain ⟨x, hg⟩ : ∃ x, l[i]? = some x := ⟨_, List.getElem?_eq_getElem hi2⟩
    have hokx := hok _ (List.mem_of_getElem? hg)
    obtain ⟨r, xs, rfl, hr, hrow, hat⟩ := h.row.at_ (by rw [List.length_map]; omega)
    have hxi : xs[i]? = some x.cs := by rw [hat i (by rw [List.length_map]; omega), List.getElem?_map, hg]; rfl
    have hr1 := hle _ _ hrow
    have hb1 := hle _ _ hbx
    have hm1 := hle _ _ hm
    have hneg : IntKind.i64.wrap (-x.c.b) = -x.c.b := by have := hokx.2; unfold litOk at this; rw [IntKind.wrap_i64]; omega
    have hok2 : (opp x.c).ok := ⟨hokx.1, lit_neg hokx.2⟩
    have hfits : (keyOf Try.prog 24 (cv (opp x.c))).isSome = true := keyClm hok2
    have hfc := hf (opp x.c)
    have hiv := ivn (i := i) (by omega)
    have next : (!x.c.so && (idxC l (opp x.c)).isSome) = false → ∀ H', H.le H' → H1.nx ≤ H'.nx → k [iv ((i + 1 : Nat) : Int)] H' := fun hq H' h1 h2 => hk (i + 1) _ _ _ (.refl (by omega)) ⟨h1, by omega, hi2, any_take hno hg hq⟩ (by omega)
    unfold cv opp at hfits hfc
    cases hso : x.c.so <;> cases hq : idxC l (opp x.c) <;> (have hq' := hq; unfold opp at hq'; rw [hq'] at hfc; simp (disch := first | omega | simp) [iv, hi2, put_get_ne, hr1, hb1, hm1, hxi, Lin.cs, hneg, lawClm, hfits, hso, hfc, hiv])
    · exact next (by rw [hq]; simp) _ (by repeat (first | with_reducible assumption | with_reducible exact AH.le.refl _ | with_reducible apply AH.le.up | (with_reducible refine AH.le.put hw ?_ ?_; · first | omega | (simp only [up_nx, put_nx, kill_nx]; done) | (simp only [up_nx, put_nx, kill_nx]; omega)) | (with_reducible refine AH.le.kill hw ?_ ?_; · first | omega | (simp only [up_nx, put_nx, kill_nx]; done) | (simp only [up_nx, put_nx, kill_nx]; omega)))) (by first | omega | (simp only [up_nx, put_nx, kill_nx]; done) | (simp only [up_nx, put_nx, kill_nx]; omega))
    · exact rt_tup hw (by repeat (first | with_reducible assumption | with_reducible exact AH.le.refl _ | with_reducible apply AH.le.up | (with_reducible refine AH.le.put hw ?_ ?_; · first | omega | (simp only [up_nx, put_nx, kill_nx]; done) | (simp only [up_nx, put_nx, kill_nx]; omega)) | (with_reducible refine AH.le.kill hw ?_ ?_; · first | omega | (simp only [up_nx, put_nx, kill_nx]; done) | (simp only [up_nx, put_nx, kill_nx]; omega)))) (by repeat (first | exact Cl.p _ | exact Cl.dsl _ _ | exact Cl.any | refine Cl.tup ?_ | refine Cl.agg ?_ | exact Clo.nil | refine Clo.cons ?_ ?_)) ⟨rfl, .inl ⟨i, _, x, hg, hso, hq, rfl⟩⟩
    · exact next (by simp [hso]) _ (by repeat (first | with_reducible assumption | with_reducible exact AH.le.refl _ | with_reducible apply AH.le.up | (with_reducible refine AH.le.put hw ?_ ?_; · first | omega | (simp only [up_nx, put_nx, kill_nx]; done) | (simp only [up_nx, put_nx, kill_nx]; omega)) | (with_reducible refine AH.le.kill hw ?_ ?_; · first | omega | (simp only [up_nx, put_nx, kill_nx]; done) | (simp only [up_nx, put_nx, kill_nx]; omega)))) (by first | omega | (simp only [up_nx, put_nx, kill_nx]; done) | (simp only [up_nx, put_nx, kill_nx]; omega))
    · exact next (by simp [hso]) _ (by repeat (first | with_reducible assumption | with_reducible exact AH.le.refl _ | with_reducible apply AH.le.up | (with_reducible refine AH.le.put hw ?_ ?_; · first | omega | (simp only [up_nx, put_nx, kill_nx]; done) | (simp only [up_nx, put_nx, kill_nx]; omega)) | (with_reducible refine AH.le.kill hw ?_ ?_; · first | omega | (simp only [up_nx, put_nx, kill_nx]; done) | (simp only [up_nx, put_nx, kill_nx]; omega)))) (by first | omega | (simp only [up_nx, put_nx, kill_nx]; done) | (simp only [up_nx, put_nx, kill_nx]; omega))
  · simp [iv, hi2]
    rw [List.take_of_length_le (by omega)] at hno
    refine rt_tup hw hle (by repeat (first | exact Cl.p _ | exact Cl.dsl _ _ | exact Cl.any | refine Cl.tup ?_ | refine Cl.agg ?_ | exact Clo.nil | refine Clo.cons ?_ ?_)) ⟨rfl, .inr ⟨fun x hx hso => ?_, rfl⟩⟩
    have := hno x hx
    rw [hso] at this
    simpa using this)
end Go.Proofs.Ytcmnjoepadjioaa

/- A copy of a slice of numbers. -/
namespace Go.Proofs.Ytcmnjoepadjioaa
open Go.RowKit Go.Maps
section
variable {P : Program}
/-- an empty slice, told by its value -/
theorem tri_empty {f : FuncId} {ps : List AV} {H : AH} {Q : AV → AH → Prop} (i sz : Nat) (hi : ps[i]? = some (.dsl sz [])) (h : ∀ A c, c ≤ maxLen → Tri P f (ps.set i (.p (.slice A 0 c))) H Q) : Tri P f ps H Q := fun w S σ us hs hr => by
  obtain ⟨v, hv, hrv⟩ := hr.at_ hi
  obtain ⟨A, c, z, rfl, h1, h2, _⟩ := hrv.dsl_inv.dsl_inv
  refine h A c (by omega) w S σ us hs ⟨by rw [List.length_set]; exact hr.1, fun j b u hb hu => ?_⟩
  by_cases e : i = j
  · subst e
    rw [List.getElem?_set_self (List.getElem?_eq_some_iff.1 hi).1] at hb
    injection hb with hb; subst hb
    rw [hv] at hu; injection hu with hu; subst hu
    exact .data _ _ (.p _ rfl)
  · rw [List.getElem?_set_ne e] at hb; exact hr.2 j b u hb hu
end
def intE (l : List Int) : List (List AV) := l.map fun i => [iv i]
theorem dt_ints (l : List Int) : DtR (intE l) := fun e he x hx => by
  obtain ⟨i, _, rfl⟩ := List.mem_map.1 he
  simp only [List.mem_singleton] at hx
  subst hx; exact Dt.p _
theorem c_Clone {H : AH} (l : List Int) (hb : l.length * 8 ≤ 140737488355328) : Tri Try.prog 43 [.dsl 1 (intE l)] H (fun v H' => Grows 3 1 H H' v (intE l) ∧ H.le H' ∧ H.nx ≤ H'.nx) := tri_wf fun hw => by
  have hml : maxLen = 9223372036854775807 := by decide
  have hu : ∃ e, Try.prog.underlying 22 = some (.slice e) := ⟨3, by kernel_rfl⟩
  cases l with
  | nil =>
    refine tri_empty 0 1 rfl fun A c hc => tri_slices_Clone_s_int_int ?_
    unfold S_slices_Clone_s_int_int
    cases A with
    | none =>
      simp [hu]
      exact rt_refl ⟨.nil _ _ _ _, .refl _, Nat.le_refl _⟩ (Nat.le_refl _)
    | some b =>
      simp [hu]
      exact rt_refl ⟨.row (by first | omega | (simp only [up_nx, put_nx, kill_nx]; done) | (simp only [up_nx, put_nx, kill_nx]; omega)) (by first | omega | (simp only [up_nx, put_nx, kill_nx]; done) | (simp only [up_nx, put_nx, kill_nx]; omega)) (put_get _ _) (fun e he => by cases he) rfl, (by repeat (first | with_reducible assumption | with_reducible exact AH.le.refl _ | with_reducible apply AH.le.up | (with_reducible refine AH.le.put hw ?_ ?_; · first | omega | (simp only [up_nx, put_nx, kill_nx]; done) | (simp only [up_nx, put_nx, kill_nx]; omega)) | (with_reducible refine AH.le.kill hw ?_ ?_; · first | omega | (simp only [up_nx, put_nx, kill_nx]; done) | (simp only [up_nx, put_nx, kill_nx]; omega)))), (by first | omega | (simp only [up_nx, put_nx, kill_nx]; done) | (simp only [up_nx, put_nx, kill_nx]; omega))⟩ (by first | omega | (simp only [up_nx, put_nx, kill_nx]; done) | (simp only [up_nx, put_nx, kill_nx]; omega))
  | cons x xs =>
    refine tri_slices_Clone_s_int_int ?_
    unfold S_slices_Clone_s_int_int
    have hpos : 0 < (intE (x :: xs)).length := by simp [intE]
    have hlen : (intE (x :: xs)).length = (x :: xs).length := by simp [intE]
    have hdt := dt_ints (x :: xs)
    generalize intE (x :: xs) = ys at *
    simp [hu]
    exact ⟨hpos, by omega, by omega, rt_refl ⟨.row (by first | omega | (simp only [up_nx, put_nx, kill_nx]; done) | (simp only [up_nx, put_nx, kill_nx]; omega)) (by first | omega | (simp only [up_nx, put_nx, kill_nx]; done) | (simp only [up_nx, put_nx, kill_nx]; omega)) (put_get _ _) hdt rfl, (by repeat (first | with_reducible assumption | with_reducible exact AH.le.refl _ | with_reducible apply AH.le.up | (with_reducible refine AH.le.put hw ?_ ?_; · first | omega | (simp only [up_nx, put_nx, kill_nx]; done) | (simp only [up_nx, put_nx, kill_nx]; omega)) | (with_reducible refine AH.le.kill hw ?_ ?_; · first | omega | (simp only [up_nx, put_nx, kill_nx]; done) | (simp only [up_nx, put_nx, kill_nx]; omega)))), (by first | omega | (simp only [up_nx, put_nx, kill_nx]; done) | (simp only [up_nx, put_nx, kill_nx]; omega))⟩ (by first | omega | (simp only [up_nx, put_nx, kill_nx]; done) | (simp only [up_nx, put_nx, kill_nx]; omega))⟩
end Go.Proofs.Ytcmnjoepadjioaa

/- What follows, plainly: of lines those that a line needs, numbered anew: each is right. No program in sight. -/
namespace Go.Proofs.Ytcmnjoepadjioaa

def rankN (N : Nat → Bool) : Nat → Nat
  | 0 => 0
  | k + 1 => rankN N k + if N k then 1 else 0
theorem rank_mono (N : Nat → Bool) {a b : Nat} (h : a ≤ b) : rankN N a ≤ rankN N b := by
  induction b with
  | zero => have : a = 0 := by omega
            subst this; exact Nat.le_refl _
  | succ b ih =>
    by_cases e : a = b + 1
    · subst e; exact Nat.le_refl _
    · have := ih (by omega); rw [rankN]; omega
theorem rank_lt (N : Nat → Bool) {a b : Nat} (h : a < b) (ha : N a = true) : rankN N a < rankN N b := by
  have h1 := rank_mono N (show a + 1 ≤ b from h)
  rw [rankN, ha] at h1
  simp at h1; omega
theorem rank_le (N : Nat → Bool) (k : Nat) : rankN N k ≤ k := by
  induction k with
  | zero => exact Nat.le_refl _
  | succ k ih => rw [rankN]; split <;> omega
def mapS (N : Nat → Bool) (x : Lin) : Lin := if x.rule = 1 then x else ⟨x.rule, x.c, x.src.map fun k => ((rankN N k.toNat : Nat) : Int)⟩
theorem mapS_c (N : Nat → Bool) (x : Lin) : (mapS N x).c = x.c := by unfold mapS; split <;> rfl
theorem mapS_rule (N : Nat → Bool) (x : Lin) : (mapS N x).rule = x.rule := by unfold mapS; split <;> rfl
def outL (N : Nat → Bool) (l : List Lin) : Nat → List Lin
  | 0 => []
  | n + 1 => match l[n]? with
    | some x => if N n then outL N l n ++ [mapS N x] else outL N l n
    | none => outL N l n
theorem outL_yes {N : Nat → Bool} {l : List Lin} {n : Nat} (h : n < l.length) (hN : N n = true) : outL N l (n + 1) = outL N l n ++ [mapS N (l[n]'h)] := by rw [outL, List.getElem?_eq_getElem h]; simp [hN]
theorem outL_no {N : Nat → Bool} {l : List Lin} {n : Nat} (hN : N n = false) : outL N l (n + 1) = outL N l n := by rw [outL]; cases l[n]? <;> simp [hN]
theorem outL_len (N : Nat → Bool) (l : List Lin) : ∀ n, n ≤ l.length → (outL N l n).length = rankN N n
  | 0, _ => rfl
  | n + 1, h => by
    have ih := outL_len N l n (by omega)
    cases hN : N n with
    | true => rw [outL_yes (by omega) hN, List.length_append, ih, rankN, hN]; rfl
    | false => rw [outL_no hN, ih, rankN, hN]; rfl
theorem outL_at (N : Nat → Bool) (l : List Lin) : ∀ n, n ≤ l.length → ∀ (i : Nat) (hi : i < n) (hl : i < l.length), N i = true → (outL N l n)[rankN N i]? = some (mapS N (l[i]'hl))
  | 0, _, i, hi, _, _ => by omega
  | n + 1, h, i, hi, hl, hN => by
    have len := outL_len N l n (by omega)
    by_cases e : i = n
    · subst e
      rw [outL_yes hl hN, List.getElem?_append_right (by omega), len, Nat.sub_self]; rfl
    · have ih := outL_at N l n (by omega) i (by omega) hl hN
      cases hn : N n with
      | true =>
        rw [outL_yes (by omega) hn, List.getElem?_append_left (by rw [len]; exact rank_lt N (by omega) hN)]
        exact ih
      | false => rw [outL_no hn]; exact ih
theorem outL_from (N : Nat → Bool) (l : List Lin) : ∀ n, n ≤ l.length → ∀ (j : Nat) (x : Lin), (outL N l n)[j]? = some x → ∃ (i : Nat) (hl : i < l.length), i < n ∧ N i = true ∧ j = rankN N i ∧ x = mapS N (l[i]'hl)
  | 0, _, j, x, h => by simp [outL] at h
  | n + 1, hn, j, x, h => by
    have len := outL_len N l n (by omega)
    cases hN : N n with
    | false =>
      rw [outL_no hN] at h
      obtain ⟨i, hl, h1, h2, h3, h4⟩ := outL_from N l n (by omega) j x h
      exact ⟨i, hl, by omega, h2, h3, h4⟩
    | true =>
      rw [outL_yes (by omega) hN] at h
      by_cases hj : j < (outL N l n).length
      · rw [List.getElem?_append_left hj] at h
        obtain ⟨i, hl, h1, h2, h3, h4⟩ := outL_from N l n (by omega) j x h
        exact ⟨i, hl, by omega, h2, h3, h4⟩
      · rw [List.getElem?_append_right (by omega)] at h
        have h0 : j - (outL N l n).length = 0 := by have := (List.getElem?_eq_some_iff.1 h).1; simp at this; omega
        rw [h0] at h
        simp at h
        exact ⟨n, by omega, by omega, hN, by omega, h.symm⟩
/-- what a needed line is made of is needed -/
def closedN (N : Nat → Bool) (l : List Lin) : Prop := ∀ (i : Nat) (x : Lin), l[i]? = some x → N i = true → x.rule ≠ 1 → ∀ k ∈ x.src, N k.toNat = true
theorem pick_map {N : Nat → Bool} {l : List Lin} {n i : Nat} (hn : n ≤ l.length) (hin : i ≤ n) : ∀ {src : List Int} {of : List Clm}, pickC (l.map (·.c)) i src = some of → (∀ k ∈ src, N k.toNat = true) →
    pickC ((outL N l n).map (·.c)) (rankN N i) (src.map fun k => ((rankN N k.toNat : Nat) : Int)) = some of
  | [], of, h, _ => by simpa [pickC] using h
  | k :: r, of, h, hN => by
    rw [pickC] at h
    split at h
    · rename_i hk
      cases h1 : (l.map (·.c))[k.toNat]? with
      | none => rw [h1] at h; cases h
      | some c =>
        cases h2 : pickC (l.map (·.c)) i r with
        | none => rw [h1, h2] at h; cases h
        | some cs =>
          rw [h1, h2] at h
          simp only [Option.some.injEq] at h
          subst h
          have hkl : k.toNat < l.length := by have := (List.getElem?_eq_some_iff.1 h1).1; simpa using this
          have hNk := hN k (by simp)
          have ih := pick_map hn hin (N := N) h2 (fun x hx => hN x (by simp [hx]))
          have hr := rank_lt N (a := k.toNat) (b := i) (by omega) hNk
          have ha := outL_at N l n hn k.toNat (by omega) hkl hNk
          rw [List.map_cons, pickC, if_pos ⟨by omega, by omega⟩]
          have e1 : ((outL N l n).map (·.c))[(((rankN N k.toNat : Nat) : Int)).toNat]? = some c := by
            rw [Int.toNat_natCast, List.getElem?_map, ha]
            rw [List.getElem?_map, List.getElem?_eq_getElem hkl] at h1
            simp only [Option.map_some, Option.some.injEq] at h1 ⊢
            rw [mapS_c]; exact h1
          rw [e1, ih]
    · cases h
theorem out_right {prem : List Clm} {N : Nat → Bool} {l : List Lin} (hr : allRight prem l) (hc : closedN N l) {n : Nat} (hn : n ≤ l.length) : allRight prem (outL N l n) := by
  intro j x hx
  obtain ⟨i, hl, hi, hN, rfl, rfl⟩ := outL_from N l n hn j x hx
  have h := hr i _ (List.getElem?_eq_getElem hl)
  have hcl := hc i _ (List.getElem?_eq_getElem hl) hN
  unfold rightB at h ⊢
  rw [mapS_rule, mapS_c]
  by_cases r1 : (l[i]'hl).rule = 1
  · rw [if_pos r1] at h ⊢
    unfold mapS
    rw [if_pos r1]
    exact h
  · rw [if_neg r1] at h ⊢
    split at h
    · rename_i of hof
      have := pick_map hn (show i ≤ n by omega) (N := N) hof (hcl r1)
      unfold mapS
      rw [if_neg r1]
      simp only
      rw [this]
      exact h
    · cases h
theorem out_ok {N : Nat → Bool} {l : List Lin} (hok : ∀ x ∈ l, x.c.ok) {n : Nat} (hn : n ≤ l.length) : ∀ x ∈ outL N l n, x.c.ok := fun x hx => by
  obtain ⟨j, hj⟩ := List.getElem?_of_mem hx
  obtain ⟨i, hl, _, _, _, rfl⟩ := outL_from N l n hn j x hj
  rw [mapS_c]; exact hok _ (List.getElem_mem hl)
/-- a line's numbers are numbers of lines ahead -/
theorem right_src {prem : List Clm} {l : List Lin} (hr : allRight prem l) {i : Nat} {x : Lin} (hx : l[i]? = some x) (h1 : x.rule ≠ 1) : ∀ k ∈ x.src, 0 ≤ k ∧ k < (i : Int) := by
  have h := hr i x hx
  unfold rightB at h
  rw [if_neg h1] at h
  cases hp : pickC (l.map (·.c)) i x.src with
  | none => rw [hp] at h; cases h
  | some of =>
    have : ∀ (src : List Int) (of : List Clm), pickC (l.map (·.c)) i src = some of → ∀ k ∈ src, 0 ≤ k ∧ k < (i : Int) := by
      intro src
      induction src with
      | nil => intro of _ k hk; simp at hk
      | cons a r ih =>
        intro of hp k hk
        rw [pickC] at hp
        split at hp
        · rename_i hc
          cases h2 : pickC (l.map (·.c)) i r with
          | none => rw [h2] at hp; cases hq : (l.map (·.c))[a.toNat]? <;> rw [hq] at hp <;> cases hp
          | some cs =>
            rcases List.mem_cons.1 hk with rfl | hk
            · exact hc
            · exact ih cs h2 k hk
        · cases hp
    exact this _ _ hp
end Go.Proofs.Ytcmnjoepadjioaa

/- More of growing slices: told anew one behind the other; two that grow side by side. Nothing of the program is named here. -/
namespace Go.Proofs.Ytcmnjoepadjioaa
open Go.RowKit Go.Maps

section
variable {P : Program} {w : World} {S : Nat → Prop} {σ : Nat → Option Value} {H H0 H1 H2 H3 V : AH} {B : Nat}
theorem Gst.refl (H : AH) : Gst P H H := ⟨Nat.le_refl _, fun w S σ hs => ⟨S, hs, fun _ h => h, fun _ h => .inl h, fun _ h => h⟩⟩
theorem Gst.trans (h : Gst P H H1) (k : Gst P H1 H2) : Gst P H H2 := ⟨Nat.le_trans h.1 k.1, fun w S σ hs => by
  obtain ⟨S1, a1, a2, a3, a4⟩ := h.2 w S σ hs
  obtain ⟨S2, b1, b2, b3, b4⟩ := k.2 w S1 σ a1
  refine ⟨S2, b1, fun b hb => b2 b (a2 b hb), fun b hb => ?_, fun b hb => a4 b (b4 b hb)⟩
  rcases b3 b hb with hb | hb
  · exact a3 b hb
  · exact .inr (a4 b hb)⟩
theorem Grows.base {t sz : Nat} {v : AV} {es : List (List AV)} (h : Grows t sz H1 H2 v es) (hn : H0.nx ≤ H1.nx) : Grows t sz H0 H2 v es := by
  rcases h with h | ⟨r, xs, h1, h2, h3⟩
  · exact .inl h
  · exact .inr ⟨r, xs, h1, Nat.le_trans hn h2, h3⟩
theorem Grows.ge {t sz j n : Nat} {v : AV} {es : List (List AV)} (h : Grows t sz H0 H1 v es) (hj : v = .osl j sz 0 n) : H0.nx ≤ j := by
  rcases h with ⟨h1, _⟩ | ⟨r, xs, h1, h2, h3, _⟩
  · rw [h1] at hj; cases hj
  · rw [h1] at hj; injection hj with hj; omega
/-- two that grow, of elements of another size -/
theorem Grows.apart {t t' sz sz' : Nat} {v u : AV} {es xs : List (List AV)} (h : Grows t sz H0 H1 v es) (k : Grows t' sz' H2 H1 u xs) (hs : sz ≠ sz') {j : Nat} (hj : ∃ n, u = .osl j sz' 0 n) : ∀ n, v ≠ .osl j sz 0 n := by
  obtain ⟨n, hn⟩ := hj
  refine h.not fun ys e => ?_
  rcases k with ⟨h1, _⟩ | ⟨r, xs, h1, _, _, h4, _⟩
  · rw [h1] at hn; cases hn
  · rw [h1] at hn; injection hn with hn; subst hn; rw [h4] at e; injection e with e; injection e with e1 e2; exact hs e2.symm
theorem Grows.up_ {t sz : Nat} {v : AV} {es : List (List AV)} (h : Grows t sz H0 H1 v es) (hn : H1.nx ≤ H2.nx) (hk : ∀ j o, j < H1.nx → (∃ n, v = .osl j sz 0 n) → H1.get j = some o → H2.get j = some o) : Grows t sz H0 H2 v es := by
  rcases h with h | ⟨r, xs, h1, h2, h3, h4, h5, h6⟩
  · exact .inl h
  · exact .inr ⟨r, xs, h1, h2, by omega, hk r _ h3 ⟨_, h1⟩ h4, h5, h6⟩
theorem Grows.wf {t sz : Nat} {v : AV} {es : List (List AV)} (h : Grows t sz H0 H1 v es) (hw : WF H2) (hk : H1.le H2) : Grows t sz H0 H2 v es := by
  rcases h with h | ⟨r, xs, h1, h2, h3, h4, h5, h6⟩
  · exact .inl h
  · exact .inr ⟨r, xs, h1, h2, (hw _ _ (hk _ _ h4)).1, hk _ _ h4, h5, h6⟩
theorem DtR.set {xs : List (List AV)} {i : Nat} {e : List AV} (h : DtR xs) (he : ∀ a ∈ e, Dt a) : DtR (xs.set i e) := fun x hx => by
  rcases List.mem_or_eq_of_mem_set hx with hx | hx
  · exact h x hx
  · subst hx; exact he
/-- an element is set anew -/
theorem Grows.put {t sz r n q : Nat} {es xs : List (List AV)} {e : List AV} (h : Grows t sz H0 H1 (.osl r sz 0 n) es) (hg : H1.get r = some (.row t sz xs)) (he : ∀ a ∈ e, Dt a) : Grows t sz H0 (H1.put r (.row t sz (xs.set q e))) (.osl r sz 0 n) (es.set q e) := by
  rcases h with ⟨h1, _⟩ | ⟨r', xs', h1, h2, h3, h4, h5, h6⟩
  · cases h1
  · injection h1 with e1 _ _ e2
    subst e1
    rw [hg] at h4
    injection h4 with h4
    injection h4 with _ _ h4
    subst h4
    refine .inr ⟨r, xs.set q e, by rw [List.length_set, e2], h2, h3, AH.get_put_self, ?_, h6.set he⟩
    rw [List.length_set, List.take_set, h5]
/-- whatever slice it is, an element is read so -/
theorem elF_acc {sz : Nat} {a : AV} {es : List (List AV)} (h0 : 0 < sz) (h : elF H sz a = some es) {i : Nat} {e : List AV} (he : es[i]? = some e) : ∃ q : Nat → AV, (∀ (P : Program) (kd : IntKind) (k : AV → AH → Prop) (H' : AH), Pu P (.idx sz) [a, .p (.int kd (i : Int))] k H' = k (q 0) H') ∧
    (∀ (P : Program) (m j : Nat) (k : AV → AH → Prop) (H' : AH), Pu P (.addOff m) [q j] k H' = k (q (j + m)) H') ∧ ∀ j, atF H (q j) = some (e.drop j) := by
  have hi := (List.getElem?_eq_some_iff.1 he).1
  have row : ∀ (id off n : Nat) (o : Option AO) (ys : List (List AV)), ((ys.drop off).take n)[i]? = some e → ys[off + i]? = some e ∧ i < n := fun id off n o ys h => by
    rw [List.getElem?_take] at h
    split at h
    · rw [List.getElem?_drop] at h; exact ⟨h, by assumption⟩
    · cases h
  cases elF_iff.2 h with
  | dsl => exact ⟨fun j => .dptr sz es i j, fun P kd k H' => by rw [q_idx_dsl]; simp [h0, hi], fun P m j k H' => by rw [q_add_dptr], fun j => by rw [atF_dptr, he]; rfl⟩
  | row id off n t ys hg hn =>
    obtain ⟨h1, h2⟩ := row id off n none ys he
    exact ⟨fun j => .eptr id sz (off + i) j, fun P kd k H' => by rw [q_idx_osl]; simp [h2], fun P m j k H' => by rw [q_add_eptr], fun j => by rw [atF_eptr, hg, rowAt_row, h1]; rfl⟩
  | frz id off n ys hg hn =>
    obtain ⟨h1, h2⟩ := row id off n none ys he
    exact ⟨fun j => .eptr id sz (off + i) j, fun P kd k H' => by rw [q_idx_osl]; simp [h2], fun P m j k H' => by rw [q_add_eptr], fun j => by rw [atF_eptr, hg, rowAt_frz, h1]; rfl⟩
  | nil_ => simp at hi
theorem elF_len {sz : Nat} {a : AV} {es : List (List AV)} (h : elF H sz a = some es) : ∀ (P : Program) (k : AV → AH → Prop) (H' : AH), Pu P .len [a] k H' = k (.p (.int .i64 (es.length : Int))) H' := by
  intro P k H'
  cases elF_iff.2 h with
  | dsl => rw [q_len_dsl]
  | row id off n t ys hg hn => rw [q_len_osl, List.length_take, List.length_drop, show min n (ys.length - off) = n by omega]
  | frz id off n ys hg hn => rw [q_len_osl, List.length_take, List.length_drop, show min n (ys.length - off) = n by omega]
  | nil_ => rw [q_len_nil]; rfl
theorem elF_le {sz : Nat} {a : AV} {es : List (List AV)} (h : elF H sz a = some es) (hle : H.le H1) : elF H1 sz a = some es := elF_iff.1 ((elF_iff.2 h).le hle)
/-- a slice that grew and lies in a box is handed over as data where it lies -/
theorem Grows.fzbox {u sz b : Nat} {t : TypeId} {v : AV} {es : List (List AV)} (h : Grows u sz H0 H1 v es) (hw : WF H0) (hle : H0.le H1) (hn : H0.nx ≤ H1.nx) (hb : H1.get b = some (.box t [v])) (hbn : H0.nx ≤ b) :
    ∃ H2, Gst P H1 H2 ∧ H0.le H2 ∧ H2.nx = H1.nx ∧ H2.get b = some (.box t [.dsl sz es]) ∧ ∀ j, j ≠ b → (∀ n, v ≠ .osl j sz 0 n) → H2.get j = H1.get j := by
  obtain ⟨H2, f1, f2, f3, f4, f5⟩ := h.fz (P := P) hw hle hn
  have hvb : ∀ n, v ≠ .osl b sz 0 n := h.not fun ys e => by rw [hb] at e; cases e
  have hb2 := (f4 b hvb).trans hb
  exact ⟨H2.put b (.box t [.dsl sz es]), f1.trans (Gst.box hb2 (.cons f5 .nil)), .put hw hbn f2, f3, AH.get_put_self, fun j hj hv => by rw [AH.get_put_ne hj]; exact f4 j hv⟩
/-- what was there is as it was -/
def Kp (H H1 : AH) : Prop := H.nx ≤ H1.nx ∧ ∀ j, j < H.nx → H1.get j = H.get j
theorem Kp.refl (H : AH) : Kp H H := ⟨Nat.le_refl _, fun _ _ => rfl⟩
theorem Kp.trans (h : Kp H H1) (k : Kp H1 H2) : Kp H H2 := ⟨Nat.le_trans h.1 k.1, fun j hj => (k.2 j (Nat.lt_of_lt_of_le hj h.1)).trans (h.2 j hj)⟩
theorem Kp.up {n : Nat} (h : Kp H H1) : Kp H (H1.up n) := ⟨Nat.le_trans h.1 (Nat.le_add_right _ _), h.2⟩
theorem Kp.put {i : Nat} {o : AO} (hi : H.nx ≤ i) (h : Kp H H1) : Kp H (H1.put i o) := ⟨h.1, fun j hj => by rw [AH.get_put_ne (by omega)]; exact h.2 j hj⟩
theorem Kp.kill {i : Nat} (hi : H.nx ≤ i) (h : Kp H H1) : Kp H (H1.kill i) := Kp.put hi h
theorem Kp.le (h : Kp H H1) (hw : WF H) : H.le H1 := fun i o ho => by rw [h.2 i (hw i o ho).1]; exact ho
theorem Kp.le_of (h : Kp H H1) (hl : H0.le H) (hw : WF H0) (hn : H0.nx ≤ H.nx) : H0.le H1 := fun i o ho => by rw [h.2 i (Nat.lt_of_lt_of_le (hw i o ho).1 hn)]; exact hl i o ho
theorem Kp.get_ {i : Nat} {o : Option AO} (h : Kp H H1) (hi : i < H.nx) (hg : H.get i = o) : H1.get i = o := (h.2 i hi).trans hg
theorem Grows.kp {t sz : Nat} {v : AV} {es : List (List AV)} (h : Grows t sz H0 H1 v es) (k : Kp H1 H2) : Grows t sz H0 H2 v es := h.same k.1 fun j hj _ => k.2 j hj
end
end Go.Proofs.Ytcmnjoepadjioaa

/- Of lines those that a line needs, numbered anew. -/
namespace Go.Proofs.Ytcmnjoepadjioaa
open Go.RowKit Go.Maps
/-- what is needed so far: from line j on all that is needed brings what it needs -/
structure Need (l : List Lin) (last j : Nat) (N : Nat → Bool) : Prop where
  top : N last = true
  low : ∀ i, N i = true → i ≤ last
  shut : ∀ (i : Nat) (x : Lin), l[i]? = some x → j ≤ i → N i = true → x.rule ≠ 1 → ∀ k ∈ x.src, N k.toNat = true
def setN (N : Nat → Bool) (k : Nat) : Nat → Bool := fun i => if i = k then true else N i
theorem setN_at (N : Nat → Bool) (k : Nat) : setN N k k = true := by simp [setN]
theorem setN_up {N : Nat → Bool} {k i : Nat} (h : N i = true) : setN N k i = true := by unfold setN; split <;> simp [h]
theorem setN_one {k i : Nat} (h : setN (fun _ => false) k i = true) : i = k := by
  unfold setN at h
  split at h
  · assumption
  · cases h
theorem Need.set {l : List Lin} {last j : Nat} {N : Nat → Bool} (h : Need l last (j + 1) N) {k : Nat} (hk : k < j) (hj : j ≤ last) : Need l last (j + 1) (setN N k) where
  top := setN_up h.top
  low i hi := by
    unfold setN at hi
    split at hi
    · omega
    · exact h.low i hi
  shut i x hx hji hi hr := fun q hq => by
    have : N i = true := by
      unfold setN at hi
      rw [if_neg (by omega)] at hi; exact hi
    exact setN_up (h.shut i x hx hji this hr q hq)
def setAll (N : Nat → Bool) (src : List Int) : Nat → Bool := src.foldl (fun N k => setN N k.toNat) N
theorem setAll_next {N : Nat → Bool} {src : List Int} {q : Nat} {z : Int} (h : src[q]? = some z) : setAll N (src.take (q + 1)) = setN (setAll N (src.take q)) z.toNat := by unfold setAll; rw [List.take_add_one, h, List.foldl_append]; rfl
def stepN (l : List Lin) (N : Nat → Bool) (j : Nat) : Nat → Bool := if N j then (match l[j]? with | some x => if x.rule = 1 then N else setAll N x.src | none => N) else N
def downN (l : List Lin) (last : Nat) : Nat → Nat → Bool
  | 0 => setN (fun _ => false) last
  | t + 1 => stepN l (downN l last t) (last - t)
def theN (l : List Lin) (last : Nat) : Nat → Bool := downN l last (last + 1)
theorem downN_next (l : List Lin) (last : Nat) {j : Nat} (hj : j ≤ last) : stepN l (downN l last (last + 1 - (j + 1))) j = downN l last (last + 1 - j) := by
  rw [show last + 1 - j = (last + 1 - (j + 1)) + 1 by omega, downN]
  congr 1; omega
theorem setAll_need {l : List Lin} {last j : Nat} : ∀ {src : List Int} {N : Nat → Bool}, Need l last (j + 1) N → j ≤ last → (∀ k ∈ src, 0 ≤ k ∧ k < (j : Int)) → Need l last (j + 1) (setAll N src) ∧ (∀ k ∈ src, setAll N src k.toNat = true) ∧ ∀ i, N i = true → setAll N src i = true
  | [], N, h, _, _ => ⟨h, by simp, fun _ h => h⟩
  | z :: r, N, h, hj, hs => by
    have hz := hs z (by simp)
    obtain ⟨q1, q2, q3⟩ := setAll_need (src := r) (h.set (k := z.toNat) (by omega) hj) hj (fun k hk => hs k (by simp [hk]))
    refine ⟨q1, fun k hk => ?_, fun i hi => q3 i (setN_up hi)⟩
    rcases List.mem_cons.1 hk with rfl | hk
    · exact q3 _ (setN_at _ _)
    · exact q2 k hk
theorem need_down {l : List Lin} {last : Nat} (hr : ∀ (i : Nat) (x : Lin), l[i]? = some x → x.rule ≠ 1 → ∀ k ∈ x.src, 0 ≤ k ∧ k < (i : Int)) : ∀ t, t ≤ last + 1 → Need l last (last + 1 - t) (downN l last t)
  | 0, _ => ⟨setN_at _ _, fun i hi => Nat.le_of_eq (setN_one hi), fun i x hx hji hi => by have := setN_one hi; omega⟩
  | t + 1, ht => by
    have ih := need_down (last := last) hr t (by omega)
    have e1 : last + 1 - t = (last - t) + 1 := by omega
    have e2 : last + 1 - (t + 1) = last - t := by omega
    rw [e1] at ih
    rw [e2, downN]
    generalize downN l last t = N at *
    have down : ∀ N', Need l last (last - t + 1) N' → (∀ x, l[last - t]? = some x → N' (last - t) = true → x.rule ≠ 1 → ∀ k ∈ x.src, N' k.toNat = true) → Need l last (last - t) N' := fun N' q1 q2 => ⟨q1.top, q1.low, fun i y hy hji hi hr => by
      by_cases e : i = last - t
      · subst e; exact q2 y hy hi hr
      · exact q1.shut i y hy (show last - t + 1 ≤ i by omega) hi hr⟩
    unfold stepN
    by_cases hN : N (last - t) = true
    · rw [if_pos hN]
      cases hx : l[last - t]? with
      | none => exact down N ih fun x h => by rw [hx] at h; cases h
      | some x =>
        by_cases h1 : x.rule = 1
        · simp only [h1, if_true]
          exact down N ih fun y hy _ h2 => by rw [hx] at hy; injection hy with hy; subst hy; exact absurd h1 h2
        · simp only [h1, if_false]
          obtain ⟨q1, q2, _⟩ := setAll_need ih (show last - t ≤ last by omega) (hr _ x hx h1)
          exact down _ q1 fun y hy _ _ => by rw [hx] at hy; injection hy with hy; subst hy; exact q2
    · rw [if_neg hN]
      exact down N ih fun x _ h => absurd h hN
theorem need_the {l : List Lin} {last : Nat} (hr : ∀ (i : Nat) (x : Lin), l[i]? = some x → x.rule ≠ 1 → ∀ k ∈ x.src, 0 ≤ k ∧ k < (i : Int)) : Need l last 0 (theN l last) := by
  have := need_down (last := last) hr (last + 1) (Nat.le_refl _)
  rwa [Nat.sub_self] at this
def needRow (N : Nat → Bool) (n : Nat) : List (List AV) := (List.range n).map fun i => [bv (N i)]
theorem needRow_len (N : Nat → Bool) (n : Nat) : (needRow N n).length = n := by simp [needRow]
theorem needRow_at {N : Nat → Bool} {n k : Nat} (h : k < n) : (needRow N n)[k]? = some [bv (N k)] := by simp [needRow, h]
theorem needRow_set (N : Nat → Bool) (n k : Nat) : (needRow N n).set k [bv true] = needRow (setN N k) n := by
  apply List.ext_getElem?
  intro i
  rw [List.getElem?_set]
  by_cases h : k = i
  · subst h
    rw [if_pos rfl]
    by_cases hk : k < n
    · rw [if_pos (by rw [needRow_len]; exact hk), needRow_at hk, setN_at]
    · rw [if_neg (by rw [needRow_len]; exact hk), List.getElem?_eq_none (by rw [needRow_len]; omega)]
  · rw [if_neg h]
    by_cases hi : i < n
    · rw [needRow_at hi, needRow_at hi]; unfold setN; rw [if_neg (fun e => h e.symm)]
    · rw [List.getElem?_eq_none (by rw [needRow_len]; omega), List.getElem?_eq_none (by rw [needRow_len]; omega)]
theorem needRow_none (n : Nat) : List.replicate n [bv false] = needRow (fun _ => false) n := by
  apply List.ext_getElem?
  intro i
  by_cases hi : i < n
  · rw [needRow_at hi, List.getElem?_replicate, if_pos hi]
  · rw [List.getElem?_eq_none (by rw [List.length_replicate]; omega), List.getElem?_eq_none (by rw [needRow_len]; omega)]
def mixL (N : Nat → Bool) (src : List Int) (q : Nat) : List Int := (src.take q).map (fun k => ((rankN N k.toNat : Nat) : Int)) ++ src.drop q
theorem mixL_len (N : Nat → Bool) (src : List Int) (q : Nat) : (mixL N src q).length = src.length := by simp [mixL]; omega
theorem mixL_at {N : Nat → Bool} {src : List Int} {q : Nat} {z : Int} (h : src[q]? = some z) : (mixL N src q)[q]? = some z := by
  have hq := (List.getElem?_eq_some_iff.1 h).1
  rw [mixL, List.getElem?_append_right (by simp; omega)]
  simp
  rw [show q - min q src.length = 0 by omega]
  simpa using h
theorem mixL_set {N : Nat → Bool} {src : List Int} {q : Nat} {z : Int} (h : src[q]? = some z) : (mixL N src q).set q ((rankN N z.toNat : Nat) : Int) = mixL N src (q + 1) := by
  obtain ⟨hq, hz⟩ := List.getElem?_eq_some_iff.1 h
  unfold mixL
  rw [List.set_append_right _ _ (by simp; omega), List.length_map, List.length_take, show q - min q src.length = 0 by omega, List.drop_eq_getElem_cons hq, List.set_cons_zero, List.take_add_one, h, List.map_append, List.append_assoc]
  rfl
theorem mixL_all (N : Nat → Bool) (src : List Int) : mixL N src src.length = src.map fun k => ((rankN N k.toNat : Nat) : Int) := by simp [mixL]
theorem intE_set (l : List Int) (q : Nat) (z : Int) : (intE l).set q [iv z] = intE (l.set q z) := by simp [intE, List.map_set]
/-- the copied line is handed over and laid behind the others -/
theorem needed_fin {H H4 : AH} {u vc : AV} {bx i : Nat} {x : Lin} {es : List Int} {out : List Lin} {k : List AV → AH → Prop} (hw : WF H) (hle : H.le H4) (hn : H.nx ≤ H4.nx) (hu : Grows 36 5 H H4 u (out.map Lin.cs)) (hv : Grows 3 1 H H4 vc (intE es))
    (hbx : H4.get bx = some (.box 36 [iv x.rule, .p (.bool x.c.so), iv x.c.a, iv x.c.b, vc])) (hb : H.nx ≤ bx) (hbl : bx < H4.nx) (hlen : out.length < 900000) (hi : i < 900000)
    (hk : ∀ v' H', Grows 36 5 H H' v' ((out ++ [Lin.mk x.rule x.c es]).map Lin.cs) → H.le H' → H4.nx ≤ H'.nx → (∀ j o, H4.get j = some o → (∀ n, vc ≠ .osl j 1 0 n) → (∀ n, u ≠ .osl j 5 0 n) → j ≠ bx → j < H4.nx → H'.get j = some o) → k [v', iv ((i + 1 : Nat) : Int)] H') :
    Gq Try.prog (Rg 5 fun b => RdS Try.prog (.ld 5 true) [.ptr bx 0] fun v115 =>
      Al (b + 2) (.bs 36 5 1 [.p (.int .i64 0), .p (.bool false), .p (.int .i64 0), .p (.int .i64 0), .p (.slice none 0 0)] [(0, 5)]) [v115] fun v116 =>
      WrS Try.prog (b + 3) (.app 36 5 56) [u, v116] fun v117 =>
      Pu Try.prog (.bin .add 3) [.p (.int .i64 (i : Int)), .p (.int .i64 1)] fun v118 => k [v117, v118]) H4 := by
  have hmx : maxLen = 9223372036854775807 := by decide
  obtain ⟨H5, f1, f2, f3, f4, f5⟩ := hv.fz (P := Try.prog) hw hle hn
  have hvb : ∀ n, vc ≠ .osl bx 1 0 n := hv.not fun ys e => by rw [hbx] at e; cases e
  have hb5 := (f4 bx hvb).trans hbx
  have hub : ∀ n, u ≠ .osl bx 5 0 n := hu.not fun ys e => by rw [hbx] at e; cases e
  have hu5 : Grows 36 5 H H5 u (out.map Lin.cs) := hu.same (by omega) fun j hj hn => f4 j (hv.apart hu (by decide) hn)
  refine ⟨H5.put bx (.box 36 [iv x.rule, .p (.bool x.c.so), iv x.c.a, iv x.c.b, .dsl 1 (intE es)]), f1.trans (Gst.box hb5 (.cons (.refl _) (.cons (.refl _) (.cons (.refl _) (.cons (.refl _) (.cons f5 .nil)))))), ?_⟩
  have hiv := ivn (i := i) (by omega)
  simp (disch := first | omega | simp) [iv, hiv]
  refine Grows.app (t := 36) hw (hu5.same (by first | omega | (simp only [up_nx, put_nx, kill_nx]; done) | (simp only [up_nx, put_nx, kill_nx]; omega)) fun j hj ⟨n, hn⟩ => ?_) (by repeat (first | with_reducible assumption | with_reducible exact AH.le.refl _ | with_reducible apply AH.le.up | (with_reducible refine AH.le.put hw ?_ ?_; · first | omega | (simp only [up_nx, put_nx, kill_nx]; done) | (simp only [up_nx, put_nx, kill_nx]; omega)) | (with_reducible refine AH.le.kill hw ?_ ?_; · first | omega | (simp only [up_nx, put_nx, kill_nx]; done) | (simp only [up_nx, put_nx, kill_nx]; omega)))) (by first | omega | (simp only [up_nx, put_nx, kill_nx]; done) | (simp only [up_nx, put_nx, kill_nx]; omega)) (by first | omega | (simp only [up_nx, put_nx, kill_nx]; done) | (simp only [up_nx, put_nx, kill_nx]; omega)) (ys := [Lin.cs ⟨x.rule, x.c, es⟩]) ?_ (dt_lin [⟨x.rule, x.c, es⟩]) ?_ ?_ fun v' H' g2 l2 n2 k2 hfr => ?_
  · have : j ≠ bx := fun e => by subst e; exact hub n hn
    simp (disch := first | omega | simp) [put_get_ne, this]
  · simp [Lin.cs, iv, intE]
  · simp; omega
  · simp; omega
  · rw [q_add_i, hiv]
    refine hk v' H' (by rw [List.map_append]; exact g2) l2 (by rw [n2]; first | omega | (simp only [up_nx, put_nx, kill_nx]; done) | (simp only [up_nx, put_nx, kill_nx]; omega)) fun j o hj h1 h2 h3 h4 => ?_
    rw [k2 j (by omega) h2]
    simp (disch := first | omega | simp) [put_get_ne, h3]
    rw [f4 j h1]; exact hj
set_option maxHeartbeats 2000000 in
theorem c_needed {H : AH} {a m : Nat} {v : AV} {l : List Lin} (hbx : H.get a = some (.box 52 [v, .mp m])) (hgr : Grows 36 5 AH.nil H v (l.map Lin.cs)) (hr : ∀ (i : Nat) (x : Lin), l[i]? = some x → x.rule ≠ 1 → ∀ k ∈ x.src, 0 ≤ k ∧ k < (i : Int)) (hsl : ∀ x ∈ l, x.src.length ≤ 2)
    {last : Nat} (hlast : last < l.length) (hb : l.length < 900000) :
    Tri Try.prog 29 [.ptr a 0, iv last] H (fun r H' => H' = H ∧ r = .dsl 5 ((outL (theN l last) l (last + 1)).map Lin.cs)) := tri_wf fun hw => tri_arguer_needed (by
  have hmx : maxLen = 9223372036854775807 := by decide
  obtain ⟨r, xs, rfl, hrn, hrow, hat⟩ := hgr.at_ (by rw [List.length_map]; omega)
  rw [List.length_map] at hbx hgr hat
  unfold S_arguer_needed
  simp (disch := first | omega | simp) [iv, hbx, hlast, put_get_ne]
  refine ⟨by omega, by omega, ?_⟩
  have hN0 : Need l last (last + 1) (setN (fun _ => false) last) := ⟨setN_at _ _, fun i hi => Nat.le_of_eq (setN_one hi), fun i x hx hji hi => by have := setN_one hi; omega⟩
  refine loop_st (fun p : Nat × (Nat → Bool) => [iv ((p.1 : Int) - 1)]) (fun p H' => p.1 ≤ last + 1 ∧ p.2 = downN l last (last + 1 - p.1) ∧ Need l last p.1 p.2 ∧ H.le H' ∧ H.nx + 11 ≤ H'.nx ∧ H'.get (H.nx + 5) = some (.row 4 1 (needRow p.2 l.length))) (fun p => p.1) (last + 1, setN (fun _ => false) last) (by dsimp only; rw [show ((last + 1 : Nat) : Int) - 1 = (last : Int) by omega]; exact .refl (by first | omega | (simp only [up_nx, put_nx, kill_nx]; done) | (simp only [up_nx, put_nx, kill_nx]; omega))) ⟨Nat.le_refl _, by dsimp only; rw [Nat.sub_self]; rfl, hN0, (by repeat (first | with_reducible assumption | with_reducible exact AH.le.refl _ | with_reducible apply AH.le.up | (with_reducible refine AH.le.put hw ?_ ?_; · first | omega | (simp only [up_nx, put_nx, kill_nx]; done) | (simp only [up_nx, put_nx, kill_nx]; omega)) | (with_reducible refine AH.le.kill hw ?_ ?_; · first | omega | (simp only [up_nx, put_nx, kill_nx]; done) | (simp only [up_nx, put_nx, kill_nx]; omega)))), (by first | omega | (simp only [up_nx, put_nx, kill_nx]; done) | (simp only [up_nx, put_nx, kill_nx]; omega)), ?_⟩ ?_
  · rw [put_get]
    congr 2
    rw [← needRow_set, ← needRow_none]
    simp [bv]
  rintro ⟨j, N⟩ H1 hn1 ⟨hj, hNe, hN, hle, hn, hrw⟩ k hk
  dsimp only at hj hNe hN hrw hk
  have hb1 := hle _ _ hbx
  have hr1 := hle _ _ hrow
  cases j with
  | succ j =>
    have e1 : ((j + 1 : Nat) : Int) - 1 = (j : Int) := by omega
    have hjl : j < l.length := by omega
    obtain ⟨x, hx⟩ : ∃ x, l[j]? = some x := ⟨_, List.getElem?_eq_getElem hjl⟩
    have hxj : xs[j]? = some x.cs := by rw [hat j hjl, List.getElem?_map, hx]; rfl
    have hnj := needRow_at (N := N) hjl
    have hws : IntKind.i64.wrap ((j : Int) - 1) = (j : Int) - 1 := by rw [IntKind.wrap_i64]; omega
    dsimp only
    rw [e1]
    have next : ∀ N' H', N' = stepN l N j → Need l last j N' → H.le H' → H.nx + 11 ≤ H'.nx → H1.nx ≤ H'.nx → H'.get (H.nx + 5) = some (.row 4 1 (needRow N' l.length)) → k [iv ((j : Int) - 1)] H' := fun N' H' q0 q1 q2 q3 q4 q5 => hk (j, N') _ _ _ (.refl (Nat.le_trans hn1 q4)) ⟨by dsimp only; omega, by dsimp only; rw [q0, hNe, downN_next l last (by omega)], q1, q2, q3, q5⟩ (by dsimp only; omega)
    have down : ∀ N', Need l last (j + 1) N' → (N' j = true → x.rule ≠ 1 → ∀ k ∈ x.src, N' k.toNat = true) → Need l last j N' := fun N' q1 q2 => ⟨q1.top, q1.low, fun i y hy hji hi hr => by
      by_cases e : i = j
      · subst e; rw [hx] at hy; injection hy with hy; subst hy; exact q2 hi hr
      · exact q1.shut i y hy (by omega) hi hr⟩
    cases hNj : N j with
    | false =>
      rw [hNj] at hnj
      simp (disch := first | omega | simp) [iv, hrw, hnj, bv, hjl, hws]
      exact next N H1 (by unfold stepN; rw [hNj]; rfl) (down N hN fun h => by rw [hNj] at h; cases h) hle hn (Nat.le_refl _) hrw
    | true =>
      rw [hNj] at hnj
      by_cases hrule : x.rule = 1
      · simp (disch := first | omega | simp) [iv, hrw, hnj, bv, hjl, hb1, hr1, hxj, Lin.cs, hrule, hws]
        exact next N H1 (by unfold stepN; rw [hNj, hx]; simp [hrule]) (down N hN fun _ h => absurd hrule h) hle hn (Nat.le_refl _) hrw
      · have hsrc := hr j x hx hrule
        have hx2 := hsl x (List.mem_of_getElem? hx)
        simp (disch := first | omega | simp) [iv, hrw, hnj, bv, hjl, hb1, hr1, hxj, Lin.cs, hrule, hws]
        refine loop_st (fun p : Nat × (Nat → Bool) => [iv (p.1 : Int)]) (fun p H' => p.1 ≤ x.src.length ∧ p.2 = setAll N (x.src.take p.1) ∧ Need l last (j + 1) p.2 ∧ (∀ k ∈ x.src.take p.1, p.2 k.toNat = true) ∧ H.le H' ∧ H1.nx ≤ H'.nx ∧ H'.get (H.nx + 5) = some (.row 4 1 (needRow p.2 l.length))) (fun p => x.src.length - p.1) (0, N) (.refl (Nat.le_refl _)) ⟨Nat.zero_le _, rfl, hN, by simp, hle, Nat.le_refl _, hrw⟩ ?_
        rintro ⟨q, N2⟩ H2 hn2 ⟨hq, hN2e, hN2, hall, hle2, hn3, hrw2⟩ k2 hk2
        dsimp only at hq hN2e hN2 hall hrw2 hk2
        by_cases hql : q < x.src.length
        · obtain ⟨z, hz⟩ : ∃ z, x.src[q]? = some z := ⟨_, List.getElem?_eq_getElem hql⟩
          obtain ⟨hz0, hzj⟩ := hsrc z (List.mem_of_getElem? hz)
          obtain ⟨zn, rfl⟩ := Int.eq_ofNat_of_zero_le hz0
          have hznl : (zn : Int) < (l.length : Int) := by omega
          have hzat := needRow_at (N := N2) (n := l.length) (k := zn) (by omega)
          have hmap : (List.map (fun i => [AV.p (Value.int IntKind.i64 i)]) x.src)[q]? = some [.p (.int .i64 (zn : Int))] := by rw [List.getElem?_map, hz]; rfl
          generalize hS : List.map (fun i => [AV.p (Value.int IntKind.i64 i)]) x.src = src at hmap
          have hsl2 : src.length = x.src.length := by rw [← hS, List.length_map]
          have hqi := ivn (i := q) (by omega)
          have hmg : ∀ h, src[q]'h = [.p (.int .i64 (zn : Int))] := fun h => by have := hmap; rw [List.getElem?_eq_getElem h] at this; injection this
          simp (disch := first | omega | simp) [iv, hql, hsl2, hmg, hznl, hrw2, hzat, hqi]
          refine hk2 (q + 1, setN N2 zn) _ _ _ (.refl (by first | omega | (simp only [up_nx, put_nx, kill_nx]; done) | (simp only [up_nx, put_nx, kill_nx]; omega))) ⟨hql, by dsimp only; rw [hN2e, setAll_next hz]; rfl, hN2.set (by omega) (by omega), fun k hk => ?_, (by repeat (first | with_reducible assumption | with_reducible exact AH.le.refl _ | with_reducible apply AH.le.up | (with_reducible refine AH.le.put hw ?_ ?_; · first | omega | (simp only [up_nx, put_nx, kill_nx]; done) | (simp only [up_nx, put_nx, kill_nx]; omega)) | (with_reducible refine AH.le.kill hw ?_ ?_; · first | omega | (simp only [up_nx, put_nx, kill_nx]; done) | (simp only [up_nx, put_nx, kill_nx]; omega)))), (by first | omega | (simp only [up_nx, put_nx, kill_nx]; done) | (simp only [up_nx, put_nx, kill_nx]; omega)), ?_⟩ (by dsimp only; omega)
          · dsimp only at hk ⊢
            rw [List.take_add_one, hz] at hk
            rcases List.mem_append.1 hk with hk | hk
            · exact setN_up (hall k hk)
            · simp at hk; subst hk; exact setN_at _ _
          · dsimp only
            rw [put_get, ← needRow_set]
            rfl
        · simp (disch := first | omega | simp) [iv, hql, hws]
          refine next N2 H2 (by rw [hN2e, List.take_of_length_le (by omega)]; unfold stepN; rw [hNj, hx]; simp [hrule]) (down N2 hN2 fun _ _ k hk => hall k ?_) hle2 (by omega) hn3 hrw2
          rw [List.take_of_length_le (by omega)]; exact hk
  | zero =>
    have hw1 : IntKind.i64.wrap ((last : Int) + 1) = ((last + 1 : Nat) : Int) := ivn (by omega)
    simp (disch := first | omega | simp) [iv, hb1, hw1]
    refine ⟨by omega, by omega, ?_⟩
    have hnr : ∀ {H' : AH} {u : AV} {es : List (List AV)}, Grows 36 5 H H' u es → ∀ j t ys, H'.get j = some (.row t 1 ys) → ∀ n, u ≠ .osl j 5 0 n := fun g j t ys h => g.not fun xs e => by rw [h] at e; cases e
    refine loop_st (fun p : Nat × AV => [p.2, iv (p.1 : Int)]) (fun p H' => p.1 ≤ last + 1 ∧ Grows 36 5 H H' p.2 ((outL N l p.1).map Lin.cs) ∧ H.le H' ∧ H1.nx + 7 ≤ H'.nx ∧ H'.get (H.nx + 5) = some (.row 4 1 (needRow N l.length)) ∧ ∃ num : List Int, num.length = l.length ∧ H'.get (H1.nx + 5) = some (.row 3 1 (intE num)) ∧ ∀ k, k < p.1 → N k = true → num[k]? = some ((rankN N k : Nat) : Int)) (fun p => last + 1 - p.1) (0, .p (.slice none 0 0)) (.refl (by first | omega | (simp only [up_nx, put_nx, kill_nx]; done) | (simp only [up_nx, put_nx, kill_nx]; omega))) ⟨Nat.zero_le _, .nil _ _ _ _, (by repeat (first | with_reducible assumption | with_reducible exact AH.le.refl _ | with_reducible apply AH.le.up | (with_reducible refine AH.le.put hw ?_ ?_; · first | omega | (simp only [up_nx, put_nx, kill_nx]; done) | (simp only [up_nx, put_nx, kill_nx]; omega)) | (with_reducible refine AH.le.kill hw ?_ ?_; · first | omega | (simp only [up_nx, put_nx, kill_nx]; done) | (simp only [up_nx, put_nx, kill_nx]; omega)))), (by first | omega | (simp only [up_nx, put_nx, kill_nx]; done) | (simp only [up_nx, put_nx, kill_nx]; omega)), ?_, List.replicate l.length 0, by simp, ?_, fun k hk => absurd hk (Nat.not_lt_zero _)⟩ ?_
    · simp (disch := first | omega | simp) [put_get_ne, hrw]
    · rw [put_get]; simp [intE, iv]
    rintro ⟨i, u⟩ H2 hn2 ⟨hi, hg, hle2, hn3, hrw2, num, hnl, hnum, hrk⟩ k2 hk2
    dsimp only at hi hg hrk hk2
    by_cases hil : i < last + 1
    · have hnl2 : i < l.length := by omega
      obtain ⟨x, hx⟩ : ∃ x, l[i]? = some x := ⟨_, List.getElem?_eq_getElem hnl2⟩
      have hxi : xs[i]? = some x.cs := by rw [hat i hnl2, List.getElem?_map, hx]; rfl
      have hni := needRow_at (N := N) hnl2
      have hiv := ivn (i := i) (by omega)
      have hic : (i : Int) < ((last + 1 : Nat) : Int) := by omega
      push_cast at hic
      cases hNi : N i with
      | false =>
        rw [hNi] at hni
        simp (disch := first | omega | simp) [iv, hic, hrw2, hni, bv, hnl2, hiv]
        exact hk2 (i + 1, u) _ _ _ (.refl (by omega)) ⟨hil, by rw [outL_no hNi]; exact hg, hle2, hn3, hrw2, num, hnl, hnum, fun k h1 h2 => hrk k (by dsimp only at h1; rcases Nat.lt_succ_iff_lt_or_eq.1 h1 with h | h; exact h; subst h; rw [hNi] at h2; cases h2) h2⟩ (by dsimp only; omega)
      | true =>
        rw [hNi] at hni
        have hb2 := hle2 _ _ hbx
        have hr2 := hle2 _ _ hrow
        have hal := (hw _ _ hbx).1
        have hane : a ≠ H1.nx + 5 := by omega
        have hrne : r ≠ H1.nx + 5 := by omega
        have hlo : (outL N l i).length = rankN N i := outL_len N l i (by omega)
        have hgl : ∀ (k : AV → AH → Prop) (H' : AH), Pu Try.prog .len [u] k H' = k (.p (.int .i64 ((rankN N i : Nat) : Int))) H' := fun k H' => by rw [hg.len, List.length_map, hlo]
        simp (disch := first | omega | simp) [iv, hic, hrw2, hni, bv, hnl2, hgl, hnum, intE, hnl, put_get_ne, hb2, hr2, hxi, Lin.cs]
        have hx2 := hsl x (List.mem_of_getElem? hx)
        refine ca_of (by kernel_rfl) (c_Clone x.src (by omega)) ?_
        rintro vc H3 ⟨g3, l3, n3⟩
        have n3' : H2.nx + 20 ≤ H3.nx := by simp only [up_nx, put_nx] at n3; omega
        have c3 : H3.get (H2.nx + 13) = some (.box 36 x.cs) := l3 _ _ (by simp (disch := first | omega | simp) [put_get_ne, Lin.cs, iv])
        have num3 : H3.get (H1.nx + 5) = some (.row 3 1 (intE (num.set i (rankN N i : Nat)))) := l3 _ _ (by simp (disch := first | omega | simp) [put_get_ne, intE, iv])
        have rw3 : H3.get (H.nx + 5) = some (.row 4 1 (needRow N l.length)) := l3 _ _ (by simp (disch := first | omega | simp) [put_get_ne, hrw2])
        have le3 : H.le H3 := AH.le.trans (by repeat (first | with_reducible assumption | with_reducible exact AH.le.refl _ | with_reducible apply AH.le.up | (with_reducible refine AH.le.put hw ?_ ?_; · first | omega | (simp only [up_nx, put_nx, kill_nx]; done) | (simp only [up_nx, put_nx, kill_nx]; omega)) | (with_reducible refine AH.le.kill hw ?_ ?_; · first | omega | (simp only [up_nx, put_nx, kill_nx]; done) | (simp only [up_nx, put_nx, kill_nx]; omega)))) l3
        obtain ⟨pv, pc⟩ := g3.part
        have g3' : Grows 3 1 H H3 vc (intE x.src) := g3.base (by simp only [up_nx, put_nx]; omega)
        have ge3 : ∀ n j, vc = .osl j 1 0 n → H2.nx + 20 ≤ j := fun n j e => by have := g3.ge e; simp only [up_nx, put_nx] at this; omega
        have gu3 : Grows 36 5 H H3 u ((outL N l i).map Lin.cs) := hg.up_ (by omega) fun j o hj ⟨n, hn⟩ ho => l3 _ _ (by
          have hjne : j ≠ H1.nx + 5 := fun e => by subst e; exact hnr hg _ _ _ hnum n hn
          simp (disch := first | omega | simp) [put_get_ne, hjne]; exact ho)
        have fin : ∀ (es : List Int) (H4 : AH), Grows 3 1 H H4 vc (intE es) → Grows 36 5 H H4 u ((outL N l i).map Lin.cs) → mapS N x = ⟨x.rule, x.c, es⟩ → H.le H4 → H3.nx ≤ H4.nx → H4.get (H2.nx + 13) = some (.box 36 [iv x.rule, .p (.bool x.c.so), iv x.c.a, iv x.c.b, vc]) → H4.get (H1.nx + 5) = some (.row 3 1 (intE (num.set i (rankN N i : Nat)))) → H4.get (H.nx + 5) = some (.row 4 1 (needRow N l.length)) → ∀ v' H', Grows 36 5 H H' v' ((outL N l i ++ [Lin.mk x.rule x.c es]).map Lin.cs) → H.le H' → H4.nx ≤ H'.nx → (∀ j o, H4.get j = some o → (∀ n, vc ≠ .osl j 1 0 n) → (∀ n, u ≠ .osl j 5 0 n) → j ≠ H2.nx + 13 → j < H4.nx → H'.get j = some o) → k2 [v', iv ((i + 1 : Nat) : Int)] H' := by
          intro es H4 q1 q2 q3 q4 q5 q6 q7 q8 v' H' p1 p2 p3 p4
          refine hk2 (i + 1, v') _ _ _ (.refl (by first | omega | (simp only [up_nx, put_nx, kill_nx]; done) | (simp only [up_nx, put_nx, kill_nx]; omega))) ⟨hil, ?_, p2, by omega, p4 _ _ q8 (fun n e => by have := ge3 _ _ e; omega) (hnr q2 _ _ _ q8) (by omega) (by omega), num.set i (rankN N i : Nat), by rw [List.length_set]; exact hnl, p4 _ _ q7 (fun n e => by have := ge3 _ _ e; omega) (hnr q2 _ _ _ q7) (by omega) (by omega), fun k h1 h2 => ?_⟩ (by dsimp only; omega)
          · dsimp only
            rw [outL_yes hnl2 hNi, show l[i]'hnl2 = x by have := hx; rw [List.getElem?_eq_getElem hnl2] at this; injection this, q3]; exact p1
          · dsimp only at h1
            rw [List.getElem?_set]
            by_cases e : i = k
            · subst e; rw [if_pos rfl, if_pos (by omega)]
            · rw [if_neg e]; exact hrk k (by omega) h2
        have hu13 : ∀ n, u ≠ .osl (H2.nx + 13) 5 0 n := gu3.not fun ys e => by rw [c3] at e; cases e
        have hv13 : ∀ n, vc ≠ .osl (H2.nx + 13) 1 0 n := g3'.not fun ys e => by rw [c3] at e; cases e
        obtain ⟨H4, hH4⟩ : ∃ H4, H4 = H3.put (H2.nx + 13) (.box 36 [.p (.int .i64 x.rule), .p (.bool x.c.so), .p (.int .i64 x.c.a), .p (.int .i64 x.c.b), vc]) := ⟨_, rfl⟩
        have n4 : H4.nx = H3.nx := by rw [hH4]; rfl
        have k4 : ∀ j, j ≠ H2.nx + 13 → H4.get j = H3.get j := fun j hj => by rw [hH4]; exact put_get_ne _ _ _ hj
        have c4 : H4.get (H2.nx + 13) = some (.box 36 [iv x.rule, .p (.bool x.c.so), iv x.c.a, iv x.c.b, vc]) := by rw [hH4, put_get]; rfl
        have g4 : Grows 3 1 H H4 vc (intE x.src) := g3'.same (by omega) fun j hj ⟨n, hn⟩ => k4 j fun e => hv13 n (by rw [← e]; exact hn)
        have gu4 : Grows 36 5 H H4 u ((outL N l i).map Lin.cs) := gu3.same (by omega) fun j hj ⟨n, hn⟩ => k4 j fun e => hu13 n (by rw [← e]; exact hn)
        have num4 : H4.get (H1.nx + 5) = some (.row 3 1 (intE (num.set i (rankN N i : Nat)))) := (k4 _ (by omega)).trans num3
        have rw4 : H4.get (H.nx + 5) = some (.row 4 1 (needRow N l.length)) := (k4 _ (by omega)).trans rw3
        have le4 : H.le H4 := by rw [hH4]; exact (by repeat (first | with_reducible assumption | with_reducible exact AH.le.refl _ | with_reducible apply AH.le.up | (with_reducible refine AH.le.put hw ?_ ?_; · first | omega | (simp only [up_nx, put_nx, kill_nx]; done) | (simp only [up_nx, put_nx, kill_nx]; omega)) | (with_reducible refine AH.le.kill hw ?_ ?_; · first | omega | (simp only [up_nx, put_nx, kill_nx]; done) | (simp only [up_nx, put_nx, kill_nx]; omega))))
        simp (disch := first | omega | simp) [c3, Lin.cs, iv, pv, pc]
        rw [← hH4]
        refine ⟨fun hrule => ?_, fun hrule => ?_⟩
        · have hil2 : (intE x.src).length = x.src.length := by simp [intE]
          have hsrc := hr i x hx hrule
          simp (disch := first | omega | simp) [g3'.len, hil2]
          refine loop_st (fun p : Nat => [iv (p : Int)]) (fun p H' => p ≤ x.src.length ∧ Grows 3 1 H H' vc (intE (mixL N x.src p)) ∧ Grows 36 5 H H' u ((outL N l i).map Lin.cs) ∧ H.le H' ∧ H3.nx ≤ H'.nx ∧ H'.get (H2.nx + 13) = some (.box 36 [iv x.rule, .p (.bool x.c.so), iv x.c.a, iv x.c.b, vc]) ∧ H'.get (H1.nx + 5) = some (.row 3 1 (intE (num.set i (rankN N i : Nat)))) ∧ H'.get (H.nx + 5) = some (.row 4 1 (needRow N l.length))) (fun p => x.src.length - p) 0 (.refl (Nat.le_refl _)) ⟨Nat.zero_le _, by simpa [mixL] using g4, gu4, le4, by omega, c4, num4, rw4⟩ ?_
          rintro q H5 hn5 ⟨hq, gv5, gu5, le5, n5, c5, num5, rw5⟩ k5 hk5
          by_cases hql : q < x.src.length
          · obtain ⟨z, hz⟩ : ∃ z, x.src[q]? = some z := ⟨_, List.getElem?_eq_getElem hql⟩
            obtain ⟨hz0, hzj⟩ := hsrc z (List.mem_of_getElem? hz)
            obtain ⟨zn, rfl⟩ := Int.eq_ofNat_of_zero_le hz0
            have hNz : N zn = true := by have := hN.shut i x hx (Nat.zero_le _) hNi hrule zn (List.mem_of_getElem? hz); simpa using this
            have hrz := hrk zn (by omega) hNz
            have hmz := mixL_at (N := N) hz
            have hms := mixL_set (N := N) hz
            have hml := mixL_len N x.src q
            have hqi := ivn (i := q) (by omega)
            have hzi : zn ≠ i := by omega
            obtain ⟨r5, x5, rfl, h5l, h5g, h5at⟩ := gv5.at_ (by simp [intE, hml]; omega)
            have hx5 : x5[q]? = some [.p (.int .i64 (zn : Int))] := by rw [h5at q (by simp [intE, hml]; omega)]; simp [intE, hmz, iv]
            have hnr5 : (intE (num.set i (rankN N i : Nat)))[zn]? = some [.p (.int .i64 ((rankN N zn : Nat) : Int))] := by simp [intE, List.getElem?_map, List.getElem?_set, hzi.symm, hrz, iv]
            have hnrl : (intE (num.set i (rankN N i : Nat))).length = l.length := by simp [intE, hnl]
            have hil5 : (intE (mixL N x.src q)).length = x.src.length := by simp [intE, hml]
            have hznl : (zn : Int) < (l.length : Int) := by omega
            have hge5 := ge3 _ _ rfl
            have h5c : ¬ r5 = H2.nx + 13 := fun e => by subst e; rw [h5g] at c5; cases c5
            have hxlt := (List.getElem?_eq_some_iff.1 hx5).1
            generalize intE (num.set i (rankN N i : Nat)) = nr at *
            have hxg : ∀ h, x5[q]'h = [.p (.int .i64 (zn : Int))] := fun h => (List.getElem?_eq_some_iff.1 hx5).2
            have hng : ∀ h, nr[zn]'h = [.p (.int .i64 ((rankN N zn : Nat) : Int))] := fun h => (List.getElem?_eq_some_iff.1 hnr5).2
            have hu5 := gu5.apart gv5 (by decide) ⟨_, rfl⟩
            have gvu : Grows 3 1 H (H5.up 13) (.osl r5 1 0 (intE (mixL N x.src q)).length) (intE (mixL N x.src q)) := gv5.up_ (by first | omega | (simp only [up_nx, put_nx, kill_nx]; done) | (simp only [up_nx, put_nx, kill_nx]; omega)) fun j o _ _ h => h
            have gvp := gvu.put h5g (q := q) (e := [iv ((rankN N zn : Nat) : Int)]) (by intro a ha; simp at ha; subst ha; exact Dt.p _)
            simp (disch := first | omega | simp) [iv, hql, c5, h5g, hxg, num5, hng, hqi, hil5, hznl, hxlt, hnrl]
            rw [Int.toNat_natCast] at hms
            refine hk5 (q + 1) _ _ _ (.refl (by first | omega | (simp only [up_nx, put_nx, kill_nx]; done) | (simp only [up_nx, put_nx, kill_nx]; omega))) ⟨hql, ?_, gu5.up_ (by first | omega | (simp only [up_nx, put_nx, kill_nx]; done) | (simp only [up_nx, put_nx, kill_nx]; omega)) (fun j o hj ⟨n, hn⟩ ho => ?_), (by repeat (first | with_reducible assumption | with_reducible exact AH.le.refl _ | with_reducible apply AH.le.up | (with_reducible refine AH.le.put hw ?_ ?_; · first | omega | (simp only [up_nx, put_nx, kill_nx]; done) | (simp only [up_nx, put_nx, kill_nx]; omega)) | (with_reducible refine AH.le.kill hw ?_ ?_; · first | omega | (simp only [up_nx, put_nx, kill_nx]; done) | (simp only [up_nx, put_nx, kill_nx]; omega)))), (by first | omega | (simp only [up_nx, put_nx, kill_nx]; done) | (simp only [up_nx, put_nx, kill_nx]; omega)), ?_, ?_, ?_⟩ (by omega)
            · rw [← hms, ← intE_set]; exact gvp
            · rw [put_get_ne _ _ _ (fun e => by subst e; exact hu5 n hn)]; exact ho
            · rw [put_get_ne _ _ _ (fun e => h5c e.symm)]; exact c5
            · rw [put_get_ne _ _ _ (by omega)]; exact num5
            · rw [put_get_ne _ _ _ (by omega)]; exact rw5
          · have hqe : q = x.src.length := by omega
            subst hqe
            rw [mixL_all] at gv5
            simp (disch := first | omega | simp) [iv]
            refine needed_fin (x := x) hw le5 (by first | omega | (simp only [up_nx, put_nx, kill_nx]; done) | (simp only [up_nx, put_nx, kill_nx]; omega)) gu5 gv5 c5 (by first | omega | (simp only [up_nx, put_nx, kill_nx]; done) | (simp only [up_nx, put_nx, kill_nx]; omega)) (by first | omega | (simp only [up_nx, put_nx, kill_nx]; done) | (simp only [up_nx, put_nx, kill_nx]; omega)) (by rw [hlo]; have := rank_le N i; omega) (by omega) (fin _ H5 gv5 gu5 ?_ le5 n5 c5 num5 rw5)
            unfold mapS; rw [if_neg hrule]
        · refine needed_fin (x := x) hw le4 (by first | omega | (simp only [up_nx, put_nx, kill_nx]; done) | (simp only [up_nx, put_nx, kill_nx]; omega)) gu4 g4 c4 (by first | omega | (simp only [up_nx, put_nx, kill_nx]; done) | (simp only [up_nx, put_nx, kill_nx]; omega)) (by first | omega | (simp only [up_nx, put_nx, kill_nx]; done) | (simp only [up_nx, put_nx, kill_nx]; omega)) (by rw [hlo]; have := rank_le N i; omega) (by omega) (fin x.src H4 g4 gu4 ?_ le4 (by omega) c4 num4 rw4)
          unfold mapS; rw [if_pos hrule]
    · have hie : i = last + 1 := by omega
      subst hie
      simp (disch := first | omega | simp) [iv]
      exact hg.rt hw hle2 (by omega) ⟨rfl, by rw [hNe]; rfl⟩)
end Go.Proofs.Ytcmnjoepadjioaa

/- The arguer's lines, plainly: each is right, no claim stands twice; all has come of all. No walk in sight. -/
namespace Go.Proofs.Ytcmnjoepadjioaa
open Go.RowKit Go.Maps
def cl (l : List Lin) : List Clm := l.map (·.c)
theorem idxC_some {l : List Lin} {c : Clm} {i : Nat} (h : idxC l c = some i) : ∃ x, l[i]? = some x ∧ x.c = c := by
  unfold idxC at h
  rw [List.findIdx?_eq_some_iff_getElem] at h
  obtain ⟨h1, h2, _⟩ := h
  exact ⟨l[i], List.getElem?_eq_getElem h1, by simpa using h2⟩
theorem idxC_none {l : List Lin} {c : Clm} : idxC l c = none ↔ c ∉ cl l := by
  unfold idxC cl
  rw [List.findIdx?_eq_none_iff]
  simp
theorem idxC_mem {l : List Lin} {c : Clm} (h : c ∈ cl l) : ∃ i, idxC l c = some i := by
  cases hi : idxC l c with
  | none => exact absurd h (idxC_none.1 hi)
  | some i => exact ⟨i, rfl⟩
/-- the one goes on as the other -/
def pre (l l' : List Lin) : Prop := ∃ t, l' = l ++ t
theorem pre.refl (l : List Lin) : pre l l := ⟨[], by simp⟩
theorem pre.trans {a b c : List Lin} (h : pre a b) (k : pre b c) : pre a c := by
  obtain ⟨t, rfl⟩ := h; obtain ⟨u, rfl⟩ := k; exact ⟨t ++ u, by simp⟩
theorem pre.at_ {l l' : List Lin} (h : pre l l') {i : Nat} {x : Lin} (hx : l[i]? = some x) : l'[i]? = some x := by
  obtain ⟨t, rfl⟩ := h
  rw [List.getElem?_append_left (List.getElem?_eq_some_iff.1 hx).1]; exact hx
theorem pre.mem {l l' : List Lin} (h : pre l l') {c : Clm} (hc : c ∈ cl l) : c ∈ cl l' := by
  obtain ⟨t, rfl⟩ := h
  unfold cl at hc ⊢
  rw [List.map_append]; exact List.mem_append_left _ hc
theorem pre.len {l l' : List Lin} (h : pre l l') : l.length ≤ l'.length := by
  obtain ⟨t, rfl⟩ := h
  rw [List.length_append]; omega
theorem pre.back {l l' : List Lin} (h : pre l l') {i : Nat} {x : Lin} (hi : i < l.length) (hx : l'[i]? = some x) : l[i]? = some x := by
  obtain ⟨t, rfl⟩ := h
  rwa [List.getElem?_append_left hi] at hx
theorem putL_pre (l : List Lin) (x : Lin) : pre l (putL l x) := by
  cases h : idxC l x.c with
  | none => rw [putL_new h]; exact ⟨_, rfl⟩
  | some i => rw [putL_old h]; exact .refl l
theorem putL_mem (l : List Lin) (x : Lin) : x.c ∈ cl (putL l x) := by
  cases h : idxC l x.c with
  | none => rw [putL_new h]; simp [cl]
  | some i =>
    rw [putL_old h]
    obtain ⟨y, hy, e⟩ := idxC_some h
    rw [← e]
    exact List.mem_map.2 ⟨y, List.mem_of_getElem? hy, rfl⟩
theorem pickC_append {l t : List Clm} {n : Nat} (hn : n ≤ l.length) : ∀ src, pickC (l ++ t) n src = pickC l n src
  | [] => rfl
  | k :: r => by
    rw [pickC, pickC]
    by_cases h : 0 ≤ k ∧ k < (n : Int)
    · rw [if_pos h, if_pos h, pickC_append hn r, List.getElem?_append_left (by omega)]
    · rw [if_neg h, if_neg h]
structure LI (p : List Clm) (l : List Lin) : Prop where
  right : allRight p l
  ok : ∀ x ∈ l, x.c.ok
  nd : (cl l).Nodup
  src : ∀ x ∈ l, x.src.length ≤ 2
theorem LI.nil (p : List Clm) : LI p [] := ⟨fun n x h => by simp at h, by simp, by simp [cl], by simp⟩
theorem right_append {p : List Clm} {l t : List Lin} {n : Nat} {x : Lin} (hn : n ≤ l.length) : rightB p ((l ++ t).map (·.c)) n x = rightB p (l.map (·.c)) n x := by
  unfold rightB
  rw [List.map_append, pickC_append (by rw [List.length_map]; exact hn)]
theorem LI.put {p : List Clm} {l : List Lin} (h : LI p l) {x : Lin} (hc : x.c.ok) (hs : x.src.length ≤ 2) (hr : rightB p (l.map (·.c)) l.length x = true) : LI p (putL l x) := by
  cases hi : idxC l x.c with
  | some i => rw [putL_old hi]; exact h
  | none =>
    rw [putL_new hi]
    refine ⟨fun n y hy => ?_, fun y hy => ?_, ?_, fun y hy => ?_⟩
    · by_cases hn : n < l.length
      · rw [List.getElem?_append_left hn] at hy
        rw [right_append (by omega)]; exact h.right n y hy
      · rw [List.getElem?_append_right (by omega)] at hy
        have h0 : n - l.length = 0 := by have := (List.getElem?_eq_some_iff.1 hy).1; simp at this; omega
        rw [h0] at hy
        simp at hy; subst hy
        rw [show n = l.length by omega, right_append (Nat.le_refl _)]; exact hr
    · rcases List.mem_append.1 hy with hy | hy
      · exact h.ok y hy
      · simp at hy; subst hy; exact hc
    · have := idxC_none.1 hi
      unfold cl at this ⊢
      rw [List.map_append]
      exact List.nodup_append.2 ⟨h.nd, by simp, fun a ha b hb e => by simp at hb; subst hb; subst e; exact this ha⟩
    · rcases List.mem_append.1 hy with hy | hy
      · exact h.src y hy
      · simp at hy; subst hy; exact hs
theorem nat_bound : ∀ (n : Nat) (l : List Nat), l.Nodup → (∀ x ∈ l, x < n) → l.length ≤ n
  | 0, l, _, h => by
    cases l with
    | nil => simp
    | cons a r => exact absurd (h a (by simp)) (Nat.not_lt_zero _)
  | n + 1, l, hd, h => by
    have ih := nat_bound n (l.erase n) (hd.erase n) (fun x hx => by
      have := (List.Nodup.mem_erase_iff hd).1 hx
      have := h x this.2
      omega)
    have := List.length_erase (a := n) (l := l)
    split at this <;> omega
def litN (x : Int) : Nat := if x < 0 then (x + 6).toNat else (x + 5).toNat
def clmN (c : Clm) : Nat := (if c.so then 144 else 0) + litN c.a * 12 + litN c.b
theorem litN_lt {x : Int} (h : litOk x) : litN x < 12 := by unfold litOk at h; unfold litN; split <;> omega
theorem litN_inj {x y : Int} (h : litOk x) (k : litOk y) (e : litN x = litN y) : x = y := by
  unfold litOk at h k; unfold litN at e
  split at e <;> split at e <;> omega
theorem clmN_lt {c : Clm} (h : c.ok) : clmN c < 288 := by
  have h1 := litN_lt h.1; have h2 := litN_lt h.2
  unfold clmN; split <;> omega
theorem clmN_inj {c d : Clm} (h : c.ok) (k : d.ok) (e : clmN c = clmN d) : c = d := by
  have h1 := litN_lt h.1; have h2 := litN_lt h.2; have k1 := litN_lt k.1; have k2 := litN_lt k.2
  unfold clmN at e
  refine clm_ext ?_ (litN_inj h.1 k.1 ?_) (litN_inj h.2 k.2 ?_)
  · cases hc : c.so <;> cases hd : d.so <;> simp [hc, hd] at e <;> first | rfl | omega
  · split at e <;> split at e <;> omega
  · split at e <;> split at e <;> omega
theorem LI.len {p : List Clm} {l : List Lin} (h : LI p l) : l.length ≤ 288 := by
  have hok : ∀ c ∈ cl l, c.ok := fun c hc => by obtain ⟨x, hx, rfl⟩ := List.mem_map.1 hc; exact h.ok x hx
  have := nat_bound 288 ((cl l).map clmN) (by
    rw [List.Nodup, List.pairwise_map]
    exact List.Pairwise.imp_of_mem (fun {a b} ha hb hne e => hne (clmN_inj (hok a ha) (hok b hb) e)) h.nd) (fun x hx => by
    obtain ⟨c, hc, rfl⟩ := List.mem_map.1 hx
    exact clmN_lt (hok c hc))
  simpa [cl] using this
def oneC (l : List Lin) (c : Clm) : Prop :=
  (c.so = true → (⟨true, c.b, c.a⟩ : Clm) ∈ cl l ∧ (⟨true, c.a, c.a⟩ : Clm) ∈ cl l) ∧ (c.so = false → (⟨false, -c.b, -c.a⟩ : Clm) ∈ cl l ∧ (c.b = -c.a → ∀ y, litOk y → (⟨false, c.a, y⟩ : Clm) ∈ cl l))
def twoC (l : List Lin) (c d : Clm) : Prop := d.so = false → c.b = d.a → (⟨c.so, c.a, d.b⟩ : Clm) ∈ cl l
theorem oneC.pre {l l' : List Lin} (h : pre l l') {c : Clm} (k : oneC l c) : oneC l' c :=
  ⟨fun e => ⟨h.mem (k.1 e).1, h.mem (k.1 e).2⟩, fun e => ⟨h.mem (k.2 e).1, fun e2 y hy => h.mem ((k.2 e).2 e2 y hy)⟩⟩
theorem twoC.pre {l l' : List Lin} (h : pre l l') {c d : Clm} (k : twoC l c d) : twoC l' c d := fun e1 e2 => h.mem (k e1 e2)
theorem pick_one {l : List Clm} {n i : Nat} {c : Clm} (h : l[i]? = some c) (hi : i < n) : pickC l n [(i : Int)] = some [c] := by
  rw [pickC, if_pos ⟨by omega, by omega⟩, Int.toNat_natCast, h]; rfl
theorem pick_two {l : List Clm} {n i k : Nat} {c d : Clm} (h : l[i]? = some c) (hi : i < n) (h2 : l[k]? = some d) (hk : k < n) : pickC l n [(i : Int), (k : Int)] = some [c, d] := by
  rw [pickC, if_pos ⟨by omega, by omega⟩, Int.toNat_natCast, h, pick_one h2 hk]
theorem right_one {p : List Clm} {l : List Lin} {i : Nat} {x y : Lin} (hx : l[i]? = some x) (hs : y.src = [(i : Int)]) (h1 : y.rule ≠ 1) (hr : ruleB y.rule y.c [x.c] = true) : rightB p (l.map (·.c)) l.length y = true := by
  have hi := (List.getElem?_eq_some_iff.1 hx).1
  unfold rightB
  rw [if_neg h1, hs, pick_one (c := x.c) (by rw [List.getElem?_map, hx]; rfl) hi]; exact hr
theorem right_two {p : List Clm} {l : List Lin} {i k : Nat} {x y z : Lin} (hx : l[i]? = some x) (hz : l[k]? = some z) (hs : y.src = [(i : Int), (k : Int)]) (h1 : y.rule ≠ 1) (hr : ruleB y.rule y.c [x.c, z.c] = true) : rightB p (l.map (·.c)) l.length y = true := by
  have hi := (List.getElem?_eq_some_iff.1 hx).1
  have hk := (List.getElem?_eq_some_iff.1 hz).1
  unfold rightB
  rw [if_neg h1, hs, pick_two (c := x.c) (d := z.c) (by rw [List.getElem?_map, hx]; rfl) hi (by rw [List.getElem?_map, hz]; rfl) hk]; exact hr
theorem litOk_nouns {y : Int} : y ∈ nouns ↔ litOk y := by
  constructor
  · intro h; simp [nouns] at h; rcases h with rfl | rfl | rfl | rfl | rfl | rfl | rfl | rfl | rfl | rfl | rfl | rfl <;> decide
  · intro h; unfold litOk at h; simp [nouns]; omega
theorem LI.void {p : List Clm} {i : Nat} {x : Lin} (hok : x.c.ok) (hso : x.c.so = false) (hb : x.c.b = -x.c.a) : ∀ (ns : List Int) (l : List Lin), LI p l → l[i]? = some x → (∀ n ∈ ns, litOk n) →
    LI p (voidL x.c i l ns) ∧ pre l (voidL x.c i l ns) ∧ ∀ n ∈ ns, (⟨false, x.c.a, n⟩ : Clm) ∈ cl (voidL x.c i l ns)
  | [], l, h, _, _ => ⟨h, .refl l, by simp⟩
  | n :: r, l, h, hx, hn => by
    have h1 := h.put (x := ⟨5, ⟨false, x.c.a, n⟩, [(i : Int)]⟩) ⟨hok.1, hn n (by simp)⟩ (by simp) (right_one hx rfl (by show (5 : Int) ≠ 1; decide) (by simp [ruleB, hso, hb]))
    have p1 := putL_pre l ⟨5, ⟨false, x.c.a, n⟩, [(i : Int)]⟩
    obtain ⟨h2, p2, q⟩ := LI.void hok hso hb r _ h1 (p1.at_ hx) (fun n hn' => hn n (by simp [hn']))
    refine ⟨h2, p1.trans p2, fun m hm => ?_⟩
    rcases List.mem_cons.1 hm with rfl | hm
    · exact p2.mem (putL_mem l ⟨5, ⟨false, x.c.a, m⟩, [(i : Int)]⟩)
    · exact q m hm
theorem LI.one {p : List Clm} {l : List Lin} (h : LI p l) {i : Nat} {x : Lin} (hx : l[i]? = some x) : LI p (oneL l x.c i) ∧ pre l (oneL l x.c i) ∧ oneC (oneL l x.c i) x.c := by
  have hok := h.ok x (List.mem_of_getElem? hx)
  unfold oneL
  cases hso : x.c.so with
  | true =>
    rw [if_pos rfl]
    have h1 := h.put (x := ⟨7, ⟨true, x.c.b, x.c.a⟩, [(i : Int)]⟩) ⟨hok.2, hok.1⟩ (by simp) (right_one hx rfl (by show (7 : Int) ≠ 1; decide) (by simp [ruleB, hso]))
    have p1 := putL_pre l ⟨7, ⟨true, x.c.b, x.c.a⟩, [(i : Int)]⟩
    have h2 := h1.put (x := ⟨8, ⟨true, x.c.a, x.c.a⟩, [(i : Int)]⟩) ⟨hok.1, hok.1⟩ (by simp) (right_one (p1.at_ hx) rfl (by show (8 : Int) ≠ 1; decide) (by simp [ruleB, hso]))
    have p2 := putL_pre (putL l ⟨7, ⟨true, x.c.b, x.c.a⟩, [(i : Int)]⟩) ⟨8, ⟨true, x.c.a, x.c.a⟩, [(i : Int)]⟩
    exact ⟨h2, p1.trans p2, fun _ => ⟨p2.mem (putL_mem l ⟨7, ⟨true, x.c.b, x.c.a⟩, [(i : Int)]⟩), putL_mem _ ⟨8, ⟨true, x.c.a, x.c.a⟩, [(i : Int)]⟩⟩, fun e => by rw [hso] at e; cases e⟩
  | false =>
    rw [if_neg (by decide)]
    have h1 := h.put (x := ⟨4, ⟨false, -x.c.b, -x.c.a⟩, [(i : Int)]⟩) ⟨lit_neg hok.2, lit_neg hok.1⟩ (by simp) (right_one hx rfl (by show (4 : Int) ≠ 1; decide) (by simp [ruleB, hso]))
    have p1 := putL_pre l ⟨4, ⟨false, -x.c.b, -x.c.a⟩, [(i : Int)]⟩
    have m1 := putL_mem l ⟨4, ⟨false, -x.c.b, -x.c.a⟩, [(i : Int)]⟩
    by_cases hb : x.c.b = -x.c.a
    · rw [if_pos hb]
      obtain ⟨h2, p2, q⟩ := LI.void hok hso hb nouns _ h1 (p1.at_ hx) (fun n hn => litOk_nouns.1 hn)
      exact ⟨h2, p1.trans p2, ⟨fun e => (by rw [hso] at e; cases e), fun _ => ⟨p2.mem m1, fun _ y hy => q y (litOk_nouns.2 hy)⟩⟩⟩
    · rw [if_neg hb]
      exact ⟨h1, p1, ⟨fun e => (by rw [hso] at e; cases e), fun _ => ⟨m1, fun e => absurd e hb⟩⟩⟩
theorem LI.two {p : List Clm} {l : List Lin} (h : LI p l) {i k : Nat} {x y : Lin} (hx : l[i]? = some x) (hy : l[k]? = some y) : LI p (twoL l x.c y.c i k) ∧ pre l (twoL l x.c y.c i k) ∧ twoC (twoL l x.c y.c i k) x.c y.c := by
  have hok := h.ok x (List.mem_of_getElem? hx)
  have hok2 := h.ok y (List.mem_of_getElem? hy)
  unfold twoL
  cases hso : y.c.so with
  | true => exact ⟨by simpa using h, by simpa using pre.refl l, fun e => by rw [hso] at e; cases e⟩
  | false =>
    rw [if_neg (by decide)]
    by_cases hb : x.c.b = y.c.a
    · rw [if_pos hb]
      refine ⟨h.put ⟨hok.1, hok2.2⟩ (by simp) (right_two hx hy rfl (by show (if x.c.so then (9 : Int) else 3) ≠ 1; split <;> decide) ?_), putL_pre _ _, fun _ _ => putL_mem l ⟨_, ⟨x.c.so, x.c.a, y.c.b⟩, _⟩⟩
      cases hxs : x.c.so <;> simp [ruleB, hso, hxs, hb]
    · rw [if_neg hb]
      exact ⟨h, .refl l, fun _ e => absurd e hb⟩
def DoneL (l : List Lin) (d : Nat) : Prop := ∀ (i : Nat) (x : Lin), i < d → l[i]? = some x → oneC l x.c ∧ ∀ (j : Nat) (y : Lin), j < d → l[j]? = some y → twoC l x.c y.c
theorem DoneL.pre {l l' : List Lin} {d : Nat} (h : DoneL l d) (k : pre l l') (hd : d ≤ l.length) : DoneL l' d := fun i x hi hx => by
  obtain ⟨q1, q2⟩ := h i x hi (k.back (by omega) hx)
  exact ⟨q1.pre k, fun j y hj hy => (q2 j y hj (k.back (by omega) hy)).pre k⟩
def MidL (l : List Lin) (d k : Nat) : Prop := ∀ x, l[d]? = some x → oneC l x.c ∧ ∀ (j : Nat) (y : Lin), j < k → l[j]? = some y → twoC l x.c y.c ∧ twoC l y.c x.c
theorem MidL.pre {l l' : List Lin} {d k : Nat} (h : MidL l d k) (q : pre l l') (hd : d < l.length) (hk : k ≤ l.length) : MidL l' d k := fun x hx => by
  obtain ⟨q1, q2⟩ := h x (q.back hd hx)
  exact ⟨q1.pre q, fun j y hj hy => by
    obtain ⟨r1, r2⟩ := q2 j y hj (q.back (by omega) hy)
    exact ⟨r1.pre q, r2.pre q⟩⟩
theorem DoneL.next {l : List Lin} {d : Nat} (h : DoneL l d) (k : MidL l d (d + 1)) : DoneL l (d + 1) := fun i x hi hx => by
  by_cases e : i = d
  · subst e
    obtain ⟨q1, q2⟩ := k x hx
    exact ⟨q1, fun j y hj hy => (q2 j y hj hy).1⟩
  · obtain ⟨q1, q2⟩ := h i x (by omega) hx
    refine ⟨q1, fun j y hj hy => ?_⟩
    by_cases e2 : j = d
    · subst e2; exact ((k y hy).2 i x hi hx).2
    · exact q2 j y (by omega) hy
theorem DoneL.closed {p : List Clm} {l : List Lin} (h : LI p l) (d : DoneL l l.length) (hp : ∀ c ∈ p, c ∈ cl l) (hs : ∀ x, litOk x → (⟨false, x, x⟩ : Clm) ∈ cl l) : Closed p (cl l) := by
  have at_ : ∀ {c : Clm}, c ∈ cl l → ∃ i x, i < l.length ∧ l[i]? = some x ∧ x.c = c := fun {c} hc => by
    obtain ⟨x, hx, rfl⟩ := List.mem_map.1 hc
    obtain ⟨i, hi⟩ := List.getElem?_of_mem hx
    exact ⟨i, x, (List.getElem?_eq_some_iff.1 hi).1, hi, rfl⟩
  have one : ∀ {c : Clm}, c ∈ cl l → oneC l c := fun {c} hc => by
    obtain ⟨i, x, hi, hx, rfl⟩ := at_ hc; exact (d i x hi hx).1
  have two : ∀ {c e : Clm}, c ∈ cl l → e ∈ cl l → twoC l c e := fun {c e} hc he => by
    obtain ⟨i, x, hi, hx, rfl⟩ := at_ hc
    obtain ⟨j, y, hj, hy, rfl⟩ := at_ he
    exact (d i x hi hx).2 j y hj hy
  refine ⟨fun c hc => ?_, hp, hs, fun a b c h1 h2 => two h1 h2 rfl rfl, fun a b h1 => ((one h1).2 rfl).1, fun a y h1 hy => ((one h1).2 rfl).2 rfl y hy, fun a b h1 => ((one h1).1 rfl).1, fun a b h1 => ((one h1).1 rfl).2, fun a b c h1 h2 => two h1 h2 rfl rfl⟩
  obtain ⟨i, x, hi, hx, rfl⟩ := at_ hc
  exact h.ok x (List.mem_of_getElem? hx)
theorem no_clash {l : List Lin} (h : ∀ x ∈ l, x.c.so = false → idxC l (opp x.c) = none) : ¬ clashed (cl l) := by
  rintro ⟨a, b, h1, h2⟩
  obtain ⟨x, hx, e⟩ := List.mem_map.1 h1
  have := idxC_none.1 (h x hx (by rw [e]))
  unfold opp at this
  rw [e] at this
  exact this h2
theorem LI.out {p : List Clm} {l : List Lin} (h : LI p l) {last : Nat} {x : Lin} (hx : l[last]? = some x) :
    allRight p (outL (theN l last) l (last + 1)) ∧ (∀ y ∈ outL (theN l last) l (last + 1), y.c.ok) ∧ (outL (theN l last) l (last + 1)).length ≤ 288 ∧ ∃ init y, outL (theN l last) l (last + 1) = init ++ [y] ∧ y.c = x.c := by
  have hl := (List.getElem?_eq_some_iff.1 hx).1
  have hle := h.len
  have hN := need_the (last := last) fun i y hy h1 => right_src h.right hy h1
  refine ⟨out_right h.right (fun i y hy hi h1 => hN.shut i y hy (Nat.zero_le _) hi h1) (by omega), out_ok h.ok (by omega), ?_, outL (theN l last) l last, mapS (theN l last) x, ?_, mapS_c _ _⟩
  · rw [outL_len _ _ _ (by omega)]; have := rank_le (theN l last) (last + 1); omega
  · rw [outL_yes hl hN.top, (List.getElem?_eq_some_iff.1 hx).2]
end Go.Proofs.Ytcmnjoepadjioaa

/- Argue: an argument just for what follows. -/
namespace Go.Proofs.Ytcmnjoepadjioaa
open Go.RowKit Go.Maps
/-- what Argue answers -/
def argR (p : List Clm) (c : Clm) (r : AV) : Prop :=
  (okP p [c] ≠ 0 ∧ r = .tup [.p (.slice none 0 0), bv false, iv (okP p [c])]) ∨
  (okP p [c] = 0 ∧ agB p c = false ∧ ∃ out : List Lin, r = .tup [.dsl 5 (out.map Lin.cs), bv true, iv 0] ∧ allRight p out ∧ (∀ y ∈ out, y.c.ok) ∧ out.length ≤ 288 ∧ ∃ init y, out = init ++ [y] ∧ y.c = c) ∨
  (okP p [c] = 0 ∧ agB p c = true ∧ r = .tup [.p (.slice none 0 0), bv false, iv 0])
theorem okP_zero {p l : List Clm} (h : okP p l = 0) : p.length ≤ 20 ∧ ∀ c ∈ p ++ l, c.ok := by
  unfold okP at h
  split at h
  · cases h
  · unfold okL at h
    split at h
    · rename_i h1 h2
      exact ⟨by omega, fun c hc => by simpa using (List.all_eq_true.1 h2) c hc⟩
    · cases h
/-- a row laid for a call is handed over -/
theorem ca_row {P : Program} {H : AH} {f : FuncId} {r n : Nat} {t : TypeId} {sz : Nat} {es : List (List AV)} {ps qs : List AV} {Q : AV → AH → Prop} {k : AV → AH → Prop} (hc : callable P f = true) (hr : H.get r = some (.row t sz es)) (hd : DtR es) (hn : n = es.length)
    (h : Tri P f (ps ++ .dsl sz es :: qs) (H.put r (.frz sz es)) Q) (hk : ∀ v H', Q v H' → k v H') : Ca P (.fn (.func f) [] []) (ps ++ .osl r sz 0 n :: qs) k H := by
  subst hn
  refine ca_of hc (Tri.st (.freeze hr hd) (Tri.args (qs := ps ++ .dsl sz es :: qs) ⟨by simp, fun i a b ha hb => ?_⟩ h)) hk
  have hs := Sub.frz (P := P) (H := H.put r (.frz sz es)) (r := r) (off := 0) (n := es.length) (put_get _ _) (by simp)
  rw [List.drop_zero, List.take_length] at hs
  simp only [List.nil_append, List.append_nil] at ha
  rw [List.getElem?_append] at ha hb
  split at ha
  · rename_i hi
    rw [if_pos hi] at hb
    rw [ha] at hb; injection hb with hb; subst hb; exact Sub.refl _
  · rename_i hi
    rw [if_neg hi] at hb
    cases he : i - ps.length with
    | zero => rw [he] at ha hb; simp at ha hb; subst ha; subst hb; exact hs
    | succ q => rw [he] at ha hb; simp at ha hb; rw [ha] at hb; injection hb with hb; subst hb; exact Sub.refl _
/-- put is called with no numbers -/
theorem ca_put0 {H : AH} {a m : Nat} {v : AV} {l : List Lin} (h : ArgH H a m v l) (rule : Int) (c : Clm) (hc : c.ok) (hb : l.length < 1000000) {k : AV → AH → Prop}
    (hk : ∀ v' H', ArgH H' a m v' (putL l ⟨rule, c, []⟩) → Fr a m H v H' v' → k (.tup []) H') : Ca Try.prog (.fn (.func 26) [] []) [.ptr a 0, .p (.int .i64 rule), .agg [.p (.bool c.so), .p (.int .i64 c.a), .p (.int .i64 c.b)], .p (.slice none 0 0)] k H := by
  refine ca_of (by kernel_rfl) (Tri.args (.cons (Sub.refl _) (.cons (Sub.refl _) (.cons (Sub.refl _) (.cons (Sub.nil 1 0 (Nat.zero_le _)) .nil)))) (c_put h rule [] c hc hb)) ?_
  rintro _ H' ⟨rfl, v', h3, h4⟩
  exact hk v' H' h3 h4
theorem ArgH.frz {H : AH} {a m : Nat} {v : AV} {l : List Lin} (h : ArgH H a m v l) {r : Nat} {o : AO} (hr : H.nx ≤ r) : ArgH (H.put r o) a m v l := by
  have h1 := h.la; have h2 := h.lm
  exact h.keep (Nat.le_refl _) fun j hj => put_get_ne _ _ _ (by omega)
/-- while Argue runs -/
def Arv (H : AH) (p : List Clm) (c : Clm) (H1 : AH) (l : List Lin) (v : AV) : Prop :=
  ArgH H1 (H.nx + 11) (H.nx + 9) v l ∧ LI p l ∧ H.le H1 ∧ H.nx + 13 ≤ H1.nx ∧ H1.get H.nx = some (.box 24 c.cs) ∧ ∀ j, j < H.nx + 12 → ∀ n, v ≠ .osl j 5 0 n
theorem Arv.next {H H1 H2 : AH} {p : List Clm} {c : Clm} {l l' : List Lin} {v v' : AV} (hw : WF H) (h : Arv H p c H1 l v) (ha : ArgH H2 (H.nx + 11) (H.nx + 9) v' l') (hl : LI p l') (hn : H1.nx ≤ H2.nx)
    (hf : ∀ j, j < H.nx + 9 → (∀ n, v ≠ .osl j 5 0 n) → H2.get j = H1.get j) (hv : ∀ j, j < H.nx + 12 → ∀ n, v' ≠ .osl j 5 0 n) : Arv H p c H2 l' v' := by
  obtain ⟨h1, h2, h3, h4, h5, h6⟩ := h
  refine ⟨ha, hl, fun j o ho => ?_, by omega, ?_, hv⟩
  · have := (hw j o ho).1
    rw [hf j (by omega) (h6 j (by omega))]; exact h3 j o ho
  · rw [hf H.nx (by omega) (h6 _ (by omega))]; exact h5
theorem Arv.of_fr {H H1 H2 : AH} {p : List Clm} {c : Clm} {l l' : List Lin} {v v' : AV} (hw : WF H) (h : Arv H p c H1 l v) (ha : ArgH H2 (H.nx + 11) (H.nx + 9) v' l') (hl : LI p l') (hf : Fr (H.nx + 11) (H.nx + 9) H1 v H2 v') : Arv H p c H2 l' v' := by
  have h6 := h.2.2.2.2.2
  have h4 := h.2.2.2.1
  refine h.next hw ha hl hf.1 (fun j hj hv => (hf.2 j (by omega) (by omega) (by omega) hv).1) fun j hj n e => ?_
  by_cases h11 : j = H.nx + 11
  · subst h11; exact ha.row.not (fun xs hx => by rw [ha.box] at hx; cases hx) n e
  · by_cases h9 : j = H.nx + 9
    · subst h9; obtain ⟨f, hm, _⟩ := ha.map; exact ha.row.not (fun xs hx => by rw [hm] at hx; cases hx) n e
    · exact (hf.2 j (by omega) h11 h9 (h6 j hj)).2 n e
set_option maxHeartbeats 2000000 in
theorem c_Argue (p : List Clm) (c : Clm) (H : AH) : Tri Try.prog 16 [cE p, c.av] H (fun r H' => H' = H ∧ argR p c r) := tri_wf fun hw => tri_prove_Argue (by
  unfold S_prove_Argue
  have hmx : maxLen = 9223372036854775807 := by decide
  simp (disch := first | omega | simp) [cE, Clm.av, Clm.cs, put_get_ne]
  refine ca_row (ps := [.dsl 3 (p.map Clm.cs)]) (qs := []) (es := [c].map Clm.cs) (by kernel_rfl) (put_get _ _) (dt_cs [c]) rfl (c_checkAll p [c] (by simp) _) ?_
  rintro _ H1 ⟨rfl, rfl⟩
  generalize hokv : okP p [c] = e
  simp (disch := first | omega | simp) [iv]
  refine ⟨fun he => ?_, fun he => ?_⟩
  · exact rt_tup hw (by repeat (first | with_reducible assumption | with_reducible exact AH.le.refl _ | with_reducible apply AH.le.up | (with_reducible refine AH.le.put hw ?_ ?_; · first | omega | (simp only [up_nx, put_nx, kill_nx]; done) | (simp only [up_nx, put_nx, kill_nx]; omega)) | (with_reducible refine AH.le.kill hw ?_ ?_; · first | omega | (simp only [up_nx, put_nx, kill_nx]; done) | (simp only [up_nx, put_nx, kill_nx]; omega)))) (by repeat (first | exact Cl.p _ | exact Cl.dsl _ _ | exact Cl.any | refine Cl.tup ?_ | refine Cl.agg ?_ | exact Clo.nil | refine Clo.cons ?_ ?_)) ⟨rfl, .inl ⟨by rw [hokv]; exact he, by rw [hokv]; rfl⟩⟩
  subst he
  obtain ⟨hpl, hpo⟩ := okP_zero hokv
  refine loop_st (fun i : Nat × List Lin => [iv i.1]) (fun s H' => s.1 ≤ p.length ∧ (∃ v, Arv H p c H' s.2 v) ∧ ∀ c ∈ p.take s.1, c ∈ cl s.2) (fun s => p.length - s.1) (0, []) (.refl (Nat.le_refl _)) ⟨Nat.zero_le _, ⟨.p (.slice none 0 0), ?_⟩, by simp⟩ ?_
  · exact ⟨⟨(by first | omega | (simp only [up_nx, put_nx, kill_nx]; done) | (simp only [up_nx, put_nx, kill_nx]; omega)), (by first | omega | (simp only [up_nx, put_nx, kill_nx]; done) | (simp only [up_nx, put_nx, kill_nx]; omega)), put_get _ _, .nil _ _ _ _, fun _ => none, by rw [put_get_ne _ _ _ (by omega), put_get]; rfl, fun c => rfl⟩, .nil p, (by repeat (first | with_reducible assumption | with_reducible exact AH.le.refl _ | with_reducible apply AH.le.up | (with_reducible refine AH.le.put hw ?_ ?_; · first | omega | (simp only [up_nx, put_nx, kill_nx]; done) | (simp only [up_nx, put_nx, kill_nx]; omega)) | (with_reducible refine AH.le.kill hw ?_ ?_; · first | omega | (simp only [up_nx, put_nx, kill_nx]; done) | (simp only [up_nx, put_nx, kill_nx]; omega)))), (by first | omega | (simp only [up_nx, put_nx, kill_nx]; done) | (simp only [up_nx, put_nx, kill_nx]; omega)), by simp (disch := first | omega | simp) [put_get_ne]; rfl, fun j _ n e => by cases e⟩
  rintro ⟨i, l⟩ H1 hn1 ⟨hi, ⟨v, hA⟩, hin⟩ k hk
  dsimp only at hi hin hk
  by_cases hil : i < p.length
  · obtain ⟨q, hq⟩ : ∃ q, p[i]? = some q := ⟨_, List.getElem?_eq_getElem hil⟩
    have hqm : (p.map Clm.cs)[i]? = some q.cs := by rw [List.getElem?_map, hq]; rfl
    have hqg : ∀ h, (p.map Clm.cs)[i]'h = q.cs := fun h => (List.getElem?_eq_some_iff.1 hqm).2
    have hiv := ivn (i := i) (by omega)
    have hlen := hA.2.1.len
    have hpg : ∀ h, p[i]'h = q := fun h => (List.getElem?_eq_some_iff.1 hq).2
    have hn1' := hA.2.2.2.1
    have hri : rightB p (l.map (·.c)) l.length ⟨1, q, [(i : Int)]⟩ = true := by
      unfold rightB
      rw [if_pos rfl, pick_one hq hil]
      simp [ruleB]
    simp (disch := first | omega | simp) [iv, hil, hpg, Clm.cs, put_get_ne]
    refine ca_put (hA.1.keep (by first | omega | (simp only [up_nx, put_nx, kill_nx]; done) | (simp only [up_nx, put_nx, kill_nx]; omega)) fun j hj => by simp (disch := first | omega | simp) [put_get_ne]) 1 [(i : Int)] q (hpo q (List.mem_append_left _ (List.mem_of_getElem? hq))) (by omega) (put_get _ _) rfl fun v1 H2 h1 n1 k1 => ?_
    simp only [up_nx, put_nx] at n1 k1
    rw [q_add_i, hiv]
    refine hk (i + 1, putL l ⟨1, q, [(i : Int)]⟩) _ _ _ (.refl (by first | omega | (simp only [up_nx, put_nx, kill_nx]; done) | (simp only [up_nx, put_nx, kill_nx]; omega))) ⟨hil, ⟨v1, hA.next hw h1 (hA.2.1.put (hpo q (List.mem_append_left _ (List.mem_of_getElem? hq))) (by simp) hri) (by omega) (fun j hj hv => ?_) fun j hj n e => ?_⟩, fun c hc => ?_⟩ (by dsimp only; omega)
    · have := (k1 j (by omega) (by omega) (by omega) (by omega) hv).1
      rw [this]; simp (disch := first | omega | simp) [put_get_ne]
    · by_cases h11 : j = H.nx + 11
      · subst h11; exact h1.row.not (fun xs hx => by rw [h1.box] at hx; cases hx) n e
      · by_cases h9 : j = H.nx + 9
        · subst h9; obtain ⟨f, hm, _⟩ := h1.map; exact h1.row.not (fun xs hx => by rw [hm] at hx; cases hx) n e
        · exact (k1 j (by omega) (by omega) h11 h9 (hA.2.2.2.2.2 j hj)).2 n e
    · dsimp only at hc ⊢
      rw [List.take_add_one, hq] at hc
      rcases List.mem_append.1 hc with hc | hc
      · exact (putL_pre _ _).mem (hin c hc)
      · simp at hc; subst hc; exact putL_mem l ⟨1, c, [(i : Int)]⟩
  have hpin : ∀ c ∈ p, c ∈ cl l := fun c hc => hin c (by rw [List.take_of_length_le (by omega)]; exact hc)
  simp (disch := first | omega | simp) [iv, hil]
  refine loop_st (fun s : Nat × List Lin => [iv ((s.1 : Int) + 1)]) (fun s H' => s.1 ≤ 6 ∧ (∃ v, Arv H p c H' s.2 v) ∧ (∀ c ∈ p, c ∈ cl s.2) ∧ ∀ n, n < s.1 → (⟨false, (n : Int) + 1, (n : Int) + 1⟩ : Clm) ∈ cl s.2 ∧ (⟨false, -((n : Int) + 1), -((n : Int) + 1)⟩ : Clm) ∈ cl s.2) (fun s => 6 - s.1) (0, l) (.refl (Nat.le_refl _)) ⟨Nat.zero_le _, ⟨v, hA⟩, hpin, fun n hn => absurd hn (Nat.not_lt_zero _)⟩ ?_
  clear hin hpin hi hil hA hk hn1
  rintro ⟨i, l⟩ H2 hn2 ⟨hi, ⟨v, hA⟩, hpin, hself⟩ k2 hk2
  dsimp only at hi hA hpin hself hk2
  have hlen := hA.2.1.len
  by_cases hil : i < 6
  · simp (disch := first | omega | simp) [iv, le6 hil, wneg6 hil, wn2 hil]
    have hk1 : litOk ((i : Int) + 1) := by unfold litOk; omega
    refine ca_put0 hA.1 2 ⟨false, (i : Int) + 1, (i : Int) + 1⟩ ⟨hk1, hk1⟩ (by omega) fun v1 H3 h1 f1 => ?_
    have l1 := hA.2.1.put (x := ⟨2, ⟨false, (i : Int) + 1, (i : Int) + 1⟩, []⟩) ⟨hk1, hk1⟩ (by simp) (by simp [rightB, pickC, ruleB])
    have a1 := hA.of_fr hw h1 l1 f1
    have hlen1 := l1.len
    simp (disch := first | omega | simp) [iv, le6 hil, wneg6 hil, wn2 hil]
    refine ca_put0 a1.1 2 ⟨false, -((i : Int) + 1), -((i : Int) + 1)⟩ ⟨lit_neg hk1, lit_neg hk1⟩ (by omega) fun v2 H4 h2 f2 => ?_
    have l2 := l1.put (x := ⟨2, ⟨false, -((i : Int) + 1), -((i : Int) + 1)⟩, []⟩) ⟨lit_neg hk1, lit_neg hk1⟩ (by simp) (by simp [rightB, pickC, ruleB])
    have a2 := a1.of_fr hw h2 l2 f2
    simp (disch := first | omega | simp) [iv, le6 hil, wneg6 hil, wn2 hil]
    have p1 := putL_pre l ⟨2, ⟨false, (i : Int) + 1, (i : Int) + 1⟩, []⟩
    have p2 := putL_pre (putL l ⟨2, ⟨false, (i : Int) + 1, (i : Int) + 1⟩, []⟩) ⟨2, ⟨false, -((i : Int) + 1), -((i : Int) + 1)⟩, []⟩
    refine hk2 (i + 1, _) _ _ _ (.refl (by have := f1.1; have := f2.1; omega)) ⟨hil, ⟨v2, a2⟩, fun c hc => (p1.trans p2).mem (hpin c hc), fun n hn => ?_⟩ (by dsimp only; omega)
    dsimp only at hn
    by_cases e : n = i
    · subst e; exact ⟨p2.mem (putL_mem l ⟨2, ⟨false, (n : Int) + 1, (n : Int) + 1⟩, []⟩), putL_mem _ ⟨2, ⟨false, -((n : Int) + 1), -((n : Int) + 1)⟩, []⟩⟩
    · obtain ⟨q1, q2⟩ := hself n (by omega)
      exact ⟨(p1.trans p2).mem q1, (p1.trans p2).mem q2⟩
  have hs : ∀ x, litOk x → (⟨false, x, x⟩ : Clm) ∈ cl l := fun x hx => by
    unfold litOk at hx
    by_cases h0 : 0 < x
    · have := (hself (x - 1).toNat (by omega)).1
      rwa [show (((x - 1).toNat : Nat) : Int) + 1 = x by omega] at this
    · have := (hself (-x - 1).toNat (by omega)).2
      rwa [show -((((-x - 1).toNat : Nat) : Int) + 1) = x by omega] at this
  simp (disch := first | omega | simp) [iv, nle6 hil]
  refine loop_st (fun s : Nat × List Lin => [iv (s.1 : Int)]) (fun s H' => s.1 ≤ s.2.length ∧ (∃ v, Arv H p c H' s.2 v) ∧ pre l s.2 ∧ DoneL s.2 s.1) (fun s => 289 - s.1) (0, l) (.refl (Nat.le_refl _)) ⟨Nat.zero_le _, ⟨v, hA⟩, .refl l, fun i x hi => absurd hi (Nat.not_lt_zero _)⟩ ?_
  clear hA hk2 hn2 hself hlen
  rintro ⟨d, m⟩ H3 hn3 ⟨hd, ⟨v, hA⟩, hpre, hdone⟩ k3 hk3
  dsimp only at hd hA hpre hdone hk3
  have hlen := hA.2.1.len
  have hbx := hA.1.box
  have hlm : (m.map Lin.cs).length = m.length := List.length_map ..
  have hgl : ∀ (k : AV → AH → Prop) (H' : AH), Pu Try.prog .len [v] k H' = k (.p (.int .i64 (m.length : Int))) H' := fun k H' => by rw [hA.1.row.len, List.length_map]
  by_cases hdl : d < m.length
  · obtain ⟨x, hx⟩ : ∃ x, m[d]? = some x := ⟨_, List.getElem?_eq_getElem hdl⟩
    have hxo := hA.2.1.ok x (List.mem_of_getElem? hx)
    have hiv := ivn (i := d) (by omega)
    obtain ⟨o1, o2, o3⟩ := hA.2.1.one hx
    simp (disch := first | omega | simp) [iv, hbx, hgl, hdl]
    refine ca_of (by kernel_rfl) (c_one hA.1 hx hxo (by omega)) ?_
    rintro _ H4 ⟨rfl, v4, h4, f4⟩
    have a4 := hA.of_fr hw h4 o1 f4
    have mid0 : MidL (oneL m x.c d) d 0 := fun y hy => by
      rw [o2.at_ hx] at hy; injection hy with hy; subst hy
      exact ⟨o3, fun j y hj => absurd hj (Nat.not_lt_zero _)⟩
    have n4 := f4.1
    simp (disch := first | omega | simp) [iv, hiv]
    refine loop_st (fun s : Nat × List Lin => [iv (s.1 : Int)]) (fun s H' => s.1 ≤ d + 1 ∧ (∃ v, Arv H p c H' s.2 v) ∧ pre m s.2 ∧ DoneL s.2 d ∧ MidL s.2 d s.1) (fun s => d + 1 - s.1) (0, oneL m x.c d) (.refl (Nat.le_refl _)) ⟨Nat.zero_le _, ⟨v4, a4⟩, o2, hdone.pre o2 hd, mid0⟩ ?_
    clear mid0 a4
    rintro ⟨q, u⟩ H5 hn5 ⟨hq, ⟨v5, hA5⟩, hpre5, hdone5, hmid5⟩ k5 hk5
    dsimp only at hq hA5 hpre5 hdone5 hmid5 hk5
    have hlen5 := hA5.2.1.len
    have hul := hpre5.len
    by_cases hqd : q < d + 1
    · obtain ⟨y, hy⟩ : ∃ y, u[q]? = some y := ⟨_, List.getElem?_eq_getElem (by omega)⟩
      have hx5 := hpre5.at_ hx
      have hyo := hA5.2.1.ok y (List.mem_of_getElem? hy)
      have hqi := ivn (i := q) (by omega)
      have hqc : (q : Int) < (d : Int) + 1 := by omega
      obtain ⟨t1, t2, t3⟩ := hA5.2.1.two hx5 hy
      have t1l := t1.len
      obtain ⟨r1, r2, r3⟩ := t1.two (t2.at_ hy) (t2.at_ hx5)
      simp (disch := first | omega | simp) [iv, hqc, hqi]
      refine ca_of (by kernel_rfl) (c_two hA5.1 hx5 hy hxo hyo (by omega)) ?_
      rintro _ H6 ⟨rfl, v6, h6, f6⟩
      have a6 := hA5.of_fr hw h6 t1 f6
      refine ca_of (by kernel_rfl) (c_two a6.1 (t2.at_ hy) (t2.at_ hx5) hyo hxo (by omega)) ?_
      rintro _ H7 ⟨rfl, v7, h7, f7⟩
      have a7 := a6.of_fr hw h7 r1 f7
      rw [q_add_i, hqi]
      have hp7 := t2.trans r2
      refine hk5 (q + 1, twoL (twoL u x.c y.c (d : Int) (q : Int)) y.c x.c (q : Int) (d : Int)) _ _ _ (.refl (by have := f6.1; have := f7.1; omega)) ⟨hqd, ⟨v7, a7⟩, hpre5.trans hp7, hdone5.pre hp7 (by omega), fun z hz => ?_⟩ (by dsimp only; omega)
      dsimp only at hz ⊢
      rw [hp7.at_ hx5] at hz; injection hz with hz; subst hz
      refine ⟨(hmid5 _ hx5).1.pre hp7, fun j w hj hwj => ?_⟩
      have hwj5 := hp7.back (show j < u.length by omega) hwj
      by_cases e : j = q
      · subst e
        rw [hy] at hwj5; injection hwj5 with hwj5; subst hwj5
        exact ⟨t3.pre r2, r3⟩
      · obtain ⟨s1, s2⟩ := (hmid5 _ hx5).2 j w (by omega) hwj5
        exact ⟨s1.pre hp7, s2.pre hp7⟩
    · have hqe : q = d + 1 := by omega
      subst hqe
      simp (disch := first | omega | simp) [iv, hiv]
      exact hk3 (d + 1, u) _ _ _ (.refl (by omega)) ⟨by dsimp only; omega, ⟨v5, hA5⟩, hpre.trans hpre5, hdone5.next hmid5⟩ (by dsimp only; omega)
  have hde : d = m.length := by omega
  subst hde
  have hcl := hdone.closed hA.2.1 (fun c hc => hpre.mem (hpin c hc)) (fun x hx => hpre.mem (hs x hx))
  obtain ⟨f, hm, hf⟩ := hA.1.map
  have hco : c.ok := hpo c (by simp)
  have hfits : (keyOf Try.prog 24 (cv c)).isSome = true := keyClm hco
  have hfc := hf c
  unfold cv at hfits hfc
  have hcb := hA.2.2.2.2.1
  unfold Clm.cs at hcb
  have hrs : ∀ (i : Nat) (x : Lin), m[i]? = some x → x.rule ≠ 1 → ∀ k ∈ x.src, 0 ≤ k ∧ k < (i : Int) := fun i x hx h1 => right_src hA.2.1.right hx h1
  simp (disch := first | omega | simp) [iv, hbx, hgl, hcb, hm, lawClm, hfits]
  rw [hfc]
  cases hi : idxC m c with
  | some i =>
    obtain ⟨x, hx, hxc⟩ := idxC_some hi
    obtain ⟨q1, q2, q3, q4⟩ := hA.2.1.out hx
    rw [hxc] at q4
    simp (disch := first | omega | simp) [iv]
    refine ca_pure (by kernel_rfl) (c_needed hbx hA.1.row hrs hA.2.1.src (List.getElem?_eq_some_iff.1 hx).1 (by omega)) ?_
    exact rt_tup hw hA.2.2.1 (by repeat (first | exact Cl.p _ | exact Cl.dsl _ _ | exact Cl.any | refine Cl.tup ?_ | refine Cl.agg ?_ | exact Clo.nil | refine Clo.cons ?_ ?_)) ⟨rfl, .inr (.inl ⟨hokv, sound_no hA.2.1.right (fun c hc => hpo c (List.mem_append_left _ hc)) hA.2.1.ok (List.mem_map.2 ⟨x, List.mem_of_getElem? hx, hxc⟩), _, rfl, q1, q2, q3, q4⟩)⟩
  | none =>
    simp (disch := first | omega | simp) [iv]
    refine ca_of (by kernel_rfl) (c_clash hA.1 hA.2.1.ok (by omega)) ?_
    rintro _ H4 ⟨rfl, ⟨i, k, x, hx, hxs, hk, rfl⟩ | ⟨hno, rfl⟩⟩
    · obtain ⟨y, hy, hyc⟩ := idxC_some hk
      have hlast : (m ++ [Lin.mk 10 c [(i : Int), (k : Int)]])[m.length]? = some ⟨10, c, [(i : Int), (k : Int)]⟩ := by simp
      have l5 := hA.2.1.put (x := ⟨10, c, [(i : Int), (k : Int)]⟩) hco (by simp) (right_two hx hy rfl (by show (10 : Int) ≠ 1; decide) (by rw [hyc]; simp [ruleB, opp, hxs]))
      rw [putL_new (x := ⟨10, c, [(i : Int), (k : Int)]⟩) hi] at l5
      have n4 := hA.2.2.2.1
      simp (disch := first | omega | simp) [iv, bv, hcb, put_get_ne]
      refine ca_put (hA.1.keep (by first | omega | (simp only [up_nx, put_nx, kill_nx]; done) | (simp only [up_nx, put_nx, kill_nx]; omega)) fun j hj => by simp (disch := first | omega | simp) [put_get_ne]) 10 [(i : Int), (k : Int)] c hco (by omega) (put_get _ _) rfl fun v1 H5 h5 n5 k5 => ?_
      simp only [up_nx, put_nx] at n5 k5
      rw [putL_new (x := ⟨10, c, [(i : Int), (k : Int)]⟩) hi] at h5
      have a5 := hA.next hw h5 l5 (by omega) (fun j hj hv => by
        have := (k5 j (by omega) (by omega) (by omega) (by omega) hv).1
        rw [this]; simp (disch := first | omega | simp) [put_get_ne]) (fun j hj n e => by
        by_cases h11 : j = H.nx + 11
        · subst h11; exact h5.row.not (fun xs hx => by rw [h5.box] at hx; cases hx) n e
        · by_cases h9 : j = H.nx + 9
          · subst h9; obtain ⟨f, hm, _⟩ := h5.map; exact h5.row.not (fun xs hx => by rw [hm] at hx; cases hx) n e
          · exact (k5 j (by omega) (by omega) h11 h9 (hA.2.2.2.2.2 j hj)).2 n e)
      obtain ⟨f5, hm5, hf5⟩ := a5.1.map
      have hfc5 := hf5 c
      unfold cv at hfc5
      have hcb5 := a5.2.2.2.2.1
      unfold Clm.cs at hcb5
      have hbx5 := a5.1.box
      have hi5 : idxC (m ++ [Lin.mk 10 c [(i : Int), (k : Int)]]) c = some m.length := by rw [idxC_snoc, hi]; simp
      rw [hi5] at hfc5
      simp only [Option.map_some] at hfc5
      simp (disch := first | omega | simp) [iv, hbx5, hcb5, hm5, lawClm, hfits, hfc5]
      have hlen5 := l5.len
      obtain ⟨q1, q2, q3, q4⟩ := l5.out hlast
      refine cav_pure (by kernel_rfl) (fun H6 hle6 => tri_wf fun hw6 => c_needed (hle6 _ _ hbx5) (a5.1.row.wf hw6 hle6) (fun i x hx h1 => right_src l5.right hx h1) l5.src (last := m.length) (by simp) (by omega)) ?_
      exact rt_tup hw a5.2.2.1 (by repeat (first | exact Cl.p _ | exact Cl.dsl _ _ | exact Cl.any | refine Cl.tup ?_ | refine Cl.agg ?_ | exact Clo.nil | refine Clo.cons ?_ ?_)) ⟨rfl, .inr (.inl ⟨hokv, sound_no l5.right (fun c hc => hpo c (List.mem_append_left _ hc)) l5.ok (List.mem_map.2 ⟨_, List.mem_of_getElem? hlast, rfl⟩), _, rfl, q1, q2, q3, q4⟩)⟩
    · simp (disch := first | omega | simp) [iv, bv]
      exact rt_tup hw hA.2.2.1 (by repeat (first | exact Cl.p _ | exact Cl.dsl _ _ | exact Cl.any | refine Cl.tup ?_ | refine Cl.agg ?_ | exact Clo.nil | refine Clo.cons ?_ ?_)) ⟨rfl, .inr (.inr ⟨hokv, complete hcl hco (idxC_none.1 hi) (no_clash hno), rfl⟩)⟩)
end Go.Proofs.Ytcmnjoepadjioaa

/- Abstract walks of functions, written by a program (wip/aw/aw.py): each equation is checked by the kernel. -/
namespace Go.Proofs.Ytcmnjoepadjioaa
open Go.RowKit

/-! wordhoard/wordhoardlaw.ProveHolds -/
def ac_wordhoardlaw_ProveHolds : AC := (.seq (.reg 0) (.seq (.reg 1) (.seq (.reg 2) (.cut [7] [(16, 20)] (.seq (.reg 3) (.cond (.tmp 17) (.reg 4) .skip)) (.seq (.reg 5) .ret)))))
def S_wordhoardlaw_ProveHolds (a0 a1 : AV) (Q : AV → AH → Prop) (H : AH) : Prop := (
    Rg 2 fun b =>
    Al (b + 0) (.bx 24) [a1] fun v3 =>
    RdS Try.prog (.ld 3 true) [v3] fun v10 =>
    Ca Try.prog (.fn (.func 7) [] []) [a0, v10] fun v11 =>
    Pu Try.prog (.ext 0) [v11] fun v12 =>
    Pu Try.prog (.ext 1) [v11] fun v13 =>
    Ca Try.prog (.fn (.func 8) [] []) [a0] fun v15 =>
    CutA Try.prog 1 (fun k =>
      Pu Try.prog (.bin .eql 25) [v15, (.p (.int .i64 0))] fun v17 =>
      CdA v17
        (
        RdS Try.prog (.ld 3 true) [v3] fun v18 =>
        Ca Try.prog (.fn (.func 9) [] []) [v18] fun v19 =>
        k [v19]
        ) (
        k [v15]
        )
      ) fun vs =>
    Vw fun V =>
    CaV Try.prog V (.fn (.func 10) [] []) [] fun v20 =>
    GdV v20 true (fun k_16 => Rd Try.prog V (.ld 3 true) [v3] (fun a => k_16 a V)) V fun v22 V_17 =>
    GdV v20 true (fun k_19 => CaV Try.prog V_17 (.fn (.func 11) [] []) [v22] (fun a => k_19 a V_17)) V_17 fun v23 V_20 =>
    GdV v20 true (fun k_22 => Rd Try.prog V_20 (.ld 3 true) [v3] (fun a => k_22 a V_20)) V_20 fun v24 V_23 =>
    GdV v20 true (fun k_25 => CaV Try.prog V_23 (.fn (.func 9) [] []) [v24] (fun a => k_25 a V_23)) V_23 fun v25 V_26 =>
    GdV v20 true (fun k_28 => Pu Try.prog (.bin .eql 25) [v23, v25] (fun a => k_28 a V_26)) V_26 fun v26 V_29 =>
    Pu Try.prog .pick [v20, v26, (.p (.bool false))] fun v27 =>
    GdV v27 true (fun k_32 => k_32 v13 V_29) V_29 fun v29 V_33 =>
    GdV v27 true (fun k_35 => k_35 (vs.getD 0 .any) V_33) V_33 fun v30 V_36 =>
    GdV v27 true (fun k_38 => Pu Try.prog (.bin .eql 25) [v29, v30] (fun a => k_38 a V_36)) V_36 fun v31 V_39 =>
    Pu Try.prog .pick [v27, v31, (.p (.bool false))] fun v32 =>
    GdV v32 true (fun k_42 => k_42 v12 V_39) V_39 fun v34 V_43 =>
    GdV v32 true (fun k_45 => k_45 (vs.getD 0 .any) V_43) V_43 fun v35 V_46 =>
    GdV v32 true (fun k_48 => Pu Try.prog (.bin .eql 25) [v35, (.p (.int .i64 0))] (fun a => k_48 a V_46)) V_46 fun v36 V_49 =>
    GdV v32 true (fun k_51 => k_51 v36 V_49) V_49 fun v37 V_52 =>
    GdV v37 true (fun k_54 => k_54 a0 V_52) V_52 fun v38 V_55 =>
    GdV v37 true (fun k_57 => Rd Try.prog V_55 (.ld 3 true) [v3] (fun a => k_57 a V_55)) V_55 fun v39 V_58 =>
    GdV v37 true (fun k_60 => CaV Try.prog V_58 (.fn (.func 12) [] []) [v38, v39] (fun a => k_60 a V_58)) V_58 fun v40 V_61 =>
    GdV v32 true (fun k_63 => Pu Try.prog .pick [v37, v40, (.p (.bool false))] (fun a => k_63 a V_61)) V_61 fun v41 V_64 =>
    GdV v32 true (fun k_66 => Pu Try.prog (.bin .eql 4) [v34, v41] (fun a => k_66 a V_64)) V_64 fun v42 _ =>
    Pu Try.prog .pick [v32, v42, (.p (.bool false))] fun v43 =>
    Rt Try.prog H.nx v43 Q
    ) H
theorem eq_wordhoardlaw_ProveHolds (a0 a1 : AV) (Q : AV → AH → Prop) (H : AH) : FnA Try.prog 44 (regsF Try.f3) ac_wordhoardlaw_ProveHolds [.tm 4] [a0, a1] H Q = S_wordhoardlaw_ProveHolds a0 a1 Q H := by kernel_rfl
theorem tri_wordhoardlaw_ProveHolds {a0 a1 : AV} {H : AH} {Q : AV → AH → Prop} (h : S_wordhoardlaw_ProveHolds a0 a1 Q H) : Tri Try.prog 3 [a0, a1] H Q :=
  tri_of (Ms := [#[], #[], #[], #[], #[], #[0, 1, 3, 7, 3, 31, 63, 127, 255, 511, 511, 2047, 4095, 8191, 16383, 16383, 49151, 114687, 245759, 245759, 1032191, 2080767, 4194303, 8388607, 16777215]]) mixed Try.func3 rfl (by kernel_rfl) (by kernel_rfl) rfl (of_decide_eq_true rfl : 2 ≤ 44) ((eq_wordhoardlaw_ProveHolds a0 a1 Q H).symm ▸ h : FnA Try.prog 44 (regsF Try.f3) ac_wordhoardlaw_ProveHolds [.tm 4] [a0, a1] H Q)

/-! wordhoard/wordhoardlaw.proveBegun -/
def ac_wordhoardlaw_proveBegun : AC := (.seq (.reg 0) (.seq (.reg 1) (.seq (.reg 2) .ret)))
def S_wordhoardlaw_proveBegun (Q : AV → AH → Prop) (H : AH) : Prop := (
    Rg 12 fun b =>
    Pu Try.prog (.bld [.p (.bool false), .p (.int .i64 0), .p (.int .i64 0)] [(1, 1), (2, 1)]) [(.p (.int .i64 1)), (.p (.int .i64 2))] fun v5 =>
    Pu Try.prog (.bld [.p (.bool false), .p (.int .i64 0), .p (.int .i64 0)] [(0, 1), (1, 1), (2, 1)]) [(.p (.bool true)), (.p (.int .i64 3)), (.p (.int .i64 1))] fun v6 =>
    Al (b + 2) (.bs 24 3 2 [.p (.bool false), .p (.int .i64 0), .p (.int .i64 0)] [(0, 3), (3, 3)]) [v5, v6] fun v7 =>
    Pu Try.prog (.bld [.p (.bool false), .p (.int .i64 0), .p (.int .i64 0)] [(0, 1), (1, 1), (2, 1)]) [(.p (.bool true)), (.p (.int .i64 3)), (.p (.int .i64 2))] fun v8 =>
    Ca Try.prog (.fn (.func 16) [] []) [v7, v8] fun v9 =>
    Pu Try.prog (.ext 0) [v9] fun v10 =>
    Pu Try.prog (.ext 1) [v9] fun v11 =>
    Pu Try.prog (.ext 2) [v9] fun v12 =>
    Pu Try.prog (.bin .eql 25) [v12, (.p (.int .i64 0))] fun v14 =>
    Gd v14 true (fun k => k v11) fun v16 =>
    Pu Try.prog .pick [v14, v16, (.p (.bool false))] fun v17 =>
    Gd v17 true (fun k_15 => k_15 v10) fun v19 =>
    Gd v17 true (fun k_17 => Pu Try.prog .len [v19] k_17) fun v20 =>
    Gd v17 true (fun k_19 => Pu Try.prog (.bin .gtr 3) [v20, (.p (.int .i64 0))] k_19) fun v21 =>
    Pu Try.prog .pick [v17, v21, (.p (.bool false))] fun v22 =>
    Rt Try.prog H.nx v22 Q
    ) H
theorem eq_wordhoardlaw_proveBegun (Q : AV → AH → Prop) (H : AH) : FnA Try.prog 23 (regsF Try.f10) ac_wordhoardlaw_proveBegun [.tm 0] [] H Q = S_wordhoardlaw_proveBegun Q H := by kernel_rfl
theorem tri_wordhoardlaw_proveBegun {H : AH} {Q : AV → AH → Prop} (h : S_wordhoardlaw_proveBegun Q H) : Tri Try.prog 10 [] H Q :=
  tri_of (Ms := [#[], #[], #[]]) mixed Try.func10 rfl (by kernel_rfl) (by kernel_rfl) rfl (of_decide_eq_true rfl : 0 ≤ 23) ((eq_wordhoardlaw_proveBegun Q H).symm ▸ h : FnA Try.prog 23 (regsF Try.f10) ac_wordhoardlaw_proveBegun [.tm 0] [] H Q)

/-! wordhoard/wordhoardref.Follows -/
def ac_wordhoardref_Follows : AC := (.seq (.reg 0) (.seq (.reg 1) (.seq (.seq (.reg 2) (.block 0 (.loop [5, 6] [(7, 9), (14, 46)] (.seq (.seq (.reg 3) (.cond (.tmp 15) .skip (.exit 0))) (.seq (.block 1 (.seq (.reg 4) (.seq (.seq (.reg 5) (.block 2 (.loop [7, 8] [(18, 41)] (.seq (.seq (.reg 6) (.cond (.tmp 21) .skip (.exit 2))) (.seq (.block 3 (.reg 7)) (.reg 8)))))) (.seq (.reg 9) (.cond (.tmp 41) (.reg 10) .skip))))) (.reg 11)))))) (.seq (.gh (.reg 12)) (.seq (.seq (.reg 13) (.block 4 (.loop [9, 10] [(4, 5), (11, 14), (46, 89)] (.seq (.seq (.reg 14) (.cond (.tmp 49) .skip (.exit 4))) (.seq (.block 5 (.seq (.seq (.reg 15) (.cond (.tmp 57) (.exit 5) .skip)) (.seq (.reg 16) (.seq (.seq (.reg 17) (.block 6 (.loop [11, 12, 13] [(58, 84)] (.seq (.seq (.reg 18) (.cond (.tmp 61) .skip (.exit 6))) (.seq (.block 7 (.seq (.reg 19) (.cond (.tmp 73) (.seq (.reg 20) (.reg 21)) .skip))) (.reg 22)))))) (.seq (.seq (.reg 23) (.cond (.tmp 84) (.seq (.reg 24) .ret) .skip)) (.reg 25)))))) (.reg 26)))))) (.seq (.seq (.reg 27) (.cond (.tmp 90) (.seq (.reg 28) .ret) .skip)) (.seq (.reg 29) .ret)))))))
def S_wordhoardref_Follows (a0 a1 : AV) (Q : AV → AH → Prop) (H : AH) : Prop := (
    Rg 2 fun b =>
    Al (b + 0) (.bx 24) [a1] fun v3 =>
    LoopA Try.prog 2 (fun vs k =>
      Pu Try.prog (.bin .lss 3) [(vs.getD 1 .any), (.p (.int .i64 64))] fun v15 =>
      CdA v15
        (
        LoopA Try.prog 2 (fun vs_7 k_6 =>
          Pu Try.prog .len [a0] fun v20 =>
          Pu Try.prog (.bin .lss 3) [(vs_7.getD 1 .any), v20] fun v21 =>
          CdA v21
            (
            Rg 18 fun b_10 =>
            Gd (vs_7.getD 0 .any) true (fun k_12 => k_12 a0) fun v26 =>
            Gd (vs_7.getD 0 .any) true (fun k_14 => k_14 (vs_7.getD 1 .any)) fun v27 =>
            Gd (vs_7.getD 0 .any) true (fun k_16 => Pu Try.prog (.idx 3) [v26, v27] k_16) fun v28 =>
            Gd (vs_7.getD 0 .any) true (fun k_18 => Pu Try.prog (.addOff 0) [v28] k_18) fun v29 =>
            Gd (vs_7.getD 0 .any) true (fun k_20 => RdS Try.prog (.ld 1 false) [v29] k_20) fun v30 =>
            Gd (vs_7.getD 0 .any) true (fun k_22 => k_22 v30) fun v31 =>
            Gd v31 false (fun k_24 => k_24 (vs.getD 1 .any)) fun v32 =>
            Gd v31 false (fun k_26 => Al (b_10 + 9) (.bs 3 1 1 [.p (.int .i64 0)] [(0, 1)]) [v32] k_26) fun v33 =>
            Gd v31 false (fun k_28 => k_28 a0) fun v34 =>
            Gd v31 false (fun k_30 => k_30 (vs_7.getD 1 .any)) fun v35 =>
            Gd v31 false (fun k_32 => Pu Try.prog (.idx 3) [v34, v35] k_32) fun v36 =>
            Gd v31 false (fun k_34 => RdS Try.prog (.ld 3 true) [v36] k_34) fun v37 =>
            Gd v31 false (fun k_36 => Ca Try.prog (.fn (.func 12) [] []) [v33, v37] k_36) fun v38 =>
            Gd (vs_7.getD 0 .any) true (fun k_38 => Pu Try.prog .pick [v31, (.p (.bool true)), v38] k_38) fun v39 =>
            Pu Try.prog .pick [(vs_7.getD 0 .any), v39, (.p (.bool false))] fun v40 =>
            Pu Try.prog (.bin .add 3) [(vs_7.getD 1 .any), (.p (.int .i64 1))] fun v23 =>
            k_6 [v40, v23]
            ) (
            CdA (vs_7.getD 0 .any)
              (
              Rg 5 fun b_41 =>
              Al (b_41 + 2) (.bs 3 1 1 [.p (.int .i64 0)] [(0, 1)]) [(vs.getD 1 .any)] fun v44 =>
              WrS Try.prog (b_41 + 3) (.app 3 1 8) [(vs.getD 0 .any), v44] fun v45 =>
              Pu Try.prog (.bin .add 3) [(vs.getD 1 .any), (.p (.int .i64 1))] fun v17 =>
              k [v45, v17]
              ) (
              Pu Try.prog (.bin .add 3) [(vs.getD 1 .any), (.p (.int .i64 1))] fun v17_45 =>
              k [(vs.getD 0 .any), v17_45]
              )
            )
          ) [(.p (.bool true)), (.p (.int .i64 0))]
        ) (
        Gq Try.prog <|
        LoopA Try.prog 2 (fun vs_47 k_46 =>
          Pu Try.prog .len [a0] fun v48 =>
          Pu Try.prog (.bin .lss 3) [(vs_47.getD 1 .any), v48] fun v49 =>
          CdA v49
            (
            Pu Try.prog (.idx 3) [a0, (vs_47.getD 1 .any)] fun v54 =>
            Pu Try.prog (.addOff 0) [v54] fun v55 =>
            RdS Try.prog (.ld 1 false) [v55] fun v56 =>
            Pu Try.prog (.un .not) [v56] fun v57 =>
            CdA v57
              (
              Pu Try.prog (.bin .add 3) [(vs_47.getD 1 .any), (.p (.int .i64 1))] fun v51 =>
              k_46 [(vs_47.getD 0 .any), v51]
              ) (
              LoopA Try.prog 3 (fun vs_56 k_55 =>
                Pu Try.prog .len [(vs.getD 0 .any)] fun v60 =>
                Pu Try.prog (.bin .lss 3) [(vs_56.getD 2 .any), v60] fun v61 =>
                CdA v61
                  (
                  Vw fun V =>
                  Pu Try.prog (.bin .add 3) [(vs_56.getD 2 .any), (.p (.int .i64 1))] fun v67 =>
                  Pu Try.prog (.slc 1 true true) [(vs.getD 0 .any), (vs_56.getD 2 .any), v67] fun v68 =>
                  Pu Try.prog (.idx 3) [a0, (vs_47.getD 1 .any)] fun v71 =>
                  Rd Try.prog V (.ld 3 true) [v71] fun v72 =>
                  CaV Try.prog V (.fn (.func 12) [] []) [v68, v72] fun v73 =>
                  CdA v73
                    (
                    Vw fun V_65 =>
                    GdV (vs_56.getD 1 .any) true (fun k_67 => k_67 (vs.getD 0 .any) V_65) V_65 fun v76 V_68 =>
                    GdV (vs_56.getD 1 .any) true (fun k_70 => k_70 (vs_56.getD 2 .any) V_68) V_68 fun v77 V_71 =>
                    GdV (vs_56.getD 1 .any) true (fun k_73 => k_73 (vs_56.getD 2 .any) V_71) V_71 fun v78 V_74 =>
                    GdV (vs_56.getD 1 .any) true (fun k_76 => Pu Try.prog (.bin .add 3) [v78, (.p (.int .i64 1))] (fun a => k_76 a V_74)) V_74 fun v79 V_77 =>
                    GdV (vs_56.getD 1 .any) true (fun k_79 => Pu Try.prog (.slc 1 true true) [v76, v77, v79] (fun a => k_79 a V_77)) V_77 fun v80 V_80 =>
                    GdV (vs_56.getD 1 .any) true (fun k_82 => Rd Try.prog V_80 (.ld 3 true) [v3] (fun a => k_82 a V_80)) V_80 fun v81 V_83 =>
                    GdV (vs_56.getD 1 .any) true (fun k_85 => CaV Try.prog V_83 (.fn (.func 12) [] []) [v80, v81] (fun a => k_85 a V_83)) V_83 fun v82 _ =>
                    Pu Try.prog .pick [(vs_56.getD 1 .any), v82, (.p (.bool false))] fun v83 =>
                    Pu Try.prog (.bin .add 3) [(vs_56.getD 2 .any), (.p (.int .i64 1))] fun v63 =>
                    k_55 [(.p (.bool false)), v83, v63]
                    ) (
                    Pu Try.prog (.bin .add 3) [(vs_56.getD 2 .any), (.p (.int .i64 1))] fun v63_89 =>
                    k_55 [(vs_56.getD 0 .any), (vs_56.getD 1 .any), v63_89]
                    )
                  ) (
                  CdA (vs_56.getD 0 .any)
                    (
                    Rt Try.prog H.nx (.p (.bool true)) Q
                    ) (
                    Gd (vs_47.getD 0 .any) false (fun k_91 => k_91 (vs_56.getD 1 .any)) fun v87 =>
                    Pu Try.prog .pick [(vs_47.getD 0 .any), (.p (.bool true)), v87] fun v88 =>
                    Pu Try.prog (.bin .add 3) [(vs_47.getD 1 .any), (.p (.int .i64 1))] fun v51_93 =>
                    k_46 [v88, v51_93]
                    )
                  )
                ) [(.p (.bool true)), (.p (.bool true)), (.p (.int .i64 0))]
              )
            ) (
            Pu Try.prog (.addOff 0) [v3] fun v89 =>
            RdS Try.prog (.ld 1 false) [v89] fun v90 =>
            CdA v90
              (
              Rt Try.prog H.nx (vs_47.getD 0 .any) Q
              ) (
              RdS Try.prog (.ld 3 true) [v3] fun v93 =>
              Ca Try.prog (.fn (.func 12) [] []) [(vs.getD 0 .any), v93] fun v94 =>
              Rt Try.prog H.nx v94 Q
              )
            )
          ) [(.p (.bool false)), (.p (.int .i64 0))]
        )
      ) [(.p (.slice none 0 0)), (.p (.int .i64 0))]
    ) H
theorem eq_wordhoardref_Follows (a0 a1 : AV) (Q : AV → AH → Prop) (H : AH) : FnA Try.prog 95 (regsF Try.f18) ac_wordhoardref_Follows [.tm 4] [a0, a1] H Q = S_wordhoardref_Follows a0 a1 Q H := by kernel_rfl
theorem tri_wordhoardref_Follows {a0 a1 : AV} {H : AH} {Q : AV → AH → Prop} (h : S_wordhoardref_Follows a0 a1 Q H) : Tri Try.prog 18 [a0, a1] H Q :=
  tri_of (Ms := [#[], #[], #[], #[], #[], #[], #[], #[], #[], #[], #[], #[], #[], #[], #[], #[], #[], #[], #[], #[0, 0, 0, 4, 15, 0, 0, 96, 224, 511], #[], #[0, 1, 3, 3, 3, 19, 63, 3, 255, 511, 1023], #[], #[], #[], #[], #[], #[], #[], #[]]) mixed Try.func18 rfl (by kernel_rfl) (by kernel_rfl) rfl (of_decide_eq_true rfl : 2 ≤ 95) ((eq_wordhoardref_Follows a0 a1 Q H).symm ▸ h : FnA Try.prog 95 (regsF Try.f18) ac_wordhoardref_Follows [.tm 4] [a0, a1] H Q)
end Go.Proofs.Ytcmnjoepadjioaa

/- Readings of what came in: each argument that can be read as data stands for a plain thing whose bulk is no greater. Nothing of the program is named here. -/
namespace Go.Proofs.Ytcmnjoepadjioaa
open Go.ChangeShapes Go.WideShapes Go.RowKit

/-- what can be read at a type stands for something -/
def Opens {α : Type} (P : Program) (t : TypeId) (ρ : Rep α) : Prop :=
  ∀ (H : Type) (enc : TypeId × Value → H) (w : World) (base : Nat) (spare : Nat → Bool) (held : Bool) (fuel : Nat) (cs : List Value) (x : DataW H × List MemPlace),
    DataW.trod enc P w base spare held fuel t cs = some x → ∃ y, ρ.R w (fun b => b < w.heap.size) cs y ∧ ρ.bulk y ≤ Rows.uptoBulk x.1

theorem bulk_pos {H : Type} (d : DataW H) : 1 ≤ Rows.uptoBulk d := by
  cases d with
  | lit l => cases l <;> simp [Rows.uptoBulk]
  | _ => simp [Rows.uptoBulk]
theorem opens_int {P : Program} {t : TypeId} (ht : P.underlying t = some (.int .i64)) : Opens P t rInt := by
  intro H enc w base spare held fuel cs x h
  obtain ⟨n, rfl, rfl, hw⟩ := DataW.trod_int ht h
  refine ⟨n, ⟨rfl, ?_⟩, bulk_pos _⟩
  simp only [Lit.wf, Bool.and_eq_true, decide_eq_true_eq] at hw
  exact hw
theorem opens_bool {P : Program} {t : TypeId} (ht : P.underlying t = some .bool) : Opens P t rBool := by
  intro H enc w base spare held fuel cs x h
  obtain ⟨b, rfl, rfl⟩ := DataW.trod_bool ht h
  exact ⟨b, rfl, bulk_pos _⟩
theorem opens_string {P : Program} {t : TypeId} (ht : P.underlying t = some .string) : Opens P t rStr := by
  intro H enc w base spare held fuel cs x h
  obtain ⟨s, rfl, rfl, hs⟩ := DataW.trod_string ht h
  refine ⟨s, ⟨rfl, hs⟩, ?_⟩
  have : s.data.toList.length = s.size := by rw [Array.length_toList]; rfl
  simp only [rStr, Rows.uptoBulk]; omega
theorem pick {α : Type} {Q : Nat → α → Prop} : ∀ n, (∀ i, i < n → ∃ y, Q i y) → ∃ ys : List α, ys.length = n ∧ ∀ i y, ys[i]? = some y → Q i y
  | 0, _ => ⟨[], rfl, by simp⟩
  | n + 1, h => by
    obtain ⟨ys, hl, hq⟩ := pick n fun i hi => h i (by omega)
    obtain ⟨y, hy⟩ := h n (by omega)
    refine ⟨ys ++ [y], by simp [hl], fun i z hz => ?_⟩
    by_cases hi : i < ys.length
    · rw [List.getElem?_append_left hi] at hz; exact hq i z hz
    · rw [List.getElem?_append_right (by omega)] at hz
      have h0 : i - ys.length = 0 := by have := (List.getElem?_eq_some_iff.1 hz).1; simp at this; omega
      rw [h0] at hz
      simp at hz; subst hz
      obtain rfl : i = n := by omega
      exact hy
theorem sum_le {α H : Type} (f : α → Nat) : ∀ (ys : List α) (ds : List (DataW H)), ys.length = ds.length → (∀ (i : Nat) (y : α) (d : DataW H), ys[i]? = some y → ds[i]? = some d → f y ≤ Rows.uptoBulk d) → (ys.map f).sum ≤ Rows.uptoBulkAll ds
  | [], _, _, _ => by simp
  | y :: ys, [], h, _ => by simp at h
  | y :: ys, d :: ds, h, hf => by
    have ih := sum_le f ys ds (by simpa using h) fun i y d hy hd => hf (i + 1) y d (by simpa using hy) (by simpa using hd)
    have h0 := hf 0 y d rfl rfl
    simp only [List.map_cons, List.sum_cons, Rows.uptoBulkAll]; omega
theorem opens_slice {α : Type} {ρ : Rep α} {P : Program} {t e : TypeId} (ht : P.underlying t = some (.slice e)) (hs : P.cellsOf e = ρ.size) (hp : 0 < ρ.size) (he : Opens P e ρ) : Opens P t (rList ρ) := by
  intro H enc w base spare held fuel cs x h
  rcases DataW.trod_slice ht h with ⟨rfl, rfl⟩ | ⟨a, len, cap, elems, rest, n, _, rfl, rfl, _, hl, hm, hlen, hel, _, _⟩
  · exact ⟨[], ⟨none, 0, rfl, Sl.nil_⟩, by simp [rList, Rows.uptoBulk]⟩
  · have key : ∀ i, i < len → ∃ y, (a.block < w.heap.size ∧ (∃ u, ρ.R w (fun b => b < w.heap.size) u y ∧ ∀ j z, u[j]? = some z → w.cell? (a.add (i * ρ.size + j)) = some z)) ∧ ∀ d, (elems.map (·.1))[i]? = some d → ρ.bulk y ≤ Rows.uptoBulk d := by
      intro i hi
      have h1 := hel i hi
      rw [List.getElem?_eq_getElem (by omega)] at h1
      cases hc : w.cells? base (a.add (i * P.cellsOf e)) (P.cellsOf e) with
      | none => rw [hc] at h1; simp at h1
      | some us =>
        rw [hc] at h1
        simp only [Option.bind_some] at h1
        obtain ⟨y, hy, hb⟩ := he H enc w base spare held n us _ h1
        obtain ⟨_, hcl, hat⟩ := World.cells?_some hc
        have hcell : ∀ j z, us[j]? = some z → w.cell? (a.add (i * ρ.size + j)) = some z := by
          intro j z hz
          have hj : j < P.cellsOf e := by have := (List.getElem?_eq_some_iff.1 hz).1; omega
          have := hat j hj
          rw [hz, add_of_add, hs] at this; exact this
        refine ⟨y, ⟨?_, us, hy, hcell⟩, fun d hd => ?_⟩
        · have h0 : 0 < us.length := by rw [ρ.len hy]; exact hp
          have := World.block_lt_of_cell? w _ (hcell 0 _ (List.getElem?_eq_getElem h0))
          rwa [block_of_add] at this
        · rw [List.getElem?_map, List.getElem?_eq_getElem (by omega)] at hd
          simp at hd; subst hd; exact hb
    obtain ⟨ys, hyl, hq⟩ := pick len key
    refine ⟨ys, ⟨some a, cap, by rw [hyl], by omega, hm, fun i y hy => ?_⟩, ?_⟩
    · obtain ⟨⟨hb, u, hr, hc⟩, _⟩ := hq i y hy
      exact ⟨a, u, rfl, hb, hr, hc⟩
    · have := sum_le ρ.bulk ys (elems.map (·.1)) (by rw [List.length_map]; omega) fun i y d hy hd => (hq i y hy).2 d hd
      simp only [rList, Rows.uptoBulk]; omega
/-- fields from a place on -/
def OpensL {α : Type} (P : Program) (l : List Field) (off : Nat) (ρ : Rep α) : Prop :=
  ∀ (H : Type) (enc : TypeId × Value → H) (w : World) (base : Nat) (spare : Nat → Bool) (held : Bool) (fuel : Nat) (cs : List Value) (xs : List (DataW H × List MemPlace)),
    cs.length = off + ρ.size → xs.length = l.length → (∀ (i : Nat) (f : Field), l[i]? = some f → DataW.trod enc P w base spare held fuel f.type ((cs.drop f.offset).take (P.cellsOf f.type)) = xs[i]?) →
    ∃ y, ρ.R w (fun b => b < w.heap.size) (cs.drop off) y ∧ ρ.bulk y ≤ Rows.uptoBulkAll (xs.map (·.1))
theorem opens_last {α : Type} {ρ : Rep α} {P : Program} {f : Field} {off : Nat} (ho : f.offset = off) (hs : P.cellsOf f.type = ρ.size) (hf : Opens P f.type ρ) : OpensL P [f] off ρ := by
  intro H enc w base spare held fuel cs xs hl hx h
  match xs, hx with
  | [x], _ =>
    have h0 := h 0 f rfl
    rw [ho, hs, List.take_of_length_le (by rw [List.length_drop]; omega)] at h0
    obtain ⟨y, hy, hb⟩ := hf H enc w base spare held fuel _ x h0
    exact ⟨y, hy, by simp only [List.map_cons, List.map_nil, Rows.uptoBulkAll]; omega⟩
theorem opens_more {α β : Type} {ρ : Rep α} {σ : Rep β} {P : Program} {f : Field} {l : List Field} {off : Nat} (ho : f.offset = off) (hs : P.cellsOf f.type = ρ.size) (hf : Opens P f.type ρ) (hl : OpensL P l (off + ρ.size) σ) :
    OpensL P (f :: l) off (rPair ρ σ) := by
  intro H enc w base spare held fuel cs xs hcs hx h
  match xs, hx with
  | x :: xs, hx =>
    have h0 := h 0 f rfl
    rw [ho, hs] at h0
    have hz : (rPair ρ σ).size = ρ.size + σ.size := rfl
    obtain ⟨y, hy, hb⟩ := hf H enc w base spare held fuel _ x h0
    obtain ⟨z, hz, hb'⟩ := hl H enc w base spare held fuel cs xs (by omega) (by simpa using hx) fun i f hi => h (i + 1) f (by simpa using hi)
    refine ⟨(y, z), ⟨_, _, ?_, hy, hz⟩, ?_⟩
    · rw [← List.drop_drop, List.take_append_drop]
    · simp only [rPair, List.map_cons, Rows.uptoBulkAll]; omega
theorem opens_struct {α : Type} {ρ : Rep α} {P : Program} {t : TypeId} {l : List Field} (ht : P.underlying t = some (.struct l.toArray)) (hs : P.cellsOf t = ρ.size) (hl : OpensL P l 0 ρ) : Opens P t ρ := by
  intro H enc w base spare held fuel cs x h
  obtain ⟨xs, n, _, rfl, hcs, hx, hf⟩ := DataW.trod_struct ht h
  obtain ⟨y, hy, hb⟩ := hl H enc w base spare held n cs xs (by omega) (by simpa using hx) fun i f hi => hf i f (by simpa using hi)
  exact ⟨y, by simpa using hy, by simp only [Rows.uptoBulk]; omega⟩
section
variable {H : Type} {enc : TypeId × Value → H} {P : Program} {w : World} {base b0 : Nat} {spare : Nat → Bool} {held : Bool} {r : Reach} {t : TypeId} {v : Value} {d : DataW H} {ps : List MemPlace} {α : Type} {ρ : Rep α}
/-- an argument that is a struct -/
theorem arg_struct {fs : Array Field} (ho : Opens P t ρ) (hs : P.underlying t = some (.struct fs)) (hv : Value.okWide P w r b0 t v) (h : DataW.Trod enc P w base spare held t v d ps) :
    ∃ cs y, v = .agg cs ∧ ρ.R w (fun b => b < w.heap.size) cs.toList y ∧ ρ.bulk y ≤ Rows.uptoBulk d := by
  obtain ⟨cs, rfl, hsz⟩ := okWide_struct hs hv
  obtain ⟨fuel, hf⟩ := h
  obtain ⟨y, hy, hb⟩ := ho H enc w base spare held fuel _ _ hf
  exact ⟨cs, y, rfl, hy, hb⟩
/-- an argument that is a slice -/
theorem arg_slice {e : TypeId} (ho : Opens P t (rList ρ)) (hs : P.underlying t = some (.slice e)) (hv : Value.okWide P w r b0 t v) (h : DataW.Trod enc P w base spare held t v d ps) :
    ∃ A c ys, v = .slice A ys.length c ∧ Sl ρ w (fun b => b < w.heap.size) A c ys ∧ (ys.map ρ.bulk).sum + 1 ≤ Rows.uptoBulk d := by
  obtain ⟨a, n, c, rfl⟩ := okWide_slice hs hv
  obtain ⟨fuel, hf⟩ := h
  obtain ⟨ys, ⟨A, c', e, hy⟩, hb⟩ := ho H enc w base spare held fuel _ _ hf
  simp only [Value.cells, List.cons.injEq, and_true, Value.slice.injEq] at e
  obtain ⟨rfl, rfl, rfl⟩ := e
  exact ⟨_, _, ys, rfl, hy, hb⟩
end
end Go.Proofs.Ytcmnjoepadjioaa

/- From what came in to abstract values, and from an abstract walk to a law's end. Nothing of the program is named here. -/
namespace Go.Proofs.Ytcmnjoepadjioaa
open Go.RowKit Go.Maps Go.ChangeShapes Go.WideShapes

/-- cells that stand for abstract data -/
def RpsD (w : World) (S : Nat → Prop) (ps : List AV) (cs : List Value) : Prop := ps.length = cs.length ∧ ∀ (i : Nat) (a : AV) (v : Value), ps[i]? = some a → cs[i]? = some v → RpD w S a v
/-- what a reading stands for, told abstractly -/
def AvsG {α β : Type} (ρ : Rep α) (g : α → β) (av : β → List AV) (ok : β → Prop) : Prop := ∀ w S cs y, ρ.R w S cs y → ok (g y) ∧ RpsD w S (av (g y)) cs
theorem RpsD.one {w : World} {S : Nat → Prop} {a : AV} {v : Value} (h : RpD w S a v) : RpsD w S [a] [v] := by
  refine ⟨rfl, fun i b u hb hu => ?_⟩
  cases i with
  | zero => simp at hb hu; subst hb; subst hu; exact h
  | succ i => simp at hb
theorem RpsD.append {w : World} {S : Nat → Prop} {ps bs : List AV} {vs us : List Value} (h : RpsD w S ps vs) (h' : RpsD w S bs us) : RpsD w S (ps ++ bs) (vs ++ us) := by
  refine ⟨by simp [h.1, h'.1], fun i a v ha hv => ?_⟩
  by_cases hi : i < ps.length
  · rw [List.getElem?_append_left hi] at ha
    rw [List.getElem?_append_left (by rw [← h.1]; exact hi)] at hv
    exact h.2 i a v ha hv
  · rw [List.getElem?_append_right (by omega)] at ha
    rw [List.getElem?_append_right (by rw [← h.1]; omega), ← h.1] at hv
    exact h'.2 _ a v ha hv
theorem avs_int : AvsG rInt id (fun i => [.p (.int .i64 i)]) I64 := fun w S cs y h => by
  obtain ⟨rfl, h⟩ := h; exact ⟨h, .one (.p _ rfl)⟩
theorem avs_bool : AvsG rBool id (fun b => [.p (.bool b)]) (fun _ => True) := fun w S cs y h => by
  have h : cs = [.bool y] := h
  subst h; exact ⟨trivial, .one (.p _ rfl)⟩
theorem avs_str : AvsG rStr id (fun b => [.p (.string b)]) (fun s => s.size ≤ maxLen) := fun w S cs y h => by
  obtain ⟨rfl, h⟩ := h; exact ⟨h, .one (.p _ rfl)⟩
section
variable {α β γ δ : Type} {ρ : Rep α} {σ : Rep γ} {g : α → β} {h : γ → δ} {av : β → List AV} {bv : δ → List AV} {ok : β → Prop} {ok' : δ → Prop}
theorem AvsG.map (k : AvsG ρ g av ok) (f : β → γ) (av' : γ → List AV) (ok' : γ → Prop) (h1 : ∀ y, av y = av' (f y)) (h2 : ∀ y, ok y → ok' (f y)) : AvsG ρ (fun x => f (g x)) av' ok' := fun w S cs y hr => by
  obtain ⟨q1, q2⟩ := k w S cs y hr
  exact ⟨h2 _ q1, by rw [← h1]; exact q2⟩
theorem AvsG.pair (k : AvsG ρ g av ok) (l : AvsG σ h bv ok') : AvsG (rPair ρ σ) (fun x => (g x.1, h x.2)) (fun z => av z.1 ++ bv z.2) (fun z => ok z.1 ∧ ok' z.2) := fun w S cs y hr => by
  obtain ⟨c, d, rfl, h1, h2⟩ := hr
  obtain ⟨q1, q2⟩ := k w S c y.1 h1
  obtain ⟨r1, r2⟩ := l w S d y.2 h2
  exact ⟨⟨q1, r1⟩, q2.append r2⟩
theorem sl_rpd (k : AvsG ρ g av ok) (hs : 0 < ρ.size) {w : World} {S : Nat → Prop} {A : Option Addr} {c : Nat} {xs : List α} (h : Sl ρ w S A c xs) : (∀ y ∈ xs, ok (g y)) ∧ RpD w S (.dsl ρ.size ((xs.map g).map av)) (.slice A xs.length c) := by
  obtain ⟨h1, h2, h3⟩ := h
  refine ⟨fun y hy => ?_, ?_⟩
  · obtain ⟨i, hi⟩ := List.getElem?_of_mem hy
    obtain ⟨ad, u, _, _, hr, _⟩ := h3 i y hi
    exact (k w S u y hr).1
  have hl : ((xs.map g).map av).length = xs.length := by simp
  have hcell : ∀ (i : Nat) (x : α), xs[i]? = some x → ∃ g' o, A = some ⟨g', o, none⟩ ∧ S g' ∧ ∃ u, ρ.R w S u x ∧ ∀ j z, u[j]? = some z → w.cell? ⟨g', o + i * ρ.size + j, none⟩ = some z := by
    intro i x hx
    have h0 : 0 < xs.length := by have := (List.getElem?_eq_some_iff.1 hx).1; omega
    obtain ⟨ad0, u0, e0, s0, r0, c0⟩ := h3 0 _ (List.getElem?_eq_getElem h0)
    have hu0 : 0 < u0.length := by rw [ρ.len r0]; exact hs
    have hc := c0 0 _ (List.getElem?_eq_getElem hu0)
    obtain ⟨b, o, sp⟩ := ad0
    have hsp : sp = none := by
      simp only [Nat.zero_mul, Nat.add_zero, Addr.add, if_pos] at hc
      unfold World.cell? at hc
      split at hc
      · split at hc
        · cases hc
        · rename_i hsp; cases sp with
          | none => rfl
          | some _ => exact absurd rfl hsp
      · cases hc
    subst hsp
    obtain ⟨ad, u, e, s, r, c⟩ := h3 i x hx
    rw [e0] at e; injection e with e; subst e
    refine ⟨b, o, e0, s, u, r, fun j z hz => ?_⟩
    have := c j z hz
    rw [addr_add] at this
    rw [Nat.add_assoc]; exact this
  have hel : ∀ (i : Nat) (e : List AV), ((xs.map g).map av)[i]? = some e → ∃ x, xs[i]? = some x ∧ e = av (g x) := by
    intro i e he
    rw [List.getElem?_map, List.getElem?_map] at he
    cases hx : xs[i]? with
    | none => rw [hx] at he; cases he
    | some x => rw [hx] at he; injection he with he; exact ⟨x, rfl, he.symm⟩
  have := RpD.dsl (w := w) (S := S) ρ.size ((xs.map g).map av) A c
    (fun i j => match A with
      | some a => if (xs[i]?).isSome ∧ j < ρ.size then (w.cell? ⟨a.block, a.off + i * ρ.size + j, none⟩).getD (.bool false) else .bool false
      | none => .bool false) (by omega) h2 (fun e he => ?_) (fun i e j a he ha => ?_) (fun i e j a he ha => ?_) (fun i j => ?_)
  · rw [hl] at this; exact this
  · obtain ⟨i, hi⟩ := List.getElem?_of_mem he
    obtain ⟨x, hx, rfl⟩ := hel i e hi
    obtain ⟨_, _, _, _, u, hr, _⟩ := hcell i x hx
    rw [(k w S u x hr).2.1, ρ.len hr]
  · obtain ⟨x, hx, rfl⟩ := hel i e he
    obtain ⟨g', o, rfl, hg, u, hr, hc⟩ := hcell i x hx
    have hj : j < u.length := by rw [← (k w S u x hr).2.1]; exact (List.getElem?_eq_some_iff.1 ha).1
    have hjs : j < ρ.size := by rw [← ρ.len hr]; exact hj
    refine ⟨g', o, rfl, hg, ?_⟩
    have := hc j _ (List.getElem?_eq_getElem hj)
    simp only [hx, Option.isSome_some, hjs, and_self, if_true, this, Option.getD_some]
  · obtain ⟨x, hx, rfl⟩ := hel i e he
    obtain ⟨g', o, rfl, hg, u, hr, hc⟩ := hcell i x hx
    have hj : j < u.length := by rw [← (k w S u x hr).2.1]; exact (List.getElem?_eq_some_iff.1 ha).1
    have hjs : j < ρ.size := by rw [← ρ.len hr]; exact hj
    have := hc j _ (List.getElem?_eq_getElem hj)
    simp only [hx, Option.isSome_some, hjs, and_self, if_true, this, Option.getD_some]
    exact (k w S u x hr).2.2 j a _ ha (List.getElem?_eq_getElem hj)
  · cases A with
    | none => rfl
    | some a =>
      dsimp only
      split
      · rename_i hij
        obtain ⟨x, hx⟩ := Option.isSome_iff_exists.1 hij.1
        obtain ⟨g', o, e, hg, u, hr, hc⟩ := hcell i x hx
        injection e with e; subst e
        have hj : j < u.length := by rw [ρ.len hr]; exact hij.2
        rw [hc j _ (List.getElem?_eq_getElem hj)]
        exact ρ.one hr _ (List.getElem_mem hj)
      · rfl
theorem AvsG.list (k : AvsG ρ g av ok) (hs : 0 < ρ.size) : AvsG (rList ρ) (List.map g) (fun zs => [.dsl ρ.size (zs.map av)]) (fun zs => ∀ z ∈ zs, ok z) := fun w S cs y hr => by
  obtain ⟨A, c, rfl, hsl⟩ := hr
  obtain ⟨q1, q2⟩ := sl_rpd k hs hsl
  refine ⟨fun z hz => ?_, .one q2⟩
  obtain ⟨x, hx, rfl⟩ := List.mem_map.1 hz
  exact q1 x hx
/-- an argument that is a struct, told abstractly -/
theorem AvsG.agg (k : AvsG ρ g av ok) {w : World} {S : Nat → Prop} {σ' : Nat → Option Value} {cs : Array Value} {y : α} (hr : ρ.R w S cs.toList y) : ok (g y) ∧ Rp w S σ' (.agg (av (g y))) (.agg cs) := by
  obtain ⟨q1, q2, q3⟩ := k w S cs.toList y hr
  exact ⟨q1, .data _ _ (.agg _ _ (by simpa using q2) (fun i a v ha hv => q3 i a v ha (by simpa using hv)) fun v hv => ρ.one hr v (by simpa using hv))⟩
/-- an argument that is a slice, told abstractly -/
theorem AvsG.sl (k : AvsG ρ g av ok) (hs : 0 < ρ.size) {w : World} {S : Nat → Prop} {σ' : Nat → Option Value} {A : Option Addr} {c : Nat} {xs : List α} (h : Sl ρ w S A c xs) : (∀ z ∈ xs.map g, ok z) ∧ Rp w S σ' (.dsl ρ.size ((xs.map g).map av)) (.slice A xs.length c) := by
  obtain ⟨q1, q2⟩ := sl_rpd k hs h
  refine ⟨fun z hz => ?_, .data _ _ q2⟩
  obtain ⟨x, hx, rfl⟩ := List.mem_map.1 hz
  exact q1 x hx
end
/-- a walk from nothing held, to the law's end -/
theorem law_calls {P : Program} {f : FuncId} {ps : List AV} {us : List Value} {W : World} {r : Value} (h : Tri P f ps ⟨0, []⟩ (fun v _ => v = .p r)) (hr : Rps W (fun b => b < W.heap.size) (fun _ => none) ps us) :
    Calls P f us.toArray W fun e W' => e = .returned r ∧ Below W.heap.size W W' := by
  have hs : Sat P W (fun b => b < W.heap.size) (fun _ => none) ⟨0, []⟩ := ⟨fun b hb => hb, fun id u hu => by (cases hu), fun id o ho => by (cases ho), fun i j o o' b hi => by (cases hi), fun i o b hi => by (cases hi), fun i A n c h => by (cases h)⟩
  refine (h W _ _ us hs hr).mono fun e W' ⟨v, S', σ', r', H', h1, h2, h3, h4, h5, _⟩ => ?_
  subst h2
  obtain ⟨rfl, _⟩ := h4.p_inv
  exact ⟨h1, h5.os, h5.tape, h5.output, h5.size, fun b hb => h5.keep b hb fun ⟨i, o, hi, _⟩ => by (cases hi)⟩
/-- a result may be told with less -/
theorem Tri.res {P : Program} {f : FuncId} {ps : List AV} {H : AH} {Q Q' : AV → AH → Prop} (h : Tri P f ps H Q) (hq : ∀ r H', Q r H' → ∃ r', Sub P H' r r' ∧ Q' r' H') : Tri P f ps H Q' := fun w S σ us hs hr =>
  (h w S σ us hs hr).mono fun e w' ⟨v, S', σ', r, H', h1, h2, h3, h4, h5⟩ => by
    obtain ⟨r', q1, q2⟩ := hq r H' h2
    exact ⟨v, S', σ', r', H', h1, q2, h3, q1 _ _ _ _ h3 h4, h5⟩
end Go.Proofs.Ytcmnjoepadjioaa

/- The law ProveHolds, walked. -/
namespace Go.Proofs.Ytcmnjoepadjioaa
open Go.RowKit Go.Maps
def begP : List Clm := [⟨false, 1, 2⟩, ⟨true, 3, 1⟩]
def begC : Clm := ⟨true, 3, 2⟩
theorem beg_ok : okP begP [begC] = 0 := by decide
theorem beg_no : agB begP begC = false := by decide
theorem c_begun : PF Try.prog 10 [] (bv true) := fun H => tri_wf fun hw => tri_wordhoardlaw_proveBegun (by
  unfold S_wordhoardlaw_proveBegun
  simp (disch := first | omega | simp) [put_get_ne]
  refine ca_row (ps := []) (qs := [begC.av]) (es := begP.map Clm.cs) (by kernel_rfl) (put_get _ _) (dt_cs begP) rfl (c_Argue begP begC _) ?_
  rintro r H1 ⟨rfl, h⟩
  rcases h with ⟨h, _⟩ | ⟨_, _, out, rfl, _, _, hl, init, y, he, _⟩ | ⟨_, h, _⟩
  · exact absurd beg_ok h
  · have : 0 < out.length := by rw [he]; simp
    have h0 : (0 : Int) < (out.length : Int) := by omega
    simp (disch := first | omega | simp) [bv, iv, h0]
    exact rt_one hw (by repeat (first | with_reducible assumption | with_reducible exact AH.le.refl _ | with_reducible apply AH.le.up | (with_reducible refine AH.le.put hw ?_ ?_; · first | omega | (simp only [up_nx, put_nx, kill_nx]; done) | (simp only [up_nx, put_nx, kill_nx]; omega)) | (with_reducible refine AH.le.kill hw ?_ ?_; · first | omega | (simp only [up_nx, put_nx, kill_nx]; done) | (simp only [up_nx, put_nx, kill_nx]; omega)))) (by repeat (first | exact Cl.p _ | exact Cl.dsl _ _ | exact Cl.any | refine Cl.tup ?_ | refine Cl.agg ?_ | exact Clo.nil | refine Clo.cons ?_ ?_)) ⟨rfl, by simp; omega⟩
  · rw [beg_no] at h; cases h)
theorem okW_in {xs : List Int} (h : okW xs = 0) : ∀ x ∈ xs, inWd x := by
  unfold okW at h
  split at h
  · cases h
  · split at h
    · rename_i h2; intro x hx; simpa using (List.all_eq_true.1 h2) x hx
    · cases h
theorem c_ProveHolds (xs : List Int) (c : Clm) (H : AH) : Tri Try.prog 3 [wE xs, c.av] H (fun r _ => r = .p (.bool true)) := tri_wf fun hw => tri_wordhoardlaw_ProveHolds (by
  unfold S_wordhoardlaw_ProveHolds
  simp (disch := first | omega | simp) [put_get_ne, Clm.av, Clm.cs]
  refine ca_pure (by kernel_rfl) (c_Holds xs c _) ?_
  simp
  refine ca_pure (by kernel_rfl) (c_RCheckWorld xs _) ?_
  refine cut_st (fun e : Int => [iv e]) (fun e H' => e = (if okW xs = 0 then (if c.ok then 0 else 3) else okW xs) ∧ H'.get H.nx = some (.box 24 c.cs)) (fun k hk => ?_) ?_
  · by_cases h0 : okW xs = 0
    · simp (disch := first | omega | simp) [iv, h0, Clm.cs]
      refine ca_pure (by kernel_rfl) (c_RCheckClaim c _) ?_
      exact hk _ _ _ _ (.refl (by first | omega | (simp only [up_nx, put_nx, kill_nx]; done) | (simp only [up_nx, put_nx, kill_nx]; omega))) ⟨by rw [if_pos h0], by rw [put_get]; rfl⟩
    · simp (disch := first | omega | simp) [iv, h0, Clm.cs]
      exact hk _ _ _ _ (.refl (by first | omega | (simp only [up_nx, put_nx, kill_nx]; done) | (simp only [up_nx, put_nx, kill_nx]; omega))) ⟨by rw [if_neg h0], by rw [put_get]; rfl⟩
  · rintro e H1 hn ⟨rfl, hb⟩
    simp only [up_nx, put_nx] at hn
    unfold Clm.cs at hb
    simp
    refine cav_pure (by kernel_rfl) (fun H2 _ => c_begun H2) ?_
    simp (disch := first | omega | simp) [bv, hb]
    refine cav_pure (by kernel_rfl) (fun H2 _ => c_Check c H2) ?_
    simp (disch := first | omega | simp) [bv, hb]
    refine cav_pure (by kernel_rfl) (fun H2 _ => c_RCheckClaim c H2) ?_
    by_cases h0 : okW xs = 0
    · by_cases h1 : c.ok
      · simp (disch := first | omega | simp) [bv, iv, hb, h0, h1]
        refine cav_pure (by kernel_rfl) (fun H2 _ => c_RHoldsIn (okW_in h0) h1 H2) ?_
        simp (disch := first | omega | simp) [bv, iv]
        exact rt_refl rfl (by first | omega | (simp only [up_nx, put_nx, kill_nx]; done) | (simp only [up_nx, put_nx, kill_nx]; omega))
      · simp (disch := first | omega | simp) [bv, iv, hb, h0, h1]
        exact rt_refl rfl (by first | omega | (simp only [up_nx, put_nx, kill_nx]; done) | (simp only [up_nx, put_nx, kill_nx]; omega))
    · simp (disch := first | omega | simp) [bv, iv, hb, h0]
      exact rt_refl rfl (by first | omega | (simp only [up_nx, put_nx, kill_nx]; done) | (simp only [up_nx, put_nx, kill_nx]; omega)))
end Go.Proofs.Ytcmnjoepadjioaa

/- Against: a world against what does not follow; what the claims of an argument must be. -/
namespace Go.Proofs.Ytcmnjoepadjioaa
open Go.RowKit Go.Maps
theorem c_RCheckClaims (p l : List Clm) (hb : l.length * 24 ≤ 140737488354328) : PF Try.prog 14 [cE p, cE l] (iv (okP p l)) := fun H => tri_wf fun hw => tri_wordhoardref_CheckClaims (by
  have hml : maxLen = 9223372036854775807 := by decide
  unfold S_wordhoardref_CheckClaims
  simp +contextual [cE]
  refine ⟨fun h => rt_refl ⟨rfl, by unfold okP; rw [if_pos (by omega)]; rfl⟩ (Nat.le_refl _), fun h => ?_⟩
  have hokp : okP p l = okL (p ++ l) := by unfold okP; rw [if_neg (by omega)]
  rw [hokp]
  refine ⟨by omega, by omega, by omega, by omega, ?_⟩
  refine loop_st (fun i : Nat => [iv i]) (fun i H' => H.le H' ∧ H.nx + 6 ≤ H'.nx ∧ H'.get (H.nx + 4) = some (.row 24 3 ((p ++ l).map Clm.cs)) ∧ i ≤ (p ++ l).length ∧ ∀ y ∈ (p ++ l).take i, decide y.ok = true) (fun i => (p ++ l).length - i) 0 (.refl (by first | omega | (simp only [up_nx, put_nx, kill_nx]; done) | (simp only [up_nx, put_nx, kill_nx]; omega))) ⟨(by repeat (first | with_reducible assumption | with_reducible exact AH.le.refl _ | with_reducible apply AH.le.up | (with_reducible refine AH.le.put hw ?_ ?_; · first | omega | (simp only [up_nx, put_nx, kill_nx]; done) | (simp only [up_nx, put_nx, kill_nx]; omega)) | (with_reducible refine AH.le.kill hw ?_ ?_; · first | omega | (simp only [up_nx, put_nx, kill_nx]; done) | (simp only [up_nx, put_nx, kill_nx]; omega)))), (by first | omega | (simp only [up_nx, put_nx, kill_nx]; done) | (simp only [up_nx, put_nx, kill_nx]; omega)), by rw [put_get, List.take_of_length_le (by simp), ← List.map_append], Nat.zero_le _, by simp⟩ ?_
  rintro i H1 hn1 ⟨hle, hn, hrow, hi, hall⟩ k hk
  have hlen : p.length + l.length = (p ++ l).length := by simp
  have hb2 : (p ++ l).length < 9223372036854775807 := by rw [List.length_append]; omega
  rw [hlen]
  generalize p ++ l = xs at *
  by_cases hi2 : i < xs.length
  · have hg := List.getElem?_eq_getElem hi2
    simp (disch := first | omega | simp) [iv, hi2, Clm.cs, hrow]
    refine ca_pure (by kernel_rfl) (c_RCheckClaim xs[i] _) ?_
    by_cases hok : xs[i].ok
    · simp [hok, iv]
      rw [ivn (by omega)]
      exact hk (i + 1) _ _ _ (.refl (by first | omega | (simp only [up_nx, put_nx, kill_nx]; done) | (simp only [up_nx, put_nx, kill_nx]; omega))) ⟨hle, hn, hrow, hi2, all_take hall hg (by simp [hok])⟩ (by omega)
    · simp [hok, iv]
      refine rt_one hw (by repeat (first | with_reducible assumption | with_reducible exact AH.le.refl _ | with_reducible apply AH.le.up | (with_reducible refine AH.le.put hw ?_ ?_; · first | omega | (simp only [up_nx, put_nx, kill_nx]; done) | (simp only [up_nx, put_nx, kill_nx]; omega)) | (with_reducible refine AH.le.kill hw ?_ ?_; · first | omega | (simp only [up_nx, put_nx, kill_nx]; done) | (simp only [up_nx, put_nx, kill_nx]; omega)))) (by repeat (first | exact Cl.p _ | exact Cl.dsl _ _ | exact Cl.any | refine Cl.tup ?_ | refine Cl.agg ?_ | exact Clo.nil | refine Clo.cons ?_ ?_)) ⟨rfl, ?_⟩
      unfold okL
      rw [if_neg]
      simp
      exact ⟨_, List.getElem_mem hi2, hok⟩
  · simp [iv, hi2]
    refine rt_one hw (by repeat (first | with_reducible assumption | with_reducible exact AH.le.refl _ | with_reducible apply AH.le.up | (with_reducible refine AH.le.put hw ?_ ?_; · first | omega | (simp only [up_nx, put_nx, kill_nx]; done) | (simp only [up_nx, put_nx, kill_nx]; omega)) | (with_reducible refine AH.le.kill hw ?_ ?_; · first | omega | (simp only [up_nx, put_nx, kill_nx]; done) | (simp only [up_nx, put_nx, kill_nx]; omega)))) (by repeat (first | exact Cl.p _ | exact Cl.dsl _ _ | exact Cl.any | refine Cl.tup ?_ | refine Cl.agg ?_ | exact Clo.nil | refine Clo.cons ?_ ?_)) ⟨rfl, ?_⟩
    unfold okL
    rw [List.take_of_length_le (by omega)] at hall
    rw [if_pos (by simpa using hall)])
theorem c_IndexFunc_clm {H : AH} {xs : List Clm} {g : FuncId} {first cap : List AV} {p : Clm → Bool} (hg : callable Try.prog g = true) (hp : ∀ x ∈ xs, Tri Try.prog g (first ++ [x.av] ++ cap) H (fun v H' => H' = H ∧ v = bv (p x))) :
    Tri Try.prog 44 [cE xs, .fn (.func g) first cap] H (fun v H' => H' = H ∧ ∃ i : Int, v = iv i ∧ decide (i ≥ 0) = xs.any p) := tri_wf fun hw => tri_len 0 rfl fun hl _ => tri_slices_IndexFunc_s_api_Claim_api_Claim (by
  have hml : maxLen = 9223372036854775807 := by decide
  rw [List.length_map] at hl
  unfold S_slices_IndexFunc_s_api_Claim_api_Claim cE
  simp
  refine loop_st (fun i : Nat => [iv i]) (fun i H' => H' = H ∧ i ≤ xs.length ∧ ∀ y ∈ xs.take i, p y = false) (fun i => xs.length - i) 0 (.refl (Nat.le_refl _)) ⟨rfl, Nat.zero_le _, by simp⟩ ?_
  rintro i _ _ ⟨rfl, hi, hno⟩ k hk
  by_cases h : i < xs.length
  · have hx := List.getElem?_eq_getElem h
    simp [iv, h, Clm.cs]
    refine ca_pure hg (hp _ (List.getElem_mem h)) ?_
    cases hq : p xs[i]
    · simp [bv]
      rw [ivn (by omega)]
      exact hk (i + 1) _ _ _ (.refl (Nat.le_refl _)) ⟨rfl, h, any_take hno hx hq⟩ (by omega)
    · simp [bv]
      exact rt_refl ⟨rfl, _, rfl, by simp; exact ⟨_, List.getElem_mem h, hq⟩⟩ (Nat.le_refl _)
  · simp [iv, h]
    have : xs.any p = false := by
      rw [List.any_eq_false]; intro y hy; rw [hno y (by rw [List.take_of_length_le (by omega)]; exact hy)]; simp
    exact rt_refl ⟨rfl, _, rfl, by rw [this]; rfl⟩ (Nat.le_refl _))
theorem c_ContainsFunc_clm {H : AH} {xs : List Clm} {g : FuncId} {first cap : List AV} {p : Clm → Bool} (hg : callable Try.prog g = true) (hp : ∀ x ∈ xs, Tri Try.prog g (first ++ [x.av] ++ cap) H (fun v H' => H' = H ∧ v = bv (p x))) :
    Tri Try.prog 31 [cE xs, .fn (.func g) first cap] H (fun v H' => H' = H ∧ v = bv (xs.any p)) := tri_wf fun hw => tri_slices_ContainsFunc_s_api_Claim_api_Claim (by
  unfold S_slices_ContainsFunc_s_api_Claim_api_Claim
  refine ca_of (by kernel_rfl) (c_IndexFunc_clm hg hp) ?_
  rintro _ _ ⟨rfl, i, rfl, hi⟩
  simp only [iv, ↓q_geq_i]
  exact rt_refl ⟨rfl, by rw [hi]; rfl⟩ (Nat.le_refl _))
theorem c_Ag1 {H : AH} {w : Nat} (hw64 : w < 64) {p : Clm} (hp : p.ok) {i : Nat} {t : TypeId} (hg : H.get i = some (.box t [iv w])) : Tri Try.prog 32 [p.av, .ptr i 0] H (fun v H' => H' = H ∧ v = bv (!(p.so || holdsC [w] p))) := tri_wf fun hw => tri_prove_Against_fn1 (by
  have hlt := (hw _ _ hg).1
  have hne : i ≠ H.nx := by omega
  have hc : ∀ H', Tri Try.prog 21 [wE [(w : Int)], p.av] H' _ := fun H' => c_holds (xs := [(w : Int)]) (fun x hx => by simp at hx; subst hx; unfold inWd; omega) hp H'
  unfold iv at hg
  unfold S_prove_Against_fn1
  cases hs : p.so with
  | true =>
    simp (disch := first | omega | simp) [Clm.av, Clm.cs, put_get_ne, hs]
    exact rt_one hw (by repeat (first | with_reducible assumption | with_reducible exact AH.le.refl _ | with_reducible apply AH.le.up | (with_reducible refine AH.le.put hw ?_ ?_; · first | omega | (simp only [up_nx, put_nx, kill_nx]; done) | (simp only [up_nx, put_nx, kill_nx]; omega)) | (with_reducible refine AH.le.kill hw ?_ ?_; · first | omega | (simp only [up_nx, put_nx, kill_nx]; done) | (simp only [up_nx, put_nx, kill_nx]; omega)))) (by repeat (first | exact Cl.p _ | exact Cl.dsl _ _ | exact Cl.any | refine Cl.tup ?_ | refine Cl.agg ?_ | exact Clo.nil | refine Clo.cons ?_ ?_)) ⟨rfl, rfl⟩
  | false =>
    simp (disch := first | omega | simp) [Clm.av, Clm.cs, put_get_ne, hs, hg]
    have hpv : p.av = .agg [.p (.bool false), .p (.int .i64 p.a), .p (.int .i64 p.b)] := by unfold Clm.av Clm.cs; rw [hs]
    rw [hpv] at hc
    refine ca_row (ps := []) (es := [[iv w]]) (by kernel_rfl) (put_get _ _) (dt_ints [(w : Int)]) rfl (hc _) ?_
    rintro _ H1 ⟨rfl, rfl⟩
    simp (disch := first | omega | simp) [bv]
    exact rt_one hw (by repeat (first | with_reducible assumption | with_reducible exact AH.le.refl _ | with_reducible apply AH.le.up | (with_reducible refine AH.le.put hw ?_ ?_; · first | omega | (simp only [up_nx, put_nx, kill_nx]; done) | (simp only [up_nx, put_nx, kill_nx]; omega)) | (with_reducible refine AH.le.kill hw ?_ ?_; · first | omega | (simp only [up_nx, put_nx, kill_nx]; done) | (simp only [up_nx, put_nx, kill_nx]; omega)))) (by repeat (first | exact Cl.p _ | exact Cl.dsl _ _ | exact Cl.any | refine Cl.tup ?_ | refine Cl.agg ?_ | exact Clo.nil | refine Clo.cons ?_ ?_)) ⟨rfl, rfl⟩)
theorem c_Ag2 {H : AH} {w : Int} (hw64 : inWd w) {c : Clm} (hp : c.ok) {i : Nat} {t : TypeId} (hg : H.get i = some (.box t c.cs)) : Tri Try.prog 34 [iv w, .ptr i 0] H (fun v H' => H' = H ∧ v = bv (holdsC [w.toNat] c)) := tri_wf fun hw => tri_prove_Against_fn2 (by
  have hlt := (hw _ _ hg).1
  have hc : ∀ H', Tri Try.prog 21 [wE [w], c.av] H' _ := fun H' => c_holds (xs := [w]) (fun x hx => by simp at hx; subst hx; exact hw64) hp H'
  unfold Clm.cs at hg
  unfold S_prove_Against_fn2
  simp (disch := first | omega | simp) [iv, put_get_ne, hg]
  refine ca_row (ps := []) (qs := [c.av]) (es := [[iv w]]) (by kernel_rfl) (put_get _ _) (dt_ints [w]) rfl (hc _) ?_
  rintro _ H1 ⟨rfl, rfl⟩
  simp (disch := first | omega | simp) [bv]
  exact rt_one hw (by repeat (first | with_reducible assumption | with_reducible exact AH.le.refl _ | with_reducible apply AH.le.up | (with_reducible refine AH.le.put hw ?_ ?_; · first | omega | (simp only [up_nx, put_nx, kill_nx]; done) | (simp only [up_nx, put_nx, kill_nx]; omega)) | (with_reducible refine AH.le.kill hw ?_ ?_; · first | omega | (simp only [up_nx, put_nx, kill_nx]; done) | (simp only [up_nx, put_nx, kill_nx]; omega)))) (by repeat (first | exact Cl.p _ | exact Cl.dsl _ _ | exact Cl.any | refine Cl.tup ?_ | refine Cl.agg ?_ | exact Clo.nil | refine Clo.cons ?_ ?_)) ⟨rfl, rfl⟩)
theorem c_Ag3 {H : AH} {w : Int} (hw64 : inWd w) {c : Clm} (hp : c.ok) {i : Nat} {t : TypeId} (hg : H.get i = some (.box t c.cs)) : Tri Try.prog 35 [iv w, .ptr i 0] H (fun v H' => H' = H ∧ v = bv (!holdsC [w.toNat] c)) := tri_wf fun hw => tri_prove_Against_fn3 (by
  have hlt := (hw _ _ hg).1
  have hc : ∀ H', Tri Try.prog 21 [wE [w], c.av] H' _ := fun H' => c_holds (xs := [w]) (fun x hx => by simp at hx; subst hx; exact hw64) hp H'
  unfold Clm.cs at hg
  unfold S_prove_Against_fn3
  simp (disch := first | omega | simp) [iv, put_get_ne, hg]
  refine ca_row (ps := []) (qs := [c.av]) (es := [[iv w]]) (by kernel_rfl) (put_get _ _) (dt_ints [w]) rfl (hc _) ?_
  rintro _ H1 ⟨rfl, rfl⟩
  simp (disch := first | omega | simp) [bv]
  exact rt_one hw (by repeat (first | with_reducible assumption | with_reducible exact AH.le.refl _ | with_reducible apply AH.le.up | (with_reducible refine AH.le.put hw ?_ ?_; · first | omega | (simp only [up_nx, put_nx, kill_nx]; done) | (simp only [up_nx, put_nx, kill_nx]; omega)) | (with_reducible refine AH.le.kill hw ?_ ?_; · first | omega | (simp only [up_nx, put_nx, kill_nx]; done) | (simp only [up_nx, put_nx, kill_nx]; omega)))) (by repeat (first | exact Cl.p _ | exact Cl.dsl _ _ | exact Cl.any | refine Cl.tup ?_ | refine Cl.agg ?_ | exact Clo.nil | refine Clo.cons ?_ ?_)) ⟨rfl, rfl⟩)
theorem c_Ag4 {H : AH} {xs : List Int} (hx : ∀ x ∈ xs, inWd x) {p : Clm} (hp : p.ok) {i : Nat} {t : TypeId} (hg : H.get i = some (.box t [wE xs])) : Tri Try.prog 36 [p.av, .ptr i 0] H (fun v H' => H' = H ∧ v = bv (!holdsC (natL xs) p)) := tri_wf fun hw => tri_prove_Against_fn4 (by
  have hlt := (hw _ _ hg).1
  unfold S_prove_Against_fn4
  simp (disch := first | omega | simp) [Clm.av, Clm.cs, put_get_ne, hg]
  refine ca_pure (by kernel_rfl) (c_holds hx hp _) ?_
  simp (disch := first | omega | simp) [bv]
  exact rt_one hw (by repeat (first | with_reducible assumption | with_reducible exact AH.le.refl _ | with_reducible apply AH.le.up | (with_reducible refine AH.le.put hw ?_ ?_; · first | omega | (simp only [up_nx, put_nx, kill_nx]; done) | (simp only [up_nx, put_nx, kill_nx]; omega)) | (with_reducible refine AH.le.kill hw ?_ ?_; · first | omega | (simp only [up_nx, put_nx, kill_nx]; done) | (simp only [up_nx, put_nx, kill_nx]; omega)))) (by repeat (first | exact Cl.p _ | exact Cl.dsl _ _ | exact Cl.any | refine Cl.tup ?_ | refine Cl.agg ?_ | exact Clo.nil | refine Clo.cons ?_ ?_)) ⟨rfl, rfl⟩)
theorem c_IndexFunc_el {H : AH} {a : AV} {xs : List Int} {g : FuncId} {first cap : List AV} {p : Int → Bool} (ha : elF H 1 a = some (intE xs)) (hl : xs.length < 1000000000) (hg : callable Try.prog g = true) (hp : ∀ x ∈ xs, Tri Try.prog g (first ++ [iv x] ++ cap) H (fun v H' => H' = H ∧ v = bv (p x))) :
    Tri Try.prog 37 [a, .fn (.func g) first cap] H (fun v H' => H' = H ∧ ((v = iv (-1) ∧ ∀ x ∈ xs, p x = false) ∨ ∃ k : Nat, v = iv k ∧ ∃ x, xs[k]? = some x ∧ p x = true ∧ ∀ y ∈ xs.take k, p y = false)) := tri_wf fun hw => tri_slices_IndexFunc_s_int_int (by
  have hlen : (intE xs).length = xs.length := by simp [intE]
  unfold S_slices_IndexFunc_s_int_int
  simp [elF_len ha, hlen]
  refine loop_st (fun i : Nat => [iv i]) (fun i H' => H' = H ∧ i ≤ xs.length ∧ ∀ y ∈ xs.take i, p y = false) (fun i => xs.length - i) 0 (.refl (Nat.le_refl _)) ⟨rfl, Nat.zero_le _, by simp⟩ ?_
  rintro i _ _ ⟨rfl, hi, hno⟩ k hk
  by_cases h : i < xs.length
  · obtain ⟨x, hx⟩ : ∃ x, xs[i]? = some x := ⟨_, List.getElem?_eq_getElem h⟩
    obtain ⟨q, q1, q2, q3⟩ := elF_acc (by decide) ha (i := i) (e := [iv x]) (by simp [intE, hx])
    simp [iv, h, q1, q3]
    refine ca_pure hg (hp x (List.mem_of_getElem? hx)) ?_
    cases hq : p x
    · simp [bv]
      rw [ivn (by omega)]
      exact hk (i + 1) _ _ _ (.refl (Nat.le_refl _)) ⟨rfl, h, any_take hno hx hq⟩ (by omega)
    · simp [bv]
      exact rt_refl ⟨rfl, .inr ⟨i, rfl, x, hx, hq, hno⟩⟩ (Nat.le_refl _)
  · simp [iv, h]
    exact rt_refl ⟨rfl, .inl ⟨rfl, fun y hy => hno y (by rw [List.take_of_length_le (by omega)]; exact hy)⟩⟩ (Nat.le_refl _))
theorem filter_take_next {α : Type} {xs : List α} {p : α → Bool} {j : Nat} {x : α} (h : xs[j]? = some x) : (xs.take (j + 1)).filter p = (xs.take j).filter p ++ if p x then [x] else [] := by
  rw [List.take_add_one, h, List.filter_append]
  congr 1
  simp [List.filter_cons]
theorem filter_len_le {α : Type} (xs : List α) (p : α → Bool) (j : Nat) : ((xs.take j).filter p).length ≤ j := Nat.le_trans (List.length_filter_le _ _) (by rw [List.length_take]; omega)
theorem c_DeleteFunc {H0 H : AH} {v : AV} {xs : List Int} {g : FuncId} {first cap : List AV} {p : Int → Bool} (hw : WF H0) (hle : H0.le H) (hn : H0.nx ≤ H.nx) (hv : Grows 3 1 H0 H v (intE xs)) (hl : xs.length < 1000000000) (hg : callable Try.prog g = true)
    (hp : ∀ x ∈ xs, ∀ H', (∀ j, j < H.nx → (∀ n, v ≠ .osl j 1 0 n) → H'.get j = H.get j) → Tri Try.prog g (first ++ [iv x] ++ cap) H' (fun u H'' => H'' = H' ∧ u = bv (p x))) :
    Tri Try.prog 33 [v, .fn (.func g) first cap] H (fun r H' => Grows 3 1 H0 H' r (intE (xs.filter fun x => !p x)) ∧ H0.le H' ∧ H.nx ≤ H'.nx ∧ ∀ j, j < H.nx → (∀ n, v ≠ .osl j 1 0 n) → H'.get j = H.get j ∧ ∀ n, r ≠ .osl j 1 0 n) := tri_wf fun hwf => tri_slices_DeleteFunc_s_int_int (by
  have hlen : (intE xs).length = xs.length := by simp [intE]
  unfold S_slices_DeleteFunc_s_int_int
  refine ca_of (by kernel_rfl) (c_IndexFunc_el hv.el hl hg fun x hx => hp x hx H fun _ _ _ => rfl) ?_
  rintro _ H1 ⟨rfl, ⟨rfl, hno⟩ | ⟨i, rfl, x, hx, hpx, hno⟩⟩
  · simp [iv]
    have hf : xs.filter (fun x => !p x) = xs := List.filter_eq_self.2 fun x hx => by rw [hno x hx]; rfl
    rw [hf]
    exact rt_refl ⟨hv, hle, Nat.le_refl _, fun j _ h => ⟨rfl, h⟩⟩ (Nat.le_refl _)
  · have hi := (List.getElem?_eq_some_iff.1 hx).1
    rcases hv with ⟨_, h⟩ | ⟨r, es, rfl, h2, h3, h4, h5, h6⟩
    · rw [h] at hlen; simp at hlen; omega
    have hlen0 := hlen
    rw [hlen] at hp h5
    have hm1 : ¬ ((i : Int) = -1) := by omega
    have hiv := ivn (i := i) (by omega)
    have hesl : xs.length ≤ es.length := by have := congrArg List.length h5; rw [List.length_take, hlen] at this; omega
    have hat : ∀ k x, xs[k]? = some x → es[k]? = some [iv x] := fun k x hk => by
      have hkl := (List.getElem?_eq_some_iff.1 hk).1
      have : (es.take xs.length)[k]? = some [iv x] := by rw [h5]; simp [intE, hk]
      rwa [List.getElem?_take, if_pos hkl] at this
    simp [iv, hm1, hiv, hlen]
    refine loop_st (fun s : Nat × Nat => [iv (s.1 : Int), iv (s.2 : Int)]) (fun s H' => s.1 < s.2 ∧ s.2 ≤ xs.length ∧ H0.le H' ∧ H1.nx ≤ H'.nx ∧ (∀ j, j < H1.nx → j ≠ r → H'.get j = H1.get j) ∧ ∃ es', H'.get r = some (.row 3 1 es') ∧ es'.length = es.length ∧ DtR es' ∧ es'.take s.1 = intE ((xs.take s.2).filter fun x => !p x) ∧ (∀ k, s.2 ≤ k → es'[k]? = es[k]?) ∧ ∀ k, k < xs.length → ∃ z, es'[k]? = some [iv z]) (fun s => xs.length - s.2) (i, i + 1) (.refl (Nat.le_refl _))
      ⟨Nat.lt_succ_self i, hi, hle, Nat.le_refl _, fun _ _ _ => rfl, es, h4, rfl, h6, ?_, fun _ _ => rfl, fun k hk => ⟨_, hat k _ (List.getElem?_eq_getElem hk)⟩⟩ ?_
    · dsimp only
      rw [filter_take_next hx, hpx, List.filter_eq_self.2 fun y hy => by rw [hno y hy]; rfl]
      simp
      have := congrArg (List.take i) h5
      rw [List.take_take, show min i xs.length = i by omega] at this
      rw [this]; simp [intE, List.map_take]
    rintro ⟨a, b⟩ H2 hn2 ⟨hab, hb, hle2, hn2', hfr, es', hrow, hel, hdt, htk, htail, hone⟩ k hk
    dsimp only at hab hb htk htail hk
    by_cases hbl : b < xs.length
    · obtain ⟨y, hy⟩ : ∃ y, xs[b]? = some y := ⟨_, List.getElem?_eq_getElem hbl⟩
      have hyb : es'[b]? = some [.p (.int .i64 y)] := by rw [htail b (Nat.le_refl _)]; exact hat b y hy
      have hyg : ∀ h, es'[b]'h = [.p (.int .i64 y)] := fun h => (List.getElem?_eq_some_iff.1 hyb).2
      have hbe : b < es'.length := by omega
      have haa : (a : Int) < (xs.length : Int) := by omega
      have hal : a < es'.length := by omega
      have hav := ivn (i := a) (by omega)
      have hbv := ivn (i := b) (by omega)
      obtain ⟨z0, hz0⟩ := hone a (by omega)
      have hzg : ∀ h, es'[a]'h = [iv z0] := fun h => (List.getElem?_eq_some_iff.1 hz0).2
      unfold iv at hzg
      simp (disch := first | omega | simp) [iv, hbl, hrow, hyg, hbe]
      refine ca_pure hg (hp y (List.mem_of_getElem? hy) H2 fun j hj hne => hfr j hj fun e => hne xs.length (by rw [e])) ?_
      cases hpy : p y with
      | true =>
        simp (disch := first | omega | simp) [bv, hbv]
        refine hk (a, b + 1) _ _ _ (.refl hn2) ⟨by dsimp only; omega, hbl, hle2, hn2', hfr, es', hrow, hel, hdt, ?_, fun k hk => htail k (by dsimp only at hk; omega), hone⟩ (by dsimp only; omega)
        dsimp only
        rw [filter_take_next hy, hpy, htk]; simp
      | false =>
        simp (disch := first | omega | simp) [bv, hav, hbv, haa, hrow, hal, hzg]
        refine hk (a + 1, b + 1) _ _ _ (.refl (by first | omega | (simp only [up_nx, put_nx, kill_nx]; done) | (simp only [up_nx, put_nx, kill_nx]; omega))) ⟨by dsimp only; omega, hbl, .put hw h2 (.up hle2), (by first | omega | (simp only [up_nx, put_nx, kill_nx]; done) | (simp only [up_nx, put_nx, kill_nx]; omega)), fun j hj hne => by rw [put_get_ne _ _ _ hne]; exact hfr j hj hne, _, put_get _ _, by rw [List.length_set]; exact hel, hdt.set (by intro z hz; simp at hz; subst hz; exact Dt.p _), ?_, fun k hk => ?_, fun k hk => ?_⟩ (by dsimp only; omega)
        · dsimp only
          rw [filter_take_next hy, hpy, List.take_add_one, List.getElem?_set_self (by omega), List.take_set_of_le (by omega), htk]
          simp [intE]
          rfl
        · dsimp only at hk
          rw [List.getElem?_set_ne (by omega)]; exact htail k (by omega)
        · rw [List.getElem?_set]
          by_cases e : a = k
          · subst e; rw [if_pos rfl, if_pos hal]; exact ⟨y, rfl⟩
          · rw [if_neg e]; exact hone k hk
    · have hbe : b = xs.length := by omega
      subst hbe
      rw [List.take_length] at htk
      have hal : (intE (xs.filter fun x => !p x)).length = a := by have := congrArg List.length htk; rw [List.length_take] at this; omega
      simp (disch := first | omega | simp) [iv, hrow]
      refine ⟨by omega, by omega, by omega, rt_refl ⟨.inr ⟨r, _, by rw [hal], h2, (by first | omega | (simp only [up_nx, put_nx, kill_nx]; done) | (simp only [up_nx, put_nx, kill_nx]; omega)), put_get _ _, ?_, ?_⟩, .put hw h2 (.up hle2), (by first | omega | (simp only [up_nx, put_nx, kill_nx]; done) | (simp only [up_nx, put_nx, kill_nx]; omega)), fun j hj hne => ⟨?_, fun n e => hne (by injection e)⟩⟩ (by first | omega | (simp only [up_nx, put_nx, kill_nx]; done) | (simp only [up_nx, put_nx, kill_nx]; omega))⟩
      · rw [hal, List.take_append_of_le_length (by rw [List.length_take]; omega), List.take_take, Nat.min_self]; exact htk
      · exact hdt.take.app ((DtR.app (fun e he z hz => by
          obtain ⟨_, rfl⟩ := List.mem_replicate.1 he
          simp at hz; subst hz; exact Dt.p _) hdt.drop))
      · rw [put_get_ne _ _ _ (fun e => hne e.symm)]; exact hfr j hj (fun e => hne e.symm))
end Go.Proofs.Ytcmnjoepadjioaa

/- Against, walked. -/
namespace Go.Proofs.Ytcmnjoepadjioaa
open Go.RowKit Go.Maps
def nI (l : List Nat) : List Int := l.map fun n : Nat => (n : Int)
theorem natL_nI (l : List Nat) : natL (nI l) = l := by
  simp only [natL, nI, List.map_map]
  exact List.map_id'' (fun _ => rfl) l
theorem nI_in {l : List Nat} (h : ∀ w ∈ l, w < 64) : ∀ x ∈ nI l, inWd x := fun x hx => by
  obtain ⟨n, hn, rfl⟩ := List.mem_map.1 hx
  have := h n hn
  unfold inWd; omega
theorem may_lt {p : List Clm} : ∀ w ∈ mayL p, w < 64 := fun w hw => (mem_may.1 hw).1
theorem agW_lt {p : List Clm} {c : Clm} : ∀ w ∈ agW p c, w < 64 := fun w hw => may_lt w (agW_may hw)
theorem nI_filter (l : List Nat) (f : Int → Bool) : (nI l).filter f = nI (l.filter fun n => f (n : Int)) := by
  unfold nI; rw [List.filter_map]; rfl
theorem holds_one (w : Nat) (c : Clm) : holdsC [w] c = (holds1 w c == c.so) := by simp [holdsC]
/-- what Against answers -/
def agR (p : List Clm) (c : Clm) : AV :=
  if okP p [c] ≠ 0 then .tup [.p (.slice none 0 0), bv false, iv (okP p [c])]
  else if agB p c then .tup [wE (nI (agW p c)), bv true, iv 0] else .tup [.p (.slice none 0 0), bv false, iv 0]
/-- the last question: does some premise not hold there -/
theorem c_ag_last {H6 : AH} {p : List Clm} {L : List Nat} {b : Nat} (hpo : ∀ q ∈ p, q.ok) (hL : ∀ w ∈ L, w < 64) (hb : H6.get b = some (.box 22 [wE (nI L)])) {k : AV → AH → Prop} (hk : k (bv (p.any fun q => !holdsC L q)) H6) :
    Ca Try.prog (.fn (.func 31) [] []) [.dsl 3 (p.map Clm.cs), .fn (.func 36) [] [.ptr b 0]] k H6 :=
  ca_pure (by kernel_rfl) (c_ContainsFunc_clm (p := fun q => !holdsC L q) (by kernel_rfl) fun q hq => by have := c_Ag4 (nI_in hL) (hpo q hq) hb; rwa [natL_nI] at this) hk
theorem all_not_any {α : Type} {p : List α} {f : α → Bool} : p.all f = !(p.any fun q => !f q) := by
  induction p with
  | nil => rfl
  | cons a r ih => rw [List.all_cons, List.any_cons, ih]; cases f a <;> simp
set_option maxHeartbeats 1000000 in
theorem c_Against (p : List Clm) (c : Clm) (H : AH) : Tri Try.prog 17 [cE p, c.av] H (fun r H' => H' = H ∧ r = agR p c) := tri_wf fun hw => tri_prove_Against (by
  unfold S_prove_Against
  have hmx : maxLen = 9223372036854775807 := by decide
  simp (disch := first | omega | simp) [cE, Clm.av, Clm.cs, put_get_ne]
  refine ca_row (ps := [.dsl 3 (p.map Clm.cs)]) (qs := []) (es := [c].map Clm.cs) (by kernel_rfl) (put_get _ _) (dt_cs [c]) rfl (c_checkAll p [c] (by simp) _) ?_
  rintro _ H1 ⟨rfl, rfl⟩
  generalize hokv : okP p [c] = e
  simp (disch := first | omega | simp) [iv]
  refine ⟨fun he => ?_, fun he => ?_⟩
  · exact rt_tup hw (by repeat (first | with_reducible assumption | with_reducible exact AH.le.refl _ | with_reducible apply AH.le.up | (with_reducible refine AH.le.put hw ?_ ?_; · first | omega | (simp only [up_nx, put_nx, kill_nx]; done) | (simp only [up_nx, put_nx, kill_nx]; omega)) | (with_reducible refine AH.le.kill hw ?_ ?_; · first | omega | (simp only [up_nx, put_nx, kill_nx]; done) | (simp only [up_nx, put_nx, kill_nx]; omega)))) (by repeat (first | exact Cl.p _ | exact Cl.dsl _ _ | exact Cl.any | refine Cl.tup ?_ | refine Cl.agg ?_ | exact Clo.nil | refine Clo.cons ?_ ?_)) ⟨rfl, by unfold agR; rw [if_pos (by rw [hokv]; exact he), hokv]; rfl⟩
  subst he
  obtain ⟨hpl, hpo⟩ := okP_zero hokv
  have hco : c.ok := hpo c (by simp)
  have hpo' : ∀ q ∈ p, q.ok := fun q hq => hpo q (List.mem_append_left _ hq)
  refine loop_st (fun w : Nat => [iv w]) (fun w H' => w ≤ 64 ∧ H.le H' ∧ H.nx + 10 ≤ H'.nx ∧ H'.get H.nx = some (.box 24 c.cs) ∧ ∃ v, Grows 3 1 H H' v (intE (nI ((List.range w).filter (mayB p)))) ∧ H'.get (H.nx + 9) = some (.box 22 [v])) (fun w => 64 - w) 0 (.refl (Nat.le_refl _)) ⟨Nat.zero_le _, (by repeat (first | with_reducible assumption | with_reducible exact AH.le.refl _ | with_reducible apply AH.le.up | (with_reducible refine AH.le.put hw ?_ ?_; · first | omega | (simp only [up_nx, put_nx, kill_nx]; done) | (simp only [up_nx, put_nx, kill_nx]; omega)) | (with_reducible refine AH.le.kill hw ?_ ?_; · first | omega | (simp only [up_nx, put_nx, kill_nx]; done) | (simp only [up_nx, put_nx, kill_nx]; omega)))), (by first | omega | (simp only [up_nx, put_nx, kill_nx]; done) | (simp only [up_nx, put_nx, kill_nx]; omega)), by simp (disch := first | omega | simp) [put_get_ne]; rfl, .p (.slice none 0 0), (show Grows 3 1 H _ _ [] from .nil _ _ _ _), put_get _ _⟩ ?_
  rintro w H1 hn1 ⟨hwl, hle, hn, hcb, v, hv, hvb⟩ k hk
  by_cases hw64 : w < 64
  · have hwi : (w : Int) < 64 := by omega
    have hwv := ivn (i := w) (by omega)
    simp (disch := first | omega | simp) [iv, hwi]
    refine ca_pure (by kernel_rfl) (c_ContainsFunc_clm (p := fun q => !(q.so || holdsC [w] q)) (by kernel_rfl) fun q hq => c_Ag1 hw64 (hpo' q hq) (put_get _ _)) ?_
    have hmay : (p.any fun q => !(q.so || holdsC [w] q)) = !mayB p w := by
      unfold mayB
      rw [Bool.eq_iff_iff]; simp
    rw [hmay]
    have hrs : (List.range (w + 1)).filter (mayB p) = (List.range w).filter (mayB p) ++ if mayB p w then [w] else [] := by
      rw [List.range_succ, List.filter_append]; congr 1; simp [List.filter_cons]
    cases hm : mayB p w with
    | false =>
      simp (disch := first | omega | simp) [bv, hwv]
      refine hk (w + 1) _ _ _ (.refl (by first | omega | (simp only [up_nx, put_nx, kill_nx]; done) | (simp only [up_nx, put_nx, kill_nx]; omega))) ⟨by omega, (by repeat (first | with_reducible assumption | with_reducible exact AH.le.refl _ | with_reducible apply AH.le.up | (with_reducible refine AH.le.put hw ?_ ?_; · first | omega | (simp only [up_nx, put_nx, kill_nx]; done) | (simp only [up_nx, put_nx, kill_nx]; omega)) | (with_reducible refine AH.le.kill hw ?_ ?_; · first | omega | (simp only [up_nx, put_nx, kill_nx]; done) | (simp only [up_nx, put_nx, kill_nx]; omega)))), (by first | omega | (simp only [up_nx, put_nx, kill_nx]; done) | (simp only [up_nx, put_nx, kill_nx]; omega)), ?_, v, ?_, ?_⟩ (by omega)
      · simp (disch := first | omega | simp) [put_get_ne]; exact hcb
      · rw [hrs, hm]; simpa using hv.up_ (by first | omega | (simp only [up_nx, put_nx, kill_nx]; done) | (simp only [up_nx, put_nx, kill_nx]; omega)) fun j o hj _ ho => by simp (disch := first | omega | simp) [put_get_ne]; exact ho
      · simp (disch := first | omega | simp) [put_get_ne]; exact hvb
    | true =>
      have hlen : (intE (nI ((List.range w).filter (mayB p)))).length ≤ 64 := by
        simp only [intE, nI, List.length_map]
        have := List.length_filter_le (mayB p) (List.range w)
        rw [List.length_range] at this; omega
      have hvn : ∀ n, v ≠ .osl (H.nx + 9) 1 0 n := hv.not fun xs e => by rw [hvb] at e; cases e
      have hcn : ∀ n, v ≠ .osl H.nx 1 0 n := hv.not fun xs e => by rw [hcb] at e; cases e
      simp (disch := first | omega | simp) [bv, hwv, put_get_ne, hvb]
      refine Grows.app (t := 3) hw (hv.up_ (by first | omega | (simp only [up_nx, put_nx, kill_nx]; done) | (simp only [up_nx, put_nx, kill_nx]; omega)) fun j o hj _ ho => by simp (disch := first | omega | simp) [put_get_ne]; exact ho) (by repeat (first | with_reducible assumption | with_reducible exact AH.le.refl _ | with_reducible apply AH.le.up | (with_reducible refine AH.le.put hw ?_ ?_; · first | omega | (simp only [up_nx, put_nx, kill_nx]; done) | (simp only [up_nx, put_nx, kill_nx]; omega)) | (with_reducible refine AH.le.kill hw ?_ ?_; · first | omega | (simp only [up_nx, put_nx, kill_nx]; done) | (simp only [up_nx, put_nx, kill_nx]; omega)))) (by first | omega | (simp only [up_nx, put_nx, kill_nx]; done) | (simp only [up_nx, put_nx, kill_nx]; omega)) (by first | omega | (simp only [up_nx, put_nx, kill_nx]; done) | (simp only [up_nx, put_nx, kill_nx]; omega)) (ys := [[iv w]]) ?_ (dt_ints [(w : Int)]) ?_ ?_ fun v' H2 g2 l2 n2 k2 hfr => ?_
      · simp [iv]
      · simp; omega
      · simp; omega
      obtain ⟨hp1, hp2⟩ := g2.part
      obtain ⟨n', hn'⟩ := hfr
      have hb2 : H2.get (H.nx + 9) = some (.box 22 [v]) := by rw [k2 _ (by omega) hvn]; simp (disch := first | omega | simp) [put_get_ne]; exact hvb
      have hc2 : H2.get H.nx = some (.box 24 c.cs) := by rw [k2 _ (by omega) hcn]; simp (disch := first | omega | simp) [put_get_ne]; exact hcb
      have n2' : H2.nx = H1.nx + 8 := by rw [n2]; simp only [up_nx, put_nx]
      simp (disch := first | omega | simp) [hb2, hp1, hp2, hwv]
      refine hk (w + 1) _ _ _ (.refl (by first | omega | (simp only [up_nx, put_nx, kill_nx]; done) | (simp only [up_nx, put_nx, kill_nx]; omega))) ⟨by omega, (by repeat (first | with_reducible assumption | with_reducible exact AH.le.refl _ | with_reducible apply AH.le.up | (with_reducible refine AH.le.put hw ?_ ?_; · first | omega | (simp only [up_nx, put_nx, kill_nx]; done) | (simp only [up_nx, put_nx, kill_nx]; omega)) | (with_reducible refine AH.le.kill hw ?_ ?_; · first | omega | (simp only [up_nx, put_nx, kill_nx]; done) | (simp only [up_nx, put_nx, kill_nx]; omega)))), (by first | omega | (simp only [up_nx, put_nx, kill_nx]; done) | (simp only [up_nx, put_nx, kill_nx]; omega)), by rw [put_get_ne _ _ _ (by omega)]; exact hc2, v', ?_, put_get _ _⟩ (by omega)
      rw [hrs, hm]
      have := g2.up_ (H2 := H2.put (H.nx + 9) (.box 22 [v'])) (Nat.le_refl _) fun j o hj ⟨n, hjn⟩ ho => by
        rw [put_get_ne _ _ _ (fun e => by rw [hn'] at hjn; injection hjn with e1; omega)]; exact ho
      simpa [nI, intE, iv] using this
  have hw6 : w = 64 := by omega
  subst hw6
  have hmay : (List.range 64).filter (mayB p) = mayL p := rfl
  rw [hmay] at hv
  have hcb' := hcb
  unfold Clm.cs at hcb
  cases hso : c.so with
  | true =>
    simp (disch := first | omega | simp) [iv, hcb, hvb, hso]
    have hf2 : (nI (mayL p)).filter (fun x => !holdsC [x.toNat] c) = nI (agW p c) := by
      rw [nI_filter]
      unfold agW
      rw [if_pos hso]
      congr 2
      funext w
      rw [Int.toNat_natCast, holds_one, hso]; simp
    have hvn : ∀ n, v ≠ .osl (H.nx + 9) 1 0 n := hv.not fun xs e => by rw [hvb] at e; cases e
    have hcn : ∀ n, v ≠ .osl H.nx 1 0 n := hv.not fun xs e => by rw [hcb] at e; cases e
    have hml : (nI (mayL p)).length < 1000000000 := by
      have := List.length_filter_le (mayB p) (List.range 64)
      rw [List.length_range] at this
      simp only [nI, List.length_map, mayL]; omega
    refine ca_of (by kernel_rfl) (c_DeleteFunc (H0 := H) hw (by repeat (first | with_reducible assumption | with_reducible exact AH.le.refl _ | with_reducible apply AH.le.up | (with_reducible refine AH.le.put hw ?_ ?_; · first | omega | (simp only [up_nx, put_nx, kill_nx]; done) | (simp only [up_nx, put_nx, kill_nx]; omega)) | (with_reducible refine AH.le.kill hw ?_ ?_; · first | omega | (simp only [up_nx, put_nx, kill_nx]; done) | (simp only [up_nx, put_nx, kill_nx]; omega)))) (by first | omega | (simp only [up_nx, put_nx, kill_nx]; done) | (simp only [up_nx, put_nx, kill_nx]; omega)) (hv.up_ (by first | omega | (simp only [up_nx, put_nx, kill_nx]; done) | (simp only [up_nx, put_nx, kill_nx]; omega)) fun j o hj _ ho => ho) hml (p := fun x => holdsC [x.toNat] c) (by kernel_rfl) fun x hx H' hk => c_Ag2 (nI_in may_lt x hx) hco ((hk H.nx (by first | omega | (simp only [up_nx, put_nx, kill_nx]; done) | (simp only [up_nx, put_nx, kill_nx]; omega)) hcn).trans hcb')) ?_
    rintro r H2 ⟨g2, l2, n2, k2⟩
    rw [hf2] at g2
    simp only [up_nx] at n2
    obtain ⟨kb, rb⟩ := k2 (H.nx + 9) (by first | omega | (simp only [up_nx, put_nx, kill_nx]; done) | (simp only [up_nx, put_nx, kill_nx]; omega)) hvn
    obtain ⟨hp1, hp2⟩ := g2.part
    have hb2 : H2.get (H.nx + 9) = some (.box 22 [v]) := kb.trans hvb
    simp (disch := first | omega | simp) [hb2, hp1, hp2]
    have g3 := g2.up_ (H2 := H2.put (H.nx + 9) (.box 22 [r])) (Nat.le_refl _) fun j o hj ⟨n, hjn⟩ ho => by
      rw [put_get_ne _ _ _ (fun e => by subst e; exact rb n hjn)]; exact ho
    obtain ⟨H6, f1, f2, f3, f4, f5⟩ := g3.fzbox (P := Try.prog) hw (by repeat (first | with_reducible assumption | with_reducible exact AH.le.refl _ | with_reducible apply AH.le.up | (with_reducible refine AH.le.put hw ?_ ?_; · first | omega | (simp only [up_nx, put_nx, kill_nx]; done) | (simp only [up_nx, put_nx, kill_nx]; omega)) | (with_reducible refine AH.le.kill hw ?_ ?_; · first | omega | (simp only [up_nx, put_nx, kill_nx]; done) | (simp only [up_nx, put_nx, kill_nx]; omega)))) (by first | omega | (simp only [up_nx, put_nx, kill_nx]; done) | (simp only [up_nx, put_nx, kill_nx]; omega)) (put_get _ _) (by omega)
    refine ⟨H6, f1, ?_⟩
    simp (disch := first | omega | simp) []
    refine c_ag_last hpo' agW_lt f4 ?_
    unfold agR
    rw [hokv]
    simp only [ne_eq, not_true_eq_false, if_false]
    unfold agB
    rw [hso]
    rw [all_not_any]
    cases p.any fun q => !holdsC (agW p c) q
    · simp (disch := first | omega | simp) [bv, f4]
      exact rt_tup hw f2 (by repeat (first | exact Cl.p _ | exact Cl.dsl _ _ | exact Cl.any | refine Cl.tup ?_ | refine Cl.agg ?_ | exact Clo.nil | refine Clo.cons ?_ ?_)) ⟨rfl, rfl⟩
    · simp (disch := first | omega | simp) [bv]
      exact rt_tup hw f2 (by repeat (first | exact Cl.p _ | exact Cl.dsl _ _ | exact Cl.any | refine Cl.tup ?_ | refine Cl.agg ?_ | exact Clo.nil | refine Clo.cons ?_ ?_)) ⟨rfl, rfl⟩
  | false =>
    simp (disch := first | omega | simp) [iv, hcb, hvb, hso]
    have hcn : ∀ n, v ≠ .osl H.nx 1 0 n := hv.not fun xs e => by rw [hcb] at e; cases e
    obtain ⟨H6, f1, f2, f3, f4, f5⟩ := hv.fzbox (P := Try.prog) hw hle (by first | omega | (simp only [up_nx, put_nx, kill_nx]; done) | (simp only [up_nx, put_nx, kill_nx]; omega)) hvb (by omega)
    have hc6 := (f5 H.nx (by omega) hcn).trans hcb'
    refine ⟨H6, f1, ?_⟩
    simp (disch := first | omega | simp) [f4]
    refine ca_pure (by kernel_rfl) (c_ContainsFunc_int (p := fun x => !holdsC [x.toNat] c) (by kernel_rfl) fun x hx => c_Ag3 (nI_in may_lt x hx) hco hc6) ?_
    have hany : ((nI (mayL p)).any fun x => !holdsC [x.toNat] c) = (mayL p).any fun w => holds1 w c := by
      unfold nI
      rw [List.any_map]
      congr 1
      funext w
      simp only [Function.comp, Int.toNat_natCast, holds_one, hso]; simp
    rw [hany]
    have haw : agW p c = mayL p := by unfold agW; rw [if_neg (by rw [hso]; decide)]
    unfold agR
    rw [hokv]
    simp only [ne_eq, not_true_eq_false, if_false]
    unfold agB
    rw [hso, haw, all_not_any]
    obtain ⟨an, han⟩ : ∃ an, an = p.any fun q => !holdsC (mayL p) q := ⟨_, rfl⟩
    rw [← han]
    cases hma : (mayL p).any fun w => holds1 w c with
    | false =>
      simp (disch := first | omega | simp) [bv]
      exact rt_tup hw f2 (by repeat (first | exact Cl.p _ | exact Cl.dsl _ _ | exact Cl.any | refine Cl.tup ?_ | refine Cl.agg ?_ | exact Clo.nil | refine Clo.cons ?_ ?_)) ⟨rfl, rfl⟩
    | true =>
      simp (disch := first | omega | simp) [bv]
      refine ⟨H6, .refl H6, ?_⟩
      simp (disch := first | omega | simp) []
      refine c_ag_last hpo' may_lt f4 ?_
      rw [← han]
      cases an
      · simp (disch := first | omega | simp) [bv, f4]
        exact rt_tup hw f2 (by repeat (first | exact Cl.p _ | exact Cl.dsl _ _ | exact Cl.any | refine Cl.tup ?_ | refine Cl.agg ?_ | exact Clo.nil | refine Clo.cons ?_ ?_)) ⟨rfl, rfl⟩
      · simp (disch := first | omega | simp) [bv]
        exact rt_tup hw f2 (by repeat (first | exact Cl.p _ | exact Cl.dsl _ _ | exact Cl.any | refine Cl.tup ?_ | refine Cl.agg ?_ | exact Clo.nil | refine Clo.cons ?_ ?_)) ⟨rfl, rfl⟩)
end Go.Proofs.Ytcmnjoepadjioaa

/- The reference: what follows. -/
namespace Go.Proofs.Ytcmnjoepadjioaa
open Go.RowKit Go.Maps
theorem c_RHoldsIn_el {H : AH} {a : AV} {xs : List Int} (ha : elF H 1 a = some (intE xs)) (hl : xs.length < 1000000000) (hx : ∀ x ∈ xs, inWd x) {c : Clm} (hc : c.ok) : Tri Try.prog 12 [a, c.av] H (fun v H' => H' = H ∧ v = bv (holdsC (natL xs) c)) := tri_wf fun hw => tri_wordhoardref_HoldsIn (by
  have hlen : (intE xs).length = xs.length := by simp [intE]
  have hle : H.le ((H.up 2).put H.nx (.box 24 c.cs)) := (by repeat (first | with_reducible assumption | with_reducible exact AH.le.refl _ | with_reducible apply AH.le.up | (with_reducible refine AH.le.put hw ?_ ?_; · first | omega | (simp only [up_nx, put_nx, kill_nx]; done) | (simp only [up_nx, put_nx, kill_nx]; omega)) | (with_reducible refine AH.le.kill hw ?_ ?_; · first | omega | (simp only [up_nx, put_nx, kill_nx]; done) | (simp only [up_nx, put_nx, kill_nx]; omega))))
  unfold Clm.cs at hle
  unfold S_wordhoardref_HoldsIn Clm.av
  simp
  refine loop_st (fun i : Nat => [iv i]) (fun i H' => H' = (H.up 2).put H.nx (.box 24 c.cs) ∧ i ≤ xs.length ∧ ∀ y ∈ xs.take i, holds1 y.toNat c = false) (fun i => xs.length - i) 0 (.refl (Nat.le_refl _)) ⟨rfl, Nat.zero_le _, by simp⟩ ?_
  rintro i _ _ ⟨rfl, hi, hno⟩ k hk
  by_cases hi2 : i < xs.length
  · have hg := List.getElem?_eq_getElem hi2
    obtain ⟨n, hn⟩ := Int.eq_ofNat_of_zero_le (hx _ (List.getElem_mem hi2)).1
    have hn2 : n < 64 := by have := (hx _ (List.getElem_mem hi2)).2; omega
    have hnat : (xs[i]).toNat = n := by rw [hn]; rfl
    have hany : holds1 n c = true → holdsC (natL xs) c = c.so := fun h => by
      unfold holdsC natL
      rw [List.any_map, show xs.any ((fun w => holds1 w c) ∘ Int.toNat) = true from List.any_eq_true.2 ⟨_, List.getElem_mem hi2, by simp [hnat, h]⟩]
      cases c.so <;> rfl
    obtain ⟨q, q1, q2, q3⟩ := elF_acc (by decide) (elF_le ha hle) (i := i) (e := [iv n]) (by rw [← hn]; simp [intE, hg])
    simp (disch := first | omega | simp) [iv, elF_len ha, hlen, hi2, Clm.cs, q1, q3]
    refine cav_pure (by kernel_rfl) (fun H2 _ => c_RIs n (by omega) c.a hc.1 H2) ?_
    cases h1 : isL n c.a
    · simp [bv]
      rw [ivn (by omega)]
      exact hk (i + 1) _ _ _ (.refl (Nat.le_refl _)) ⟨rfl, hi2, any_take hno hg (by rw [hnat]; simp [holds1, h1])⟩ (by omega)
    · simp (disch := first | omega | simp) [bv, iv, hi2, Clm.cs, q1, q3]
      refine cav_pure (by kernel_rfl) (fun H2 _ => c_RIs n (by omega) c.b hc.2 H2) ?_
      simp [bv, Clm.cs]
      refine ⟨fun h2 => ?_, fun h2 => ?_⟩
      · refine rt_one hw (by repeat (first | with_reducible assumption | with_reducible exact AH.le.refl _ | with_reducible apply AH.le.up | (with_reducible refine AH.le.put hw ?_ ?_; · first | omega | (simp only [up_nx, put_nx, kill_nx]; done) | (simp only [up_nx, put_nx, kill_nx]; omega)) | (with_reducible refine AH.le.kill hw ?_ ?_; · first | omega | (simp only [up_nx, put_nx, kill_nx]; done) | (simp only [up_nx, put_nx, kill_nx]; omega)))) (by repeat (first | exact Cl.p _ | exact Cl.dsl _ _ | exact Cl.any | refine Cl.tup ?_ | refine Cl.agg ?_ | exact Clo.nil | refine Clo.cons ?_ ?_)) ⟨rfl, ?_⟩
        rw [hany (by simp [holds1, h1, h2])]
      · rw [ivn (by omega)]
        exact hk (i + 1) _ _ _ (.refl (Nat.le_refl _)) ⟨rfl, hi2, any_take hno hg (by rw [hnat]; simp [holds1, h1, h2])⟩ (by omega)
  · simp [iv, elF_len ha, hlen, hi2, Clm.cs]
    refine rt_one hw (by repeat (first | with_reducible assumption | with_reducible exact AH.le.refl _ | with_reducible apply AH.le.up | (with_reducible refine AH.le.put hw ?_ ?_; · first | omega | (simp only [up_nx, put_nx, kill_nx]; done) | (simp only [up_nx, put_nx, kill_nx]; omega)) | (with_reducible refine AH.le.kill hw ?_ ?_; · first | omega | (simp only [up_nx, put_nx, kill_nx]; done) | (simp only [up_nx, put_nx, kill_nx]; omega)))) (by repeat (first | exact Cl.p _ | exact Cl.dsl _ _ | exact Cl.any | refine Cl.tup ?_ | refine Cl.agg ?_ | exact Clo.nil | refine Clo.cons ?_ ?_)) ⟨rfl, ?_⟩
    rw [List.take_of_length_le (by omega)] at hno
    unfold holdsC natL
    rw [List.any_map, show xs.any ((fun w => holds1 w c) ∘ Int.toNat) = false from List.any_eq_false.2 fun y hy => by simp [hno y hy]]
    cases c.so <;> rfl)
def nobody (L : List Nat) (q : Clm) : Bool := !L.any fun w => holds1 w q
def sureB (L : List Nat) (c q : Clm) : Bool := L.all fun w => !holds1 w q || holdsC [w] c
theorem may_all {p : List Clm} {q : Clm} (hq : q ∈ p) (hs : q.so = false) {L : List Nat} (hL : ∀ w ∈ L, w ∈ mayL p) : holdsC L q = true :=
  (holds_all hs).2 fun w hw ha => (mem_may.1 (hL w hw)).2 q hq hs ha
theorem fol_nobody {p : List Clm} {c q : Clm} (hq : q ∈ p) (hs : q.so = true) (hn : nobody (mayL p) q = true) : agB p c = false := by
  cases h : agB p c with
  | false => rfl
  | true =>
    obtain ⟨w, hw, h1, h2⟩ := (agB_iff.1 h).2 q hq hs
    unfold nobody at hn
    rw [Bool.not_eq_true', List.any_eq_false] at hn
    exact absurd (by simp [holds1, h1, h2, hs]) (hn w (agW_may hw))
theorem fol_some {p : List Clm} {c : Clm} (hs : c.so = true) : (p.any fun q => q.so && sureB (mayL p) c q) = !agB p c := by
  unfold agB
  rw [hs, Bool.true_or, Bool.true_and, all_not_any, Bool.not_not, Bool.eq_iff_iff, List.any_eq_true, List.any_eq_true]
  have key : ∀ q ∈ p, (q.so && sureB (mayL p) c q) = !holdsC (agW p c) q := fun q hq => by
    cases hqs : q.so with
    | false => rw [may_all hq hqs fun w hw => agW_may hw]; rfl
    | true =>
      rw [Bool.true_and, Bool.eq_iff_iff, Bool.not_eq_true']
      have hag : agW p c = (mayL p).filter (fun w => !holds1 w c) := by unfold agW; rw [if_pos hs]
      have hh : holdsC (agW p c) q = (agW p c).any fun w => holds1 w q := by unfold holdsC; rw [hqs]; simp
      rw [hh, hag, List.any_eq_false, sureB, List.all_eq_true]
      constructor
      · intro h w hw
        obtain ⟨h1, h2⟩ := List.mem_filter.1 hw
        have := h w h1
        rw [holds_one, hs] at this
        simp at h2
        simp [h2] at this
        simp [this]
      · intro h w hw
        rw [holds_one, hs]
        cases hc : holds1 w c with
        | true => simp
        | false => have := h w (List.mem_filter.2 ⟨hw, by simp [hc]⟩); simp at this; simp [this]
  constructor
  · rintro ⟨q, hq, h⟩; exact ⟨q, hq, by rw [← key q hq]; exact h⟩
  · rintro ⟨q, hq, h⟩; exact ⟨q, hq, by rw [key q hq]; exact h⟩
theorem fol_all {p : List Clm} {c : Clm} (hs : c.so = false) (hn : ∀ q ∈ p, q.so = true → nobody (mayL p) q = false) : holdsC (mayL p) c = !agB p c := by
  have haw : agW p c = mayL p := by unfold agW; rw [if_neg (by rw [hs]; decide)]
  have hall : (p.all fun q => holdsC (mayL p) q) = true := List.all_eq_true.2 fun q hq => by
    cases hqs : q.so with
    | false => exact may_all hq hqs fun w hw => hw
    | true =>
      have := hn q hq hqs
      unfold nobody at this
      simp only [Bool.not_eq_false'] at this
      unfold holdsC; rw [this, hqs]; rfl
  unfold agB
  rw [haw, hall, hs]
  unfold holdsC
  rw [hs]; simp
theorem all_next {α : Type} {l : List α} {f : α → Bool} {i : Nat} {x : α} (h : l[i]? = some x) : (l.take (i + 1)).all f = ((l.take i).all f && f x) := by rw [List.take_add_one, h, List.all_append]; simp
theorem any_next {α : Type} {l : List α} {f : α → Bool} {i : Nat} {x : α} (h : l[i]? = some x) : (l.take (i + 1)).any f = ((l.take i).any f || f x) := by rw [List.take_add_one, h, List.any_append]; simp
theorem nI_at {L : List Nat} {k w : Nat} (h : L[k]? = some w) : (intE (nI L))[k]? = some [iv w] := by simp [intE, nI, h]
set_option maxHeartbeats 1000000 in
theorem c_RFollows (p : List Clm) (c : Clm) (hp : p.length ≤ 20) (hpo : ∀ q ∈ p, q.ok) (hco : c.ok) (H : AH) : Tri Try.prog 18 [cE p, c.av] H (fun r H' => H' = H ∧ r = bv (!agB p c)) := tri_wf fun hw => tri_wordhoardref_Follows (by
  unfold S_wordhoardref_Follows
  have hmx : maxLen = 9223372036854775807 := by decide
  simp (disch := first | omega | simp) [cE, Clm.av, Clm.cs, put_get_ne]
  refine loop_st (fun s : AV × Nat => [s.1, iv s.2]) (fun s H' => s.2 ≤ 64 ∧ H.le H' ∧ H.nx + 2 ≤ H'.nx ∧ H'.get H.nx = some (.box 24 c.cs) ∧ Grows 3 1 H H' s.1 (intE (nI ((List.range s.2).filter (mayB p))))) (fun s => 64 - s.2) (.p (.slice none 0 0), 0) (.refl (Nat.le_refl _)) ⟨Nat.zero_le _, (by repeat (first | with_reducible assumption | with_reducible exact AH.le.refl _ | with_reducible apply AH.le.up | (with_reducible refine AH.le.put hw ?_ ?_; · first | omega | (simp only [up_nx, put_nx, kill_nx]; done) | (simp only [up_nx, put_nx, kill_nx]; omega)) | (with_reducible refine AH.le.kill hw ?_ ?_; · first | omega | (simp only [up_nx, put_nx, kill_nx]; done) | (simp only [up_nx, put_nx, kill_nx]; omega)))), (by first | omega | (simp only [up_nx, put_nx, kill_nx]; done) | (simp only [up_nx, put_nx, kill_nx]; omega)), by rw [put_get]; rfl, (show Grows 3 1 H _ _ [] from .nil _ _ _ _)⟩ ?_
  rintro ⟨v, w⟩ H1 hn1 ⟨hwl, hle, hn, hcb, hv⟩ k hk
  dsimp only at hwl hv hk
  by_cases hw64 : w < 64
  · have hwi : (w : Int) < 64 := by omega
    have hwv := ivn (i := w) (by omega)
    have hrs : (List.range (w + 1)).filter (mayB p) = (List.range w).filter (mayB p) ++ if mayB p w then [w] else [] := by
      rw [List.range_succ, List.filter_append]; congr 1; simp [List.filter_cons]
    simp (disch := first | omega | simp) [iv, hwi]
    refine loop_st (fun s : Bool × Nat => [bv s.1, iv s.2]) (fun s H' => s.2 ≤ p.length ∧ Kp H1 H' ∧ s.1 = (p.take s.2).all fun q => q.so || holdsC [w] q) (fun s => p.length - s.2) (true, 0) (.refl (Nat.le_refl _)) ⟨Nat.zero_le _, .refl _, by simp⟩ ?_
    rintro ⟨b, i⟩ H2 hn2 ⟨hi, hkp, hb⟩ k2 hk2
    dsimp only at hi hb hk2
    by_cases hil : i < p.length
    · obtain ⟨q, hq⟩ : ∃ q, p[i]? = some q := ⟨_, List.getElem?_eq_getElem hil⟩
      have hqo := hpo q (List.mem_of_getElem? hq)
      have hpg : ∀ h, p[i]'h = q := fun h => (List.getElem?_eq_some_iff.1 hq).2
      have hiv := ivn (i := i) (by omega)
      have hnx := all_next (f := fun q => q.so || holdsC [w] q) hq
      rw [← hb] at hnx
      cases b with
      | false =>
        simp (disch := first | omega | simp) [iv, bv, hil, hiv]
        exact hk2 (false, i + 1) _ _ _ (.refl (by first | omega | (simp only [up_nx, put_nx, kill_nx]; done) | (simp only [up_nx, put_nx, kill_nx]; omega))) ⟨hil, (by repeat (first | with_reducible assumption | with_reducible exact Kp.refl _ | with_reducible apply Kp.up | (with_reducible refine Kp.put ?_ ?_; · first | omega | (simp only [up_nx, put_nx, kill_nx]; done) | (simp only [up_nx, put_nx, kill_nx]; omega)) | (with_reducible refine Kp.kill ?_ ?_; · first | omega | (simp only [up_nx, put_nx, kill_nx]; done) | (simp only [up_nx, put_nx, kill_nx]; omega)))), by dsimp only; rw [hnx]; rfl⟩ (by dsimp only; omega)
      | true =>
        cases hqs : q.so with
        | true =>
          simp (disch := first | omega | simp) [iv, bv, hil, hiv, hpg, Clm.cs, hqs]
          exact hk2 (true, i + 1) _ _ _ (.refl (by first | omega | (simp only [up_nx, put_nx, kill_nx]; done) | (simp only [up_nx, put_nx, kill_nx]; omega))) ⟨hil, (by repeat (first | with_reducible assumption | with_reducible exact Kp.refl _ | with_reducible apply Kp.up | (with_reducible refine Kp.put ?_ ?_; · first | omega | (simp only [up_nx, put_nx, kill_nx]; done) | (simp only [up_nx, put_nx, kill_nx]; omega)) | (with_reducible refine Kp.kill ?_ ?_; · first | omega | (simp only [up_nx, put_nx, kill_nx]; done) | (simp only [up_nx, put_nx, kill_nx]; omega)))), by dsimp only; rw [hnx, hqs]; rfl⟩ (by dsimp only; omega)
        | false =>
          have hqv : q.av = .agg [.p (.bool false), .p (.int .i64 q.a), .p (.int .i64 q.b)] := by unfold Clm.av Clm.cs; rw [hqs]
          have hc1 : ∀ H' a, elF H' 1 a = some (intE [(w : Int)]) → Tri Try.prog 12 [a, .agg [.p (.bool false), .p (.int .i64 q.a), .p (.int .i64 q.b)]] H' (fun v H'' => H'' = H' ∧ v = bv (holdsC [w] q)) := fun H' a ha => by
            rw [← hqv]
            exact c_RHoldsIn_el ha (by simp) (by intro x hx; simp at hx; subst hx; unfold inWd; omega) hqo
          simp (disch := first | omega | simp) [iv, bv, hil, hiv, hpg, Clm.cs, hqs]
          refine ca_pure (by kernel_rfl) (hc1 _ _ (by simp [intE, iv])) ?_
          simp (disch := first | omega | simp) [iv, bv, hil, hiv]
          exact hk2 (holdsC [w] q, i + 1) _ _ _ (.refl (by first | omega | (simp only [up_nx, put_nx, kill_nx]; done) | (simp only [up_nx, put_nx, kill_nx]; omega))) ⟨hil, (by repeat (first | with_reducible assumption | with_reducible exact Kp.refl _ | with_reducible apply Kp.up | (with_reducible refine Kp.put ?_ ?_; · first | omega | (simp only [up_nx, put_nx, kill_nx]; done) | (simp only [up_nx, put_nx, kill_nx]; omega)) | (with_reducible refine Kp.kill ?_ ?_; · first | omega | (simp only [up_nx, put_nx, kill_nx]; done) | (simp only [up_nx, put_nx, kill_nx]; omega)))), by dsimp only; rw [hnx, hqs]; rfl⟩ (by dsimp only; omega)
    · have hie : i = p.length := by omega
      subst hie
      rw [List.take_length] at hb
      have hmb : b = mayB p w := hb
      subst hmb
      have hv2 := hv.kp hkp
      have hle2 := hkp.le_of hle hw (by omega)
      have hn2' := hkp.1
      have hcb2 := hkp.get_ (by omega) hcb
      cases hm : mayB p w with
      | false =>
        simp (disch := first | omega | simp) [iv, bv, hwv]
        refine hk (v, w + 1) _ _ _ (.refl (by omega)) ⟨hw64, hle2, by omega, hcb2, ?_⟩ (by dsimp only; omega)
        dsimp only; rw [hrs, hm]; simpa using hv2
      | true =>
        have hlen : (intE (nI ((List.range w).filter (mayB p)))).length ≤ 64 := by
          simp only [intE, nI, List.length_map]
          have := List.length_filter_le (mayB p) (List.range w)
          rw [List.length_range] at this; omega
        have hcn : ∀ n, v ≠ .osl H.nx 1 0 n := hv2.not fun xs e => by rw [hcb2] at e; cases e
        simp (disch := first | omega | simp) [iv, bv, hwv]
        refine Grows.app (t := 3) hw (hv2.kp (by repeat (first | with_reducible assumption | with_reducible exact Kp.refl _ | with_reducible apply Kp.up | (with_reducible refine Kp.put ?_ ?_; · first | omega | (simp only [up_nx, put_nx, kill_nx]; done) | (simp only [up_nx, put_nx, kill_nx]; omega)) | (with_reducible refine Kp.kill ?_ ?_; · first | omega | (simp only [up_nx, put_nx, kill_nx]; done) | (simp only [up_nx, put_nx, kill_nx]; omega))))) (by repeat (first | with_reducible assumption | with_reducible exact AH.le.refl _ | with_reducible apply AH.le.up | (with_reducible refine AH.le.put hw ?_ ?_; · first | omega | (simp only [up_nx, put_nx, kill_nx]; done) | (simp only [up_nx, put_nx, kill_nx]; omega)) | (with_reducible refine AH.le.kill hw ?_ ?_; · first | omega | (simp only [up_nx, put_nx, kill_nx]; done) | (simp only [up_nx, put_nx, kill_nx]; omega)))) (by first | omega | (simp only [up_nx, put_nx, kill_nx]; done) | (simp only [up_nx, put_nx, kill_nx]; omega)) (by first | omega | (simp only [up_nx, put_nx, kill_nx]; done) | (simp only [up_nx, put_nx, kill_nx]; omega)) (ys := [[iv w]]) ?_ (dt_ints [(w : Int)]) ?_ ?_ fun v' H3 g2 l2 n3 k3 hfr => ?_
        · simp [iv]
        · simp; omega
        · simp; omega
        rw [q_add_i, hwv]
        have n3' : H3.nx = H2.nx + 5 := by rw [n3]; simp only [up_nx, put_nx]
        refine hk (v', w + 1) _ _ _ (.refl (by omega)) ⟨hw64, l2, by omega, ?_, ?_⟩ (by dsimp only; omega)
        · rw [k3 _ (by omega) hcn]; simp (disch := first | omega | simp) [put_get_ne]; exact hcb2
        · dsimp only; rw [hrs, hm]; simpa [nI, intE, iv] using g2
  have hw6 : w = 64 := by omega
  subst hw6
  have hmay : (List.range 64).filter (mayB p) = mayL p := rfl
  rw [hmay] at hv
  have hml : (mayL p).length ≤ 64 := by
    have := List.length_filter_le (mayB p) (List.range 64)
    rw [List.length_range] at this
    simp only [mayL]; omega
  obtain ⟨L, hL⟩ : ∃ L, L = mayL p := ⟨_, rfl⟩
  have hLlt : ∀ w ∈ L, w < 64 := by rw [hL]; exact may_lt
  rw [← hL] at hv hml
  have hll : (intE (nI L)).length = L.length := by simp [intE, nI]
  have hlenv : ∀ (k : AV → AH → Prop) (H' : AH), Pu Try.prog .len [v] k H' = k (.p (.int .i64 (L.length : Int))) H' := fun k H' => by rw [hv.len, hll]
  have hcb' := hcb
  unfold Clm.cs at hcb
  simp (disch := first | omega | simp) [iv]
  refine ⟨H1, .refl H1, ?_⟩
  refine loop_st (fun s : Bool × Nat => [bv s.1, iv s.2]) (fun s H' => H' = H1 ∧ s.2 ≤ p.length ∧ (s.1 = (p.take s.2).any fun q => q.so && sureB L c q) ∧ ∀ q ∈ p.take s.2, q.so = true → nobody L q = false) (fun s => p.length - s.2) (false, 0) (.refl (Nat.le_refl _)) ⟨rfl, Nat.zero_le _, by simp, by simp⟩ ?_
  rintro ⟨lead, i⟩ H2 hn2 ⟨rfl, hi, hld, hno⟩ k2 hk2
  dsimp only at hi hld hno hk2
  by_cases hil : i < p.length
  · obtain ⟨q, hq⟩ : ∃ q, p[i]? = some q := ⟨_, List.getElem?_eq_getElem hil⟩
    have hqm := List.mem_of_getElem? hq
    have hqo := hpo q hqm
    have hpg : ∀ h, p[i]'h = q := fun h => (List.getElem?_eq_some_iff.1 hq).2
    have hiv := ivn (i := i) (by omega)
    have hnx := any_next (f := fun q => q.so && sureB L c q) hq
    rw [← hld] at hnx
    cases hqs : q.so with
    | false =>
      simp (disch := first | omega | simp) [iv, bv, hil, hiv, hpg, Clm.cs, hqs]
      refine hk2 (lead, i + 1) _ _ _ (.refl hn2) ⟨rfl, hil, by dsimp only; rw [hnx, hqs]; simp, fun y hy hys => ?_⟩ (by dsimp only; omega)
      dsimp only at hy
      rw [List.take_add_one, hq] at hy
      rcases List.mem_append.1 hy with hy | hy
      · exact hno y hy hys
      · simp at hy; subst hy; rw [hqs] at hys; cases hys
    | true =>
      have hqv : q.av = .agg [.p (.bool true), .p (.int .i64 q.a), .p (.int .i64 q.b)] := by unfold Clm.av Clm.cs; rw [hqs]
      simp (disch := first | omega | simp) [iv, bv, hil, hiv, hpg, Clm.cs, hqs]
      refine loop_st (fun s : (Bool × Bool) × Nat => [bv s.1.1, bv s.1.2, iv s.2]) (fun s H' => H' = H2 ∧ s.2 ≤ L.length ∧ s.1.1 = nobody (L.take s.2) q ∧ s.1.2 = sureB (L.take s.2) c q) (fun s => L.length - s.2) ((true, true), 0) (.refl (Nat.le_refl _)) ⟨rfl, Nat.zero_le _, by simp [nobody], by simp [sureB]⟩ ?_
      rintro ⟨⟨nb, sr⟩, j⟩ H3 hn3 ⟨rfl, hj, hnb, hsr⟩ k3 hk3
      dsimp only at hj hnb hsr hk3
      by_cases hjl : j < L.length
      · obtain ⟨w, hwj⟩ : ∃ w, L[j]? = some w := ⟨_, List.getElem?_eq_getElem hjl⟩
        have hw64 := hLlt w (List.mem_of_getElem? hwj)
        have hjv := ivn (i := j) (by omega)
        have hjL : (j : Int) + 1 ≤ (L.length : Int) := by omega
        have hjt : ((j : Int) + 1).toNat - j = 1 := by omega
        have hn1' := any_next (f := fun w => holds1 w q) hwj
        have hs1 := all_next (f := fun w => !holds1 w q || holdsC [w] c) hwj
        have hnb1 : nobody (L.take (j + 1)) q = (nobody (L.take j) q && !holds1 w q) := by unfold nobody; rw [hn1', Bool.not_or]
        have hsr1 : sureB (L.take (j + 1)) c q = (sureB (L.take j) c q && (!holds1 w q || holdsC [w] c)) := by unfold sureB; exact hs1
        have hnat : natL [(w : Int)] = [w] := by simp [natL]
        have hin : ∀ x ∈ [(w : Int)], inWd x := by intro x hx; simp at hx; subst hx; unfold inWd; omega
        rcases hv with ⟨_, h⟩ | ⟨r, xs, rfl, h2, h3, h4, h5, h6⟩
        · rw [h] at hll; simp at hll; omega
        have hxl : L.length ≤ xs.length := by have := congrArg List.length h5; rw [List.length_take, hll] at this; omega
        have hxj : xs[j]? = some [iv w] := by
          have := nI_at hwj
          rw [← h5, List.getElem?_take, if_pos (by omega)] at this
          exact this
        have he : elF H3 1 (.osl r 1 j 1) = some (intE [(w : Int)]) := by
          rw [elF_osl, h4, elRow_row _ _ _ _ _ (by omega)]
          congr 1
          have hjx : j < xs.length := by omega
          rw [List.drop_eq_getElem_cons hjx, (List.getElem?_eq_some_iff.1 hxj).2]
          simp [intE]
        rw [hll] at hlenv
        have hq1 : ∀ H2', H3.le H2' → Tri Try.prog 12 [.osl r 1 j 1, .agg [.p (.bool true), .p (.int .i64 q.a), .p (.int .i64 q.b)]] H2' (fun v H' => H' = H2' ∧ v = bv (holds1 w q)) := fun H2' hle' => by
          have := c_RHoldsIn_el (elF_le he hle') (by simp) hin hqo
          rw [hqv, hnat, holds_one, hqs] at this
          simpa using this
        have hc1 : ∀ H2', H3.le H2' → Tri Try.prog 12 [.osl r 1 j 1, .agg [.p (.bool c.so), .p (.int .i64 c.a), .p (.int .i64 c.b)]] H2' (fun v H' => H' = H2' ∧ v = bv (holdsC [w] c)) := fun H2' hle' => by
          have := c_RHoldsIn_el (elF_le he hle') (by simp) hin hco
          rw [hnat] at this
          exact this
        simp (disch := first | omega | simp) [iv, bv, hll, hlenv, hjl, hjv, hjL, hjt, hil, hpg, Clm.cs, hqs]
        refine ⟨by omega, cav_pure (by kernel_rfl) hq1 ?_⟩
        cases hh : holds1 w q with
        | false =>
          simp (disch := first | omega | simp) [iv, bv, hjv]
          refine hk3 ((nb, sr), j + 1) _ _ _ (.refl hn3) ⟨rfl, hjl, by dsimp only; rw [hnb1, hh, hnb]; simp, by dsimp only; rw [hsr1, hh, hsr]; simp⟩ (by dsimp only; omega)
        | true =>
          cases sr with
          | false =>
            simp (disch := first | omega | simp) [iv, bv, hjv]
            refine hk3 ((false, false), j + 1) _ _ _ (.refl hn3) ⟨rfl, hjl, by dsimp only; rw [hnb1, hh]; simp, by dsimp only; rw [hsr1, ← hsr]; rfl⟩ (by dsimp only; omega)
          | true =>
            simp (disch := first | omega | simp) [iv, bv, hll, hjv, hjL, hjt, hcb, Clm.cs]
            refine ⟨by omega, cav_pure (by kernel_rfl) hc1 ?_⟩
            simp (disch := first | omega | simp) [iv, bv, hjv]
            refine hk3 ((false, holdsC [w] c), j + 1) _ _ _ (.refl hn3) ⟨rfl, hjl, by dsimp only; rw [hnb1, hh]; simp, by dsimp only; rw [hsr1, ← hsr, hh]; rfl⟩ (by dsimp only; omega)
      · have hje : j = L.length := by omega
        subst hje
        rw [List.take_length] at hnb hsr
        simp (disch := first | omega | simp) [iv, bv, hlenv, hiv]
        refine ⟨fun h => rt_one hw hle (by repeat (first | exact Cl.p _ | exact Cl.dsl _ _ | exact Cl.any | refine Cl.tup ?_ | refine Cl.agg ?_ | exact Clo.nil | refine Clo.cons ?_ ?_)) ⟨rfl, ?_⟩, fun h => ?_⟩
        · rw [fol_nobody hqm hqs (c := c) (by rw [← hL, ← hnb]; exact h)]; rfl
        · have fin : k2 [bv (lead || sr), iv ((i + 1 : Nat) : Int)] H3 := hk2 (lead || sr, i + 1) _ _ _ (.refl hn2) ⟨rfl, hil, by dsimp only; rw [hnx, hqs, hsr]; rfl, fun y hy hys => by
              dsimp only at hy
              rw [List.take_add_one, hq] at hy
              rcases List.mem_append.1 hy with hy | hy
              · exact hno y hy hys
              · simp at hy; subst hy; rw [← hnb]; exact h⟩ (by dsimp only; omega)
          cases lead <;> simpa [bv, iv] using fin
  · have hie : i = p.length := by omega
    subst hie
    rw [List.take_length] at hld hno
    cases hso : c.so with
    | true =>
      simp (disch := first | omega | simp) [iv, bv, hcb, hso]
      refine rt_one hw hle (by repeat (first | exact Cl.p _ | exact Cl.dsl _ _ | exact Cl.any | refine Cl.tup ?_ | refine Cl.agg ?_ | exact Clo.nil | refine Clo.cons ?_ ?_)) ⟨rfl, ?_⟩
      rw [hld, hL, fol_some hso]
    | false =>
      simp (disch := first | omega | simp) [iv, bv, hcb, hso]
      have hcv : c.av = .agg [.p (.bool false), .p (.int .i64 c.a), .p (.int .i64 c.b)] := by unfold Clm.av Clm.cs; rw [hso]
      have := c_RHoldsIn_el hv.el (by simp [nI]; omega) (nI_in hLlt) hco
      rw [hcv, natL_nI] at this
      refine ca_pure (by kernel_rfl) this ?_
      refine rt_one hw hle (by repeat (first | exact Cl.p _ | exact Cl.dsl _ _ | exact Cl.any | refine Cl.tup ?_ | refine Cl.agg ?_ | exact Clo.nil | refine Clo.cons ?_ ?_)) ⟨rfl, ?_⟩
      rw [hL, fol_all hso (by rw [← hL]; exact hno)]; rfl)
end Go.Proofs.Ytcmnjoepadjioaa
