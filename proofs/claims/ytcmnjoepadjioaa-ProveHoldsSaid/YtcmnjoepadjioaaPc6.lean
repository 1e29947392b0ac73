/- What comes of two lines; the clash. -/
import Derived.Test.YtcmnjoepadjioaaPc5
namespace Go.Proofs.Ytcmnjoepadjioaa
open Go.RowKit Go.Maps
def twoL (l : List Lin) (c d : Clm) (i k : Int) : List Lin :=
  if d.so then l else if c.b = d.a then putL l ⟨if c.so then 9 else 3, ⟨c.so, c.a, d.b⟩, [i, k]⟩ else l
theorem c_two {H : AH} {a m : Nat} {v : AV} {l : List Lin} (h : ArgH H a m v l) {i k : Nat} {x y : Lin} (hx : l[i]? = some x) (hy : l[k]? = some y) (hok : x.c.ok) (hok2 : y.c.ok) (hb : l.length < 900000) :
    Tri Try.prog 28 [.ptr a 0, iv i, iv k] H (fun r H' => r = .tup [] ∧ ∃ v', ArgH H' a m v' (twoL l x.c y.c i k) ∧ Fr a m H v H' v') := tri_wf fun hw => tri_arguer_two (by
  have hil := (List.getElem?_eq_some_iff.1 hx).1
  have hkl := (List.getElem?_eq_some_iff.1 hy).1
  obtain ⟨f, hm, hf⟩ := h.map
  have ha := h.la
  have hml := h.lm
  have hbx := h.box
  obtain ⟨r, xs, rfl, hr, hrow, hat⟩ := h.row.at_ (by rw [List.length_map]; omega)
  have hxi : xs[i]? = some x.cs := by rw [hat i (by rw [List.length_map]; omega), List.getElem?_map, hx]; rfl
  have hyi : xs[k]? = some y.cs := by rw [hat k (by rw [List.length_map]; omega), List.getElem?_map, hy]; rfl
  have hn1 := wf_none hw (i := H.nx + 16) (by omega)
  have hn2 := wf_none hw (i := H.nx + 17) (by omega)
  unfold S_arguer_two
  rw [List.length_map] at h
  cases hyso : y.c.so <;> cases hxso : x.c.so <;> cases heq : decide (x.c.b = y.c.a) <;> simp (disch := first | omega | simp) [iv, put_get_ne, hbx, hrow, hxi, hyi, hil, hkl, Lin.cs, hn1, hn2, hyso, hxso, heq]
  all_goals simp only [decide_eq_true_eq, decide_eq_false_iff_not] at heq
  all_goals first
    | (refine rt_refl ⟨rfl, _, ?_, .of (by first | omega | (simp only [up_nx, put_nx, kill_nx]; done) | (simp only [up_nx, put_nx, kill_nx]; omega)) fun j hj => by simp (disch := first | omega | simp) [put_get_ne]⟩ (by first | omega | (simp only [up_nx, put_nx, kill_nx]; done) | (simp only [up_nx, put_nx, kill_nx]; omega))
       rw [show twoL l x.c y.c i k = l by unfold twoL; simp [hyso, heq]]
       exact h.keep (by first | omega | (simp only [up_nx, put_nx, kill_nx]; done) | (simp only [up_nx, put_nx, kill_nx]; omega)) fun j hj => by simp (disch := first | omega | simp) [put_get_ne])
    | (refine ca_put (h.keep (by first | omega | (simp only [up_nx, put_nx, kill_nx]; done) | (simp only [up_nx, put_nx, kill_nx]; omega)) fun j hj => by simp (disch := first | omega | simp) [put_get_ne]) _ [(i : Int), (k : Int)] ⟨_, x.c.a, y.c.b⟩ ⟨hok.1, hok2.2⟩ (by omega) (put_get _ _) rfl fun v1 H1 h1 n1 k1 => ?_
       have n1' : H.nx ≤ H1.nx := by simp only [up_nx, put_nx] at n1; omega
       refine rt_refl ⟨rfl, v1, ?_, n1', fun j hj q1 q2 q3 => ?_⟩ n1'
       · rw [show twoL l x.c y.c i k = putL l ⟨if x.c.so then 9 else 3, ⟨x.c.so, x.c.a, y.c.b⟩, [(i : Int), (k : Int)]⟩ by unfold twoL; simp [hyso, heq], hxso]
         exact h1
       · obtain ⟨e1, e2⟩ := k1 j (by first | omega | (simp only [up_nx, put_nx, kill_nx]; done) | (simp only [up_nx, put_nx, kill_nx]; omega)) (by omega) q1 q2 q3
         exact ⟨by rw [e1]; simp (disch := first | omega | simp) [put_get_ne], e2⟩))
def opp (c : Clm) : Clm := ⟨true, c.a, -c.b⟩
theorem c_clash {H : AH} {a m : Nat} {v : AV} {l : List Lin} (h : ArgH H a m v l) (hok : ∀ x ∈ l, x.c.ok) (hb : l.length < 900000) :
    Tri Try.prog 30 [.ptr a 0] H (fun r H' => H' = H ∧ ((∃ (i k : Nat) (x : Lin), l[i]? = some x ∧ x.c.so = false ∧ idxC l (opp x.c) = some k ∧ r = .tup [iv i, iv k, bv true]) ∨ (∀ x ∈ l, x.c.so = false → idxC l (opp x.c) = none) ∧ r = .tup [iv 0, iv 0, bv false])) := tri_wf fun hw => tri_arguer_clash (by
  obtain ⟨f, hm, hf⟩ := h.map
  have ha := h.la
  have hml := h.lm
  have hbx := h.box
  unfold S_arguer_clash
  simp (disch := first | omega | simp) [iv, put_get_ne, hbx, h.row.len]
  refine loop_st (fun i : Nat => [iv i]) (fun i H' => H.le H' ∧ H.nx ≤ H'.nx ∧ i ≤ l.length ∧ ∀ y ∈ l.take i, (!y.c.so && (idxC l (opp y.c)).isSome) = false) (fun i => l.length - i) 0 (.refl (Nat.le_refl _)) ⟨.refl _, Nat.le_refl _, Nat.zero_le _, by simp⟩ ?_
  rintro i H1 hn1 ⟨hle, hn, hi, hno⟩ k hk
  by_cases hi2 : i < l.length
  · obtain ⟨x, hg⟩ : ∃ x, l[i]? = some x := ⟨_, List.getElem?_eq_getElem hi2⟩
    have hokx := hok _ (List.mem_of_getElem? hg)
    obtain ⟨r, xs, rfl, hr, hrow, hat⟩ := h.row.at_ (by rw [List.length_map]; omega)
    have hxi : xs[i]? = some x.cs := by rw [hat i (by rw [List.length_map]; omega), List.getElem?_map, hg]; rfl
    have hr1 := hle _ _ hrow
    have hb1 := hle _ _ hbx
    have hm1 := hle _ _ hm
    have hneg : IntKind.i64.wrap (-x.c.b) = -x.c.b := by have := hokx.2; unfold litOk at this; rw [IntKind.wrap_i64]; omega
    have hok2 : (opp x.c).ok := ⟨hokx.1, lit_neg hokx.2⟩
    have hfits : (keyOf Try.prog 24 (cv (opp x.c))).isSome = true := keyClm hok2
    have hfc := hf (opp x.c)
    have hiv := ivn (i := i) (by omega)
    have next : (!x.c.so && (idxC l (opp x.c)).isSome) = false → ∀ H', H.le H' → H1.nx ≤ H'.nx → k [iv ((i + 1 : Nat) : Int)] H' := fun hq H' h1 h2 => hk (i + 1) _ _ _ (.refl (by omega)) ⟨h1, by omega, hi2, any_take hno hg hq⟩ (by omega)
    unfold cv opp at hfits hfc
    cases hso : x.c.so <;> cases hq : idxC l (opp x.c) <;> (have hq' := hq; unfold opp at hq'; rw [hq'] at hfc; simp (disch := first | omega | simp) [iv, hi2, put_get_ne, hr1, hb1, hm1, hxi, Lin.cs, hneg, lawClm, hfits, hso, hfc, hiv])
    · exact next (by rw [hq]; simp) _ (by repeat (first | exact AH.le.refl _ | assumption | apply AH.le.up | apply AH.le.put hw (by first | omega | (simp only [up_nx, put_nx, kill_nx]; done) | (simp only [up_nx, put_nx, kill_nx]; omega)) | apply AH.le.kill hw (by first | omega | (simp only [up_nx, put_nx, kill_nx]; done) | (simp only [up_nx, put_nx, kill_nx]; omega)))) (by first | omega | (simp only [up_nx, put_nx, kill_nx]; done) | (simp only [up_nx, put_nx, kill_nx]; omega))
    · exact rt_tup hw (by repeat (first | exact AH.le.refl _ | assumption | apply AH.le.up | apply AH.le.put hw (by first | omega | (simp only [up_nx, put_nx, kill_nx]; done) | (simp only [up_nx, put_nx, kill_nx]; omega)) | apply AH.le.kill hw (by first | omega | (simp only [up_nx, put_nx, kill_nx]; done) | (simp only [up_nx, put_nx, kill_nx]; omega)))) (by repeat (first | exact Cl.p _ | exact Cl.dsl _ _ | exact Cl.any | refine Cl.tup ?_ | refine Cl.agg ?_ | exact Clo.nil | refine Clo.cons ?_ ?_)) ⟨rfl, .inl ⟨i, _, x, hg, hso, hq, rfl⟩⟩
    · exact next (by simp [hso]) _ (by repeat (first | exact AH.le.refl _ | assumption | apply AH.le.up | apply AH.le.put hw (by first | omega | (simp only [up_nx, put_nx, kill_nx]; done) | (simp only [up_nx, put_nx, kill_nx]; omega)) | apply AH.le.kill hw (by first | omega | (simp only [up_nx, put_nx, kill_nx]; done) | (simp only [up_nx, put_nx, kill_nx]; omega)))) (by first | omega | (simp only [up_nx, put_nx, kill_nx]; done) | (simp only [up_nx, put_nx, kill_nx]; omega))
    · exact next (by simp [hso]) _ (by repeat (first | exact AH.le.refl _ | assumption | apply AH.le.up | apply AH.le.put hw (by first | omega | (simp only [up_nx, put_nx, kill_nx]; done) | (simp only [up_nx, put_nx, kill_nx]; omega)) | apply AH.le.kill hw (by first | omega | (simp only [up_nx, put_nx, kill_nx]; done) | (simp only [up_nx, put_nx, kill_nx]; omega)))) (by first | omega | (simp only [up_nx, put_nx, kill_nx]; done) | (simp only [up_nx, put_nx, kill_nx]; omega))
  · simp [iv, hi2]
    rw [List.take_of_length_le (by omega)] at hno
    refine rt_tup hw hle (by repeat (first | exact Cl.p _ | exact Cl.dsl _ _ | exact Cl.any | refine Cl.tup ?_ | refine Cl.agg ?_ | exact Clo.nil | refine Clo.cons ?_ ?_)) ⟨rfl, .inr ⟨fun x hx hso => ?_, rfl⟩⟩
    have := hno x hx
    rw [hso] at this
    simpa using this)
end Go.Proofs.Ytcmnjoepadjioaa
