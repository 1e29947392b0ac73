/- Texts that the proof rests on, part 11: what each holds stands at its head. -/
import Derived.Test.YtpmnlikgldacaaaSv10

/- Parts of speech: which are the same, rows of them, how many slashes: both programs. -/
namespace Go.Proofs.Ytpmnlikgldacaaa
open Go.RowKit Go.Maps
mutual
theorem Ty.same_self : ∀ t : Ty, t.same t = true
  | ⟨k, n, ks⟩ => by rw [Ty.same, Ty.sames_self ks]; simp
theorem Ty.sames_self : ∀ ks : List Ty, Ty.sames ks ks = true
  | [] => by rw [Ty.sames]
  | t :: r => by rw [Ty.sames, Ty.same_self t, Ty.sames_self r]; rfl
end
mutual
theorem Ty.same_eq_of : ∀ t s : Ty, t.same s = true → t = s
  | ⟨k, n, ks⟩, ⟨k', n', ks'⟩, h => by
    rw [Ty.same] at h
    simp only [Bool.and_eq_true, beq_iff_eq] at h
    obtain ⟨rfl, rfl, hl, h⟩ := h
    rw [Ty.sames_eq_of ks ks' hl h]
theorem Ty.sames_eq_of : ∀ ks ls : List Ty, ks.length = ls.length → Ty.sames ks ls = true → ks = ls
  | [], [], _, _ => rfl
  | [], _ :: _, hl, _ => by simp at hl
  | _ :: _, [], hl, _ => by simp at hl
  | t :: r, t' :: r', hl, h => by
    rw [Ty.sames, Bool.and_eq_true] at h
    rw [Ty.same_eq_of t t' h.1, Ty.sames_eq_of r r' (by simpa using hl) h.2]
end
def Ty.sameL (a b : List Ty) : Bool := decide (a.length = b.length) && Ty.sames a b
theorem Ty.sames_at {ks ls : List Ty} {i : Nat} {x y : Ty} (h : ks[i]? = some x) (h' : ls[i]? = some y) : Ty.sames (ks.drop i) (ls.drop i) = (x.same y && Ty.sames (ks.drop (i + 1)) (ls.drop (i + 1))) := by
  obtain ⟨h1, h2⟩ := List.getElem?_eq_some_iff.1 h
  obtain ⟨h3, h4⟩ := List.getElem?_eq_some_iff.1 h'
  rw [Ty.sames_step h1 h3, h2, h4]
def tE (l : List Ty) : AV := .dsl 3 (l.map Ty.cs)
theorem ty_len (l : List Ty) : ∀ e ∈ l.map Ty.cs, e.length = 3 := fun e he => by obtain ⟨t, _, rfl⟩ := List.mem_map.1 he; exact t.cs_len
theorem RSameParts_of (ts ss : List Ty) (hl : ts.length ≤ 9223372036854775807) (ih : ∀ x ∈ ts, ∀ y : Ty, ∀ H : AH, Tri Try.prog 25 [x.av, y.av] H (fun r H' => H' = H ∧ r = bv (x.same y))) (H : AH) :
    Tri Try.prog 42 [tE ts, tE ss] H (fun r H' => H' = H ∧ r = bv (Ty.sameL ts ss)) := tri_wf fun hw => tri_wordhoardref_SameParts (by
  unfold S_wordhoardref_SameParts tE
  by_cases k3 : ts.length = ss.length
  · have hs : Ty.sameL ts ss = Ty.sames ts ss := by unfold Ty.sameL; simp [k3]
    simp (disch := first | omega | simp) [k3]
    refine loop_st (fun i : Nat => [iv i]) (fun i H' => H = H' ∧ i ≤ ts.length ∧ Ty.sames ts ss = Ty.sames (ts.drop i) (ss.drop i)) (fun i => ts.length - i) 0 (.refl (Nat.le_refl _)) ⟨rfl, Nat.zero_le _, by simp⟩ ?_
    rintro i H2 hn2 ⟨rfl, hi, hsm⟩ k hk
    unfold S_wordhoardref_SameParts_L1
    by_cases hil : i < ts.length
    · obtain ⟨x, hx⟩ : ∃ x, ts[i]? = some x := ⟨_, List.getElem?_eq_getElem hil⟩
      obtain ⟨y, hy⟩ : ∃ y, ss[i]? = some y := ⟨_, List.getElem?_eq_getElem (by omega)⟩
      have hxg : ∀ h, ts[i]'h = x := fun h => (List.getElem?_eq_some_iff.1 hx).2
      have hyg : ∀ h, ss[i]'h = y := fun h => (List.getElem?_eq_some_iff.1 hy).2
      have his : i < ss.length := by omega
      have hiv := ivn (i := i) (by omega)
      rw [Ty.sames_at hx hy] at hsm
      simp (disch := first | omega | simp) [iv, Ty.cs_len, Ty.cs_take, hil, his, hxg, hyg]
      refine cav_pure (by kernel_rfl) (fun H3 _ => ih x (List.mem_of_getElem? hx) y H3) ?_
      cases hq : x.same y with
      | true =>
        rw [hq, Bool.true_and] at hsm
        simp (disch := first | omega | simp) [bv, hiv]
        exact hk (i + 1) _ _ _ (.refl (by first | omega | (simp only [up_nx, put_nx, kill_nx]; done) | (simp only [up_nx, put_nx, kill_nx]; omega))) ⟨rfl, hil, hsm⟩ (by omega)
      | false =>
        rw [hq, Bool.false_and] at hsm
        simp (disch := first | omega | simp) [bv]
        exact rt_one hw (by repeat (first | with_reducible assumption | with_reducible exact AH.le.refl _ | with_reducible apply AH.le.up | (with_reducible refine AH.le.put hw ?_ ?_; · first | omega | (simp only [up_nx, put_nx, kill_nx]; done) | (simp only [up_nx, put_nx, kill_nx]; omega)) | (with_reducible refine AH.le.kill hw ?_ ?_; · first | omega | (simp only [up_nx, put_nx, kill_nx]; done) | (simp only [up_nx, put_nx, kill_nx]; omega)))) (by repeat (first | exact Cl.p _ | exact Cl.dsl _ _ | exact Cl.any | refine Cl.tup ?_ | refine Cl.agg ?_ | exact Clo.nil | refine Clo.cons ?_ ?_)) ⟨rfl, by rw [hs, hsm]⟩
    · rw [Ty.sames_end (by omega)] at hsm
      simp (disch := first | omega | simp) [iv, hil]
      exact rt_one hw (by repeat (first | with_reducible assumption | with_reducible exact AH.le.refl _ | with_reducible apply AH.le.up | (with_reducible refine AH.le.put hw ?_ ?_; · first | omega | (simp only [up_nx, put_nx, kill_nx]; done) | (simp only [up_nx, put_nx, kill_nx]; omega)) | (with_reducible refine AH.le.kill hw ?_ ?_; · first | omega | (simp only [up_nx, put_nx, kill_nx]; done) | (simp only [up_nx, put_nx, kill_nx]; omega)))) (by repeat (first | exact Cl.p _ | exact Cl.dsl _ _ | exact Cl.any | refine Cl.tup ?_ | refine Cl.agg ?_ | exact Clo.nil | refine Clo.cons ?_ ?_)) ⟨rfl, by rw [hs, hsm]; rfl⟩
  · have k3' : ¬ ((ts.length : Int) = (ss.length : Int)) := by omega
    simp (disch := first | omega | simp) [k3']
    exact rt_one hw (by repeat (first | with_reducible assumption | with_reducible exact AH.le.refl _ | with_reducible apply AH.le.up | (with_reducible refine AH.le.put hw ?_ ?_; · first | omega | (simp only [up_nx, put_nx, kill_nx]; done) | (simp only [up_nx, put_nx, kill_nx]; omega)) | (with_reducible refine AH.le.kill hw ?_ ?_; · first | omega | (simp only [up_nx, put_nx, kill_nx]; done) | (simp only [up_nx, put_nx, kill_nx]; omega)))) (by repeat (first | exact Cl.p _ | exact Cl.dsl _ _ | exact Cl.any | refine Cl.tup ?_ | refine Cl.agg ?_ | exact Clo.nil | refine Clo.cons ?_ ?_)) ⟨rfl, by unfold Ty.sameL; simp [k3, bv]⟩)
theorem c_RSamePartN (N : Nat) : ∀ t s : Ty, t.size ≤ N → ∀ H : AH, Tri Try.prog 25 [t.av, s.av] H (fun r H' => H' = H ∧ r = bv (t.same s)) := by
  induction N with
  | zero => intro t s ht; have := t.size_pos; omega
  | succ N ih =>
    intro t s ht H
    refine tri_wf fun hw => tri_lenA 0 2 rfl t.cs_g2 fun hl => tri_wordhoardref_SamePart ?_
    have hml : maxLen = 9223372036854775807 := by decide
    rw [List.length_map] at hl
    have hsz := t.size_eq
    have hse := Ty.same_eq t s
    unfold S_wordhoardref_SamePart
    by_cases k1 : t.kind = s.kind
    · by_cases k2 : t.num = s.num
      · simp (disch := first | omega | simp) [iv, Ty.av, Ty.cs_g0, Ty.cs_g1, Ty.cs_g2, put_get_ne, k1, k2]
        refine ca_pure (by kernel_rfl) (RSameParts_of t.kids s.kids (by omega) (fun x hx y H => ih x y (by have := Ty.sizes_mem hx; omega) H) _) ?_
        simp (disch := first | omega | simp) [bv]
        exact rt_one hw (by repeat (first | with_reducible assumption | with_reducible exact AH.le.refl _ | with_reducible apply AH.le.up | (with_reducible refine AH.le.put hw ?_ ?_; · first | omega | (simp only [up_nx, put_nx, kill_nx]; done) | (simp only [up_nx, put_nx, kill_nx]; omega)) | (with_reducible refine AH.le.kill hw ?_ ?_; · first | omega | (simp only [up_nx, put_nx, kill_nx]; done) | (simp only [up_nx, put_nx, kill_nx]; omega)))) (by repeat (first | exact Cl.p _ | exact Cl.dsl _ _ | exact Cl.any | refine Cl.tup ?_ | refine Cl.agg ?_ | exact Clo.nil | refine Clo.cons ?_ ?_)) ⟨rfl, by rw [hse]; simp [k1, k2, Ty.sameL]; rfl⟩
      · have hs : t.same s = false := by rw [hse]; simp [k2]
        simp (disch := first | omega | simp) [iv, Ty.av, Ty.cs_g0, Ty.cs_g1, put_get_ne, k1, k2]
        exact rt_one hw (by repeat (first | with_reducible assumption | with_reducible exact AH.le.refl _ | with_reducible apply AH.le.up | (with_reducible refine AH.le.put hw ?_ ?_; · first | omega | (simp only [up_nx, put_nx, kill_nx]; done) | (simp only [up_nx, put_nx, kill_nx]; omega)) | (with_reducible refine AH.le.kill hw ?_ ?_; · first | omega | (simp only [up_nx, put_nx, kill_nx]; done) | (simp only [up_nx, put_nx, kill_nx]; omega)))) (by repeat (first | exact Cl.p _ | exact Cl.dsl _ _ | exact Cl.any | refine Cl.tup ?_ | refine Cl.agg ?_ | exact Clo.nil | refine Clo.cons ?_ ?_)) ⟨rfl, by simp [hs, bv]⟩
    · have hs : t.same s = false := by rw [hse]; simp [k1]
      simp (disch := first | omega | simp) [iv, Ty.av, Ty.cs_g0, put_get_ne, k1]
      exact rt_one hw (by repeat (first | with_reducible assumption | with_reducible exact AH.le.refl _ | with_reducible apply AH.le.up | (with_reducible refine AH.le.put hw ?_ ?_; · first | omega | (simp only [up_nx, put_nx, kill_nx]; done) | (simp only [up_nx, put_nx, kill_nx]; omega)) | (with_reducible refine AH.le.kill hw ?_ ?_; · first | omega | (simp only [up_nx, put_nx, kill_nx]; done) | (simp only [up_nx, put_nx, kill_nx]; omega)))) (by repeat (first | exact Cl.p _ | exact Cl.dsl _ _ | exact Cl.any | refine Cl.tup ?_ | refine Cl.agg ?_ | exact Clo.nil | refine Clo.cons ?_ ?_)) ⟨rfl, by simp [hs, bv]⟩
theorem c_RSamePart (t s : Ty) : PF Try.prog 25 [t.av, s.av] (bv (t.same s)) := fun H => c_RSamePartN _ t s (Nat.le_refl _) H
theorem c_RSameParts (a b : List Ty) : PF Try.prog 42 [tE a, tE b] (bv (Ty.sameL a b)) := fun H => tri_len 0 rfl fun hl _ => RSameParts_of a b (by rw [List.length_map] at hl; exact hl) (fun x _ y H => c_RSamePart x y H) H
set_option maxHeartbeats 1000000 in
theorem c_EqualFunc (ts ss : List Ty) (g : FuncId) (hg : callable Try.prog g = true) (H : AH) (hl : ts.length ≤ 9223372036854775807) (hp : ∀ x ∈ ts, ∀ y ∈ ss, ∀ H, Tri Try.prog g [x.av, y.av] H (fun r H' => H' = H ∧ r = bv (x.same y))) :
    Tri Try.prog 80 [.dsl 3 (ts.map Ty.cs), .dsl 3 (ss.map Ty.cs), .fn (.func g) [] []] H (fun r H' => H' = H ∧ r = bv (decide (ts.length = ss.length) && Ty.sames ts ss)) := tri_wf fun hw => tri_slices_EqualFunc_s_api_Part_s_api_Part_api_Part_api_Part (by
  unfold S_slices_EqualFunc_s_api_Part_s_api_Part_api_Part_api_Part
  by_cases k3 : ts.length = ss.length
  · simp (disch := first | omega | simp) [k3]
    refine loop_st (fun i : Nat => [iv i]) (fun i H' => H.le H' ∧ H.nx ≤ H'.nx ∧ i ≤ ts.length ∧ Ty.sames ts ss = Ty.sames (ts.drop i) (ss.drop i)) (fun i => ts.length - i) 0 (.refl (Nat.le_refl _)) ⟨.refl _, Nat.le_refl _, Nat.zero_le _, by simp⟩ ?_
    rintro i H2 hn2 ⟨hle, hn, hi, hsm⟩ k hk
    unfold S_slices_EqualFunc_s_api_Part_s_api_Part_api_Part_api_Part_L1
    by_cases hil : i < ts.length
    · obtain ⟨x, hx⟩ : ∃ x, ts[i]? = some x := ⟨_, List.getElem?_eq_getElem hil⟩
      obtain ⟨y, hy⟩ : ∃ y, ss[i]? = some y := ⟨_, List.getElem?_eq_getElem (by omega)⟩
      have hxg : ∀ h, ts[i]'h = x := fun h => (List.getElem?_eq_some_iff.1 hx).2
      have hyg : ∀ h, ss[i]'h = y := fun h => (List.getElem?_eq_some_iff.1 hy).2
      have his : i < ss.length := by omega
      have hiv := ivn (i := i) (by omega)
      rw [Ty.sames_at hx hy] at hsm
      simp (disch := first | omega | simp) [iv, Ty.cs_len, Ty.cs_take, put_get_ne, hil, his, hxg, hyg]
      refine ca_pure hg (hp x (List.mem_of_getElem? hx) y (List.mem_of_getElem? hy) _) ?_
      cases hq : x.same y with
      | true =>
        rw [hq, Bool.true_and] at hsm
        simp (disch := first | omega | simp) [bv, hiv]
        exact hk (i + 1) _ _ _ (.refl (by first | omega | (simp only [up_nx, put_nx]; done) | (simp only [up_nx, put_nx]; omega))) ⟨(by repeat (first | with_reducible assumption | with_reducible exact AH.le.refl _ | with_reducible apply AH.le.up | (with_reducible refine AH.le.put hw ?_ ?_; · first | omega | (simp only [up_nx, put_nx, kill_nx]; done) | (simp only [up_nx, put_nx, kill_nx]; omega)) | (with_reducible refine AH.le.kill hw ?_ ?_; · first | omega | (simp only [up_nx, put_nx, kill_nx]; done) | (simp only [up_nx, put_nx, kill_nx]; omega)))), (by first | omega | (simp only [up_nx, put_nx]; done) | (simp only [up_nx, put_nx]; omega)), hil, hsm⟩ (by omega)
      | false =>
        rw [hq, Bool.false_and] at hsm
        simp (disch := first | omega | simp) [bv]
        exact rt_one hw (by repeat (first | with_reducible assumption | with_reducible exact AH.le.refl _ | with_reducible apply AH.le.up | (with_reducible refine AH.le.put hw ?_ ?_; · first | omega | (simp only [up_nx, put_nx, kill_nx]; done) | (simp only [up_nx, put_nx, kill_nx]; omega)) | (with_reducible refine AH.le.kill hw ?_ ?_; · first | omega | (simp only [up_nx, put_nx, kill_nx]; done) | (simp only [up_nx, put_nx, kill_nx]; omega)))) (by repeat (first | exact Cl.p _ | exact Cl.dsl _ _ | exact Cl.any | refine Cl.tup ?_ | refine Cl.agg ?_ | exact Clo.nil | refine Clo.cons ?_ ?_)) ⟨rfl, by simp [hsm]⟩
    · rw [Ty.sames_end (by omega)] at hsm
      have his : ¬ i < ss.length := by omega
      simp (disch := first | omega | simp) [iv, his]
      exact rt_one hw (by repeat (first | with_reducible assumption | with_reducible exact AH.le.refl _ | with_reducible apply AH.le.up | (with_reducible refine AH.le.put hw ?_ ?_; · first | omega | (simp only [up_nx, put_nx, kill_nx]; done) | (simp only [up_nx, put_nx, kill_nx]; omega)) | (with_reducible refine AH.le.kill hw ?_ ?_; · first | omega | (simp only [up_nx, put_nx, kill_nx]; done) | (simp only [up_nx, put_nx, kill_nx]; omega)))) (by repeat (first | exact Cl.p _ | exact Cl.dsl _ _ | exact Cl.any | refine Cl.tup ?_ | refine Cl.agg ?_ | exact Clo.nil | refine Clo.cons ?_ ?_)) ⟨rfl, by simp [hsm, bv]⟩
  · have k3' : ¬ ((ts.length : Int) = (ss.length : Int)) := by omega
    simp (disch := first | omega | simp) [k3, k3']
    exact rt_one hw (by repeat (first | with_reducible assumption | with_reducible exact AH.le.refl _ | with_reducible apply AH.le.up | (with_reducible refine AH.le.put hw ?_ ?_; · first | omega | (simp only [up_nx, put_nx, kill_nx]; done) | (simp only [up_nx, put_nx, kill_nx]; omega)) | (with_reducible refine AH.le.kill hw ?_ ?_; · first | omega | (simp only [up_nx, put_nx, kill_nx]; done) | (simp only [up_nx, put_nx, kill_nx]; omega)))) (by repeat (first | exact Cl.p _ | exact Cl.dsl _ _ | exact Cl.any | refine Cl.tup ?_ | refine Cl.agg ?_ | exact Clo.nil | refine Clo.cons ?_ ?_)) ⟨rfl, by simp [bv]⟩)
theorem c_same (N : Nat) : ∀ t s : Ty, t.size ≤ N → ∀ H : AH, Tri Try.prog 76 [t.av, s.av] H (fun r H' => H' = H ∧ r = bv (t.same s)) := by
  induction N with
  | zero => intro t s ht; have := t.size_pos; omega
  | succ N ih =>
    intro t s ht H
    refine tri_wf fun hw => tri_lenA 0 2 rfl t.cs_g2 fun hl => tri_speech_same ?_
    have hml : maxLen = 9223372036854775807 := by decide
    rw [List.length_map] at hl
    have hsz := t.size_eq
    have hse := Ty.same_eq t s
    unfold S_speech_same
    by_cases k1 : t.kind = s.kind
    · by_cases k2 : t.num = s.num
      · simp (disch := first | omega | simp) [iv, Ty.av, Ty.cs_g0, Ty.cs_g1, Ty.cs_g2, put_get_ne, k1, k2]
        refine ca_pure (by kernel_rfl) (c_EqualFunc t.kids s.kids _ (by kernel_rfl) _ (by omega) (fun x hx y hy H => ih x y (by have := Ty.sizes_mem hx; omega) H)) ?_
        simp (disch := first | omega | simp) [bv]
        exact rt_one hw (by repeat (first | with_reducible assumption | with_reducible exact AH.le.refl _ | with_reducible apply AH.le.up | (with_reducible refine AH.le.put hw ?_ ?_; · first | omega | (simp only [up_nx, put_nx, kill_nx]; done) | (simp only [up_nx, put_nx, kill_nx]; omega)) | (with_reducible refine AH.le.kill hw ?_ ?_; · first | omega | (simp only [up_nx, put_nx, kill_nx]; done) | (simp only [up_nx, put_nx, kill_nx]; omega)))) (by repeat (first | exact Cl.p _ | exact Cl.dsl _ _ | exact Cl.any | refine Cl.tup ?_ | refine Cl.agg ?_ | exact Clo.nil | refine Clo.cons ?_ ?_)) ⟨rfl, by rw [hse]; simp [k1, k2]; rfl⟩
      · have hs : t.same s = false := by rw [hse]; simp [k2]
        simp (disch := first | omega | simp) [iv, Ty.av, Ty.cs_g0, Ty.cs_g1, put_get_ne, k1, k2]
        exact rt_one hw (by repeat (first | with_reducible assumption | with_reducible exact AH.le.refl _ | with_reducible apply AH.le.up | (with_reducible refine AH.le.put hw ?_ ?_; · first | omega | (simp only [up_nx, put_nx, kill_nx]; done) | (simp only [up_nx, put_nx, kill_nx]; omega)) | (with_reducible refine AH.le.kill hw ?_ ?_; · first | omega | (simp only [up_nx, put_nx, kill_nx]; done) | (simp only [up_nx, put_nx, kill_nx]; omega)))) (by repeat (first | exact Cl.p _ | exact Cl.dsl _ _ | exact Cl.any | refine Cl.tup ?_ | refine Cl.agg ?_ | exact Clo.nil | refine Clo.cons ?_ ?_)) ⟨rfl, by simp [hs, bv]⟩
    · have hs : t.same s = false := by rw [hse]; simp [k1]
      simp (disch := first | omega | simp) [iv, Ty.av, Ty.cs_g0, put_get_ne, k1]
      exact rt_one hw (by repeat (first | with_reducible assumption | with_reducible exact AH.le.refl _ | with_reducible apply AH.le.up | (with_reducible refine AH.le.put hw ?_ ?_; · first | omega | (simp only [up_nx, put_nx, kill_nx]; done) | (simp only [up_nx, put_nx, kill_nx]; omega)) | (with_reducible refine AH.le.kill hw ?_ ?_; · first | omega | (simp only [up_nx, put_nx, kill_nx]; done) | (simp only [up_nx, put_nx, kill_nx]; omega)))) (by repeat (first | exact Cl.p _ | exact Cl.dsl _ _ | exact Cl.any | refine Cl.tup ?_ | refine Cl.agg ?_ | exact Clo.nil | refine Clo.cons ?_ ?_)) ⟨rfl, by simp [hs, bv]⟩
theorem c_sameP (t s : Ty) : PF Try.prog 76 [t.av, s.av] (bv (t.same s)) := fun H => c_same _ t s (Nat.le_refl _) H
theorem c_sameAll (a b : List Ty) : PF Try.prog 78 [tE a, tE b] (bv (Ty.sameL a b)) := fun H => tri_wf fun hw => tri_len 0 rfl fun hl _ => tri_speech_sameAll (by
  rw [List.length_map] at hl
  have hml : maxLen = 9223372036854775807 := by decide
  unfold S_speech_sameAll
  refine ca_pure (by kernel_rfl) (c_EqualFunc a b _ (by kernel_rfl) _ (by omega) (fun x _ y _ H => c_sameP x y H)) ?_
  exact rt_one hw (by repeat (first | with_reducible assumption | with_reducible exact AH.le.refl _ | with_reducible apply AH.le.up | (with_reducible refine AH.le.put hw ?_ ?_; · first | omega | (simp only [up_nx, put_nx, kill_nx]; done) | (simp only [up_nx, put_nx, kill_nx]; omega)) | (with_reducible refine AH.le.kill hw ?_ ?_; · first | omega | (simp only [up_nx, put_nx, kill_nx]; done) | (simp only [up_nx, put_nx, kill_nx]; omega)))) (by repeat (first | exact Cl.p _ | exact Cl.dsl _ _ | exact Cl.any | refine Cl.tup ?_ | refine Cl.agg ?_ | exact Clo.nil | refine Clo.cons ?_ ?_)) ⟨rfl, rfl⟩)
end Go.Proofs.Ytpmnlikgldacaaa

/- Derivations of Lambek's calculus over parts of speech: cuts, inversion, balance. Plain. -/
namespace Go.Proofs.Ytpmnlikgldacaaa
def Ty.o (x y : Ty) : Ty := ⟨2, 0, [x, y]⟩
def Ty.u (y x : Ty) : Ty := ⟨3, 0, [y, x]⟩
theorem Ty.ne_ou {a b c d : Ty} : Ty.o a b ≠ Ty.u c d := fun h => by injection h with h; exact absurd h (by decide)
theorem Ty.o_inj {a b c d : Ty} (h : Ty.o a b = Ty.o c d) : a = c ∧ b = d := by injection h with _ _ h; injection h with h1 h; injection h with h2 _; exact ⟨h1, h2⟩
theorem Ty.u_inj {a b c d : Ty} (h : Ty.u a b = Ty.u c d) : a = c ∧ b = d := by injection h with _ _ h; injection h with h1 h; injection h with h2 _; exact ⟨h1, h2⟩
theorem Ty.size_o (a b : Ty) : (Ty.o a b).size = 1 + a.size + b.size := by rw [Ty.o, Ty.size_mk, Ty.sizes, Ty.sizes, Ty.sizes]; omega
theorem Ty.size_u (a b : Ty) : (Ty.u a b).size = 1 + a.size + b.size := by rw [Ty.u, Ty.size_mk, Ty.sizes, Ty.sizes, Ty.sizes]; omega
inductive Dv : List Ty → Ty → Prop
  | ax (x : Ty) : Dv [x] x
  | or_ {g : List Ty} {x y : Ty} : g ≠ [] → Dv (g ++ [y]) x → Dv g (Ty.o x y)
  | ur {g : List Ty} {x y : Ty} : g ≠ [] → Dv (y :: g) x → Dv g (Ty.u y x)
  | ol {g d h : List Ty} {x y z : Ty} : d ≠ [] → Dv d y → Dv (g ++ x :: h) z → Dv (g ++ Ty.o x y :: (d ++ h)) z
  | ul {g d h : List Ty} {x y z : Ty} : d ≠ [] → Dv d y → Dv (g ++ x :: h) z → Dv (g ++ (d ++ Ty.u y x :: h)) z
theorem Dv.ne {g : List Ty} {z : Ty} (h : Dv g z) : g ≠ [] := by
  induction h with
  | ax => simp
  | or_ h => exact h
  | ur h => exact h
  | ol => simp
  | ul => simp
/-- one thing in a list that is parted at another one -/
theorem split_at {α : Type} : ∀ {g A : List α} {h B : List α} {x y : α}, g ++ x :: h = A ++ y :: B →
    (g = A ∧ x = y ∧ h = B) ∨ (∃ t, A = g ++ x :: t ∧ h = t ++ y :: B) ∨ (∃ t, g = A ++ y :: t ∧ B = t ++ x :: h)
  | [], [], h, B, x, y, e => by simp at e; exact .inl ⟨rfl, e.1, e.2⟩
  | [], a :: A, h, B, x, y, e => by simp at e; exact .inr (.inl ⟨A, by rw [e.1]; rfl, e.2⟩)
  | c :: g, [], h, B, x, y, e => by simp at e; exact .inr (.inr ⟨g, by rw [e.1]; rfl, e.2.symm⟩)
  | c :: g, a :: A, h, B, x, y, e => by
    simp at e
    obtain ⟨rfl, e⟩ := e
    rcases split_at e with ⟨h1, h2, h3⟩ | ⟨t, h1, h2⟩ | ⟨t, h1, h2⟩
    · exact .inl ⟨by rw [h1], h2, h3⟩
    · exact .inr (.inl ⟨t, by rw [h1]; rfl, h2⟩)
    · exact .inr (.inr ⟨t, by rw [h1]; rfl, h2⟩)
/-- one thing in a list of two parts -/
theorem split_two {α : Type} : ∀ {g D E : List α} {h : List α} {x : α}, g ++ x :: h = D ++ E → (∃ t, D = g ++ x :: t ∧ h = t ++ E) ∨ (∃ t, g = D ++ t ∧ E = t ++ x :: h)
  | [], [], E, h, x, e => .inr ⟨[], rfl, e.symm⟩
  | [], d :: D, E, h, x, e => by simp at e; exact .inl ⟨D, by rw [e.1]; rfl, e.2⟩
  | c :: g, [], E, h, x, e => .inr ⟨c :: g, rfl, e.symm⟩
  | c :: g, d :: D, E, h, x, e => by
    simp at e
    obtain ⟨rfl, e⟩ := e
    rcases split_two e with ⟨t, h1, h2⟩ | ⟨t, h1, h2⟩
    · exact .inl ⟨t, by rw [h1]; rfl, h2⟩
    · exact .inr ⟨t, by rw [h1]; rfl, h2⟩
def CutF (x : Ty) : Prop := ∀ (d g h : List Ty) (z : Ty), Dv d x → Dv (g ++ x :: h) z → Dv (g ++ d ++ h) z
/-- a cut whose first proof's last step gives the cut part -/
theorem cut_right {d : List Ty} {x : Ty} (hd : d ≠ [])
    (ho : ∀ a b, x = Ty.o a b → ∀ (d1 g h1 : List Ty) (z : Ty), d1 ≠ [] → Dv d1 b → Dv (g ++ a :: h1) z → Dv (g ++ d ++ (d1 ++ h1)) z)
    (hu : ∀ b a, x = Ty.u b a → ∀ (d1 g h1 : List Ty) (z : Ty), d1 ≠ [] → Dv d1 b → Dv (g ++ a :: h1) z → Dv (g ++ d1 ++ d ++ h1) z)
    (hx : Dv d x) : ∀ (L : List Ty) (z : Ty), Dv L z → ∀ g h, L = g ++ x :: h → Dv (g ++ d ++ h) z := by
  intro L z hL
  induction hL with
  | ax y =>
    intro g h e
    have : g = [] ∧ h = [] ∧ x = y := by
      cases g with
      | nil => simp at e; exact ⟨rfl, e.2, e.1.symm⟩
      | cons a g => simp at e
    obtain ⟨rfl, rfl, rfl⟩ := this
    simpa using hx
  | @or_ L a b hne h1 ih =>
    intro g h e
    have := ih g (h ++ [b]) (by rw [e]; simp)
    exact .or_ (by simp [hd]) (by simpa using this)
  | @ur L a b hne h1 ih =>
    intro g h e
    have := ih (b :: g) h (by rw [e]; simp)
    exact .ur (by simp [hd]) (by simpa using this)
  | @ol g1 d1 h1 a b z hne q1 q2 ih1 ih2 =>
    intro g h e
    rcases split_at e.symm with ⟨rfl, rfl, rfl⟩ | ⟨t, rfl, rfl⟩ | ⟨t, rfl, e2⟩
    · exact ho a b rfl d1 g h1 z hne q1 q2
    · have := ih2 g (t ++ a :: h1) (by simp)
      have := Dv.ol (g := g ++ d ++ t) hne q1 (by simpa using this)
      simpa using this
    · rcases split_two e2.symm with ⟨s, rfl, rfl⟩ | ⟨s, rfl, rfl⟩
      · have := ih1 t s rfl
        have := Dv.ol (g := g1) (h := h1) (d := t ++ d ++ s) (by simp [hd]) this q2
        simpa using this
      · have := ih2 (g1 ++ a :: s) h (by simp)
        have := Dv.ol (g := g1) (h := s ++ d ++ h) hne q1 (by simpa using this)
        simpa using this
  | @ul g1 d1 h1 a b z hne q1 q2 ih1 ih2 =>
    intro g h e
    have e' : g ++ x :: h = (g1 ++ d1) ++ Ty.u b a :: h1 := by rw [← e]; simp
    rcases split_at e' with ⟨rfl, rfl, rfl⟩ | ⟨t, e2, rfl⟩ | ⟨t, rfl, rfl⟩
    · exact hu b a rfl d1 g1 h z hne q1 q2
    · rcases split_two e2.symm with ⟨s, rfl, rfl⟩ | ⟨s, rfl, rfl⟩
      · have := ih2 g (s ++ a :: h1) (by simp)
        have := Dv.ul (g := g ++ d ++ s) hne q1 (by simpa using this)
        simpa using this
      · have := ih1 s t rfl
        have := Dv.ul (g := g1) (h := h1) (d := s ++ d ++ t) (by simp [hd]) this q2
        simpa using this
    · have := ih2 (g1 ++ a :: t) h (by simp)
      have := Dv.ul (g := g1) (h := t ++ d ++ h) hne q1 (by simpa using this)
      simpa using this
theorem cut_of {x : Ty} (hs : ∀ a b, (x = Ty.o a b ∨ x = Ty.u b a) → CutF a ∧ CutF b) : CutF x := by
  intro d g h z hd
  induction hd generalizing g h z with
  | ax y => intro hz; simpa using hz
  | @or_ d a b hne h1 _ =>
    intro hz
    obtain ⟨ca, cb⟩ := hs a b (.inl rfl)
    refine cut_right hne (fun a' b' e => ?_) (fun b' a' e => absurd e Ty.ne_ou) (.or_ hne h1) _ _ hz g h rfl
    obtain ⟨e1, e2⟩ := Ty.o_inj e; subst e1; subst e2
    intro d1 g1 h2 z1 hd1 q1 q2
    have r1 := cb d1 d [] a q1 h1
    have r2 := ca _ g1 h2 z1 r1 q2
    simpa using r2
  | @ur d a b hne h1 _ =>
    intro hz
    obtain ⟨ca, cb⟩ := hs a b (.inr rfl)
    refine cut_right hne (fun a' b' e => absurd e.symm Ty.ne_ou) (fun b' a' e => ?_) (.ur hne h1) _ _ hz g h rfl
    obtain ⟨e1, e2⟩ := Ty.u_inj e; subst e1; subst e2
    intro d1 g1 h2 z1 hd1 q1 q2
    have r1 := cb d1 [] d a q1 h1
    have r2 := ca _ g1 h2 z1 r1 q2
    simpa using r2
  | @ol g1 d1 h1 a b y hne q1 q2 _ ih2 =>
    intro hz
    have := ih2 hs g h z hz
    have := Dv.ol (g := g ++ g1) (h := h1 ++ h) hne q1 (by simpa using this)
    simpa using this
  | @ul g1 d1 h1 a b y hne q1 q2 _ ih2 =>
    intro hz
    have := ih2 hs g h z hz
    have := Dv.ul (g := g ++ g1) (h := h1 ++ h) hne q1 (by simpa using this)
    simpa using this
/-- GENTZEN, LAMBEK -/
theorem cut_n : ∀ (N : Nat) (x : Ty), x.size ≤ N → CutF x
  | 0, x, h => by have := x.size_pos; omega
  | N + 1, x, h => cut_of (fun a b e => by
    rcases e with rfl | rfl
    · rw [Ty.size_o] at h; exact ⟨cut_n N a (by omega), cut_n N b (by omega)⟩
    · rw [Ty.size_u] at h; exact ⟨cut_n N a (by omega), cut_n N b (by omega)⟩)
theorem cut (x : Ty) : CutF x := cut_n x.size x (Nat.le_refl _)
theorem Dv.inv_o {g : List Ty} {x y : Ty} (h : Dv g (Ty.o x y)) : Dv (g ++ [y]) x := by
  have h1 : Dv ([] ++ Ty.o x y :: ([y] ++ [])) x := .ol (by simp) (.ax y) (by simpa using Dv.ax x)
  have := cut (Ty.o x y) g [] [y] x h (by simpa using h1)
  simpa using this
theorem Dv.inv_u {g : List Ty} {x y : Ty} (h : Dv g (Ty.u y x)) : Dv (y :: g) x := by
  have h1 : Dv ([] ++ ([y] ++ Ty.u y x :: [])) x := .ul (by simp) (.ax y) (by simpa using Dv.ax x)
  have := cut (Ty.u y x) g [y] [] x h (by simpa using h1)
  simpa using this
/-- of a base part, what a part gives less what it wants -/
def Ty.gives : Ty → Int → Int
  | ⟨k, n, ks⟩, c => if k = 1 then (if n = c then 1 else 0) else match ks with
    | [a, b] => if k = 2 then Ty.gives a c - Ty.gives b c else Ty.gives b c - Ty.gives a c
    | _ => 0
theorem Ty.gives_o (a b : Ty) (c : Int) : (Ty.o a b).gives c = a.gives c - b.gives c := by rw [Ty.o, Ty.gives]; simp
theorem Ty.gives_u (a b : Ty) (c : Int) : (Ty.u a b).gives c = b.gives c - a.gives c := by rw [Ty.u, Ty.gives]; simp
theorem Ty.gives_b (n c : Int) : Ty.gives ⟨1, n, []⟩ c = if n = c then 1 else 0 := by rw [Ty.gives]; simp; intro a b h; cases h
def gsum (l : List Ty) (c : Int) : Int := (l.map (·.gives c)).sum
theorem gsum_app (l m : List Ty) (k : Int) : gsum (l ++ m) k = gsum l k + gsum m k := by simp [gsum]
theorem gsum_cons (x : Ty) (l : List Ty) (k : Int) : gsum (x :: l) k = x.gives k + gsum l k := by simp [gsum]
theorem gsum_nil (k : Int) : gsum [] k = 0 := rfl
theorem Dv.level {g : List Ty} {z : Ty} (h : Dv g z) (k : Int) : gsum g k = z.gives k := by
  induction h with
  | ax x => simp [gsum]
  | or_ _ _ ih => simp only [gsum_app, gsum_cons, Ty.gives_o, gsum_nil] at ih ⊢; omega
  | ur _ _ ih => simp only [gsum_cons, Ty.gives_u] at ih ⊢; omega
  | ol _ _ _ ih1 ih2 => simp only [gsum_app, gsum_cons, Ty.gives_o] at ih1 ih2 ⊢; omega
  | ul _ _ _ ih1 ih2 => simp only [gsum_app, gsum_cons, Ty.gives_u] at ih1 ih2 ⊢; omega
def levelB (l : List Ty) (g : Ty) : Bool := (List.range 10).all fun c => gsum l (c : Nat) == g.gives (c : Nat)
theorem Dv.lev {l : List Ty} {g : Ty} (h : Dv l g) : levelB l g = true := by
  unfold levelB
  rw [List.all_eq_true]
  intro c _
  simp [h.level]
/-- a part that is right -/
def Good (t : Ty) : Prop := t.check = 0
theorem Ty.wrongs_zero : ∀ {ks : List Ty}, Ty.wrongs ks = 0 → ∀ t ∈ ks, t.wrong = 0
  | k :: r, h, t, ht => by
    rw [Ty.wrongs] at h
    split at h
    · rename_i hk
      rcases List.mem_cons.1 ht with rfl | ht
      · exact hk
      · exact Ty.wrongs_zero h t ht
    · exact absurd h ‹_›
theorem Good.cases {t : Ty} (h : Good t) : (∃ n : Int, t = ⟨1, n, []⟩ ∧ 0 ≤ n ∧ n ≤ 9) ∨ (∃ x y, t = Ty.o x y ∧ Good x ∧ Good y) ∨ (∃ y x, t = Ty.u y x ∧ Good y ∧ Good x) := by
  obtain ⟨k, n, ks⟩ := t
  unfold Good Ty.check at h
  split at h
  · exact absurd h (by decide)
  rename_i hs
  rw [Ty.wrong_mk] at h
  have sub : ∀ x : Ty, x.size ≤ 15 → x.wrong = 0 → Good x := fun x h1 h2 => by unfold Good Ty.check; rw [if_neg (by omega)]; exact h2
  split at h
  · rename_i hh
    unfold Ty.head at hh
    by_cases h1 : k < 1 ∨ 3 < k
    · rw [if_pos h1] at hh; exact absurd hh (by decide)
    rw [if_neg h1] at hh
    by_cases h2 : (ks.length : Int) ≠ (if k = 1 then 0 else 2)
    · rw [if_pos h2] at hh; exact absurd hh (by decide)
    rw [if_neg h2] at hh
    by_cases h3 : n < 0 ∨ 9 < n ∨ (0 < n ∧ 1 < k)
    · rw [if_pos h3] at hh; exact absurd hh (by decide)
    have h2 := Classical.byContradiction fun h => h2 h
    clear hh
    by_cases k1 : k = 1
    · subst k1
      have : ks = [] := by
        have : (ks.length : Int) = 0 := by rw [h2]; rfl
        exact List.eq_nil_of_length_eq_zero (by omega)
      exact .inl ⟨n, by rw [this], by omega, by omega⟩
    · have hl : ks.length = 2 := by
        have : (ks.length : Int) = 2 := by rw [h2, if_neg k1]
        omega
      have hn : n = 0 := by omega
      subst hn
      obtain ⟨a, b, rfl⟩ : ∃ a b, ks = [a, b] := by
        match ks, hl with
        | [a, b], _ => exact ⟨a, b, rfl⟩
      rw [Ty.size_mk, Ty.sizes, Ty.sizes, Ty.sizes] at hs
      have ha := sub a (by omega) (Ty.wrongs_zero h a (by simp))
      have hb := sub b (by omega) (Ty.wrongs_zero h b (by simp))
      have : k = 2 ∨ k = 3 := by omega
      rcases this with rfl | rfl
      · exact .inr (.inl ⟨a, b, rfl, ha, hb⟩)
      · exact .inr (.inr ⟨a, b, rfl, ha, hb⟩)
  · exact absurd h ‹_›
theorem Good.size {t : Ty} (h : Good t) : t.size ≤ 15 := by
  unfold Good Ty.check at h
  split at h
  · exact absurd h (by decide)
  · omega
mutual
def Ty.sl : Ty → Nat
  | ⟨k, _, ks⟩ => if k = 1 then 0 else 1 + Ty.sls ks
def Ty.sls : List Ty → Nat
  | [] => 0
  | t :: r => Ty.sl t + Ty.sls r
end
theorem Ty.sl_o (x y : Ty) : (Ty.o x y).sl = 1 + x.sl + y.sl := by rw [Ty.o, Ty.sl, Ty.sls, Ty.sls, Ty.sls]; simp; omega
theorem Ty.sl_u (y x : Ty) : (Ty.u y x).sl = 1 + x.sl + y.sl := by rw [Ty.u, Ty.sl, Ty.sls, Ty.sls, Ty.sls]; simp; omega
theorem Ty.sls_app : ∀ a b : List Ty, Ty.sls (a ++ b) = Ty.sls a + Ty.sls b
  | [], b => by rw [Ty.sls]; simp
  | x :: a, b => by rw [List.cons_append, Ty.sls, Ty.sls, Ty.sls_app a b]; omega
theorem Ty.sls_cons (x : Ty) (a : List Ty) : Ty.sls (x :: a) = x.sl + Ty.sls a := by rw [Ty.sls]
theorem Ty.sls_nil : Ty.sls [] = 0 := by rw [Ty.sls]
end Go.Proofs.Ytpmnlikgldacaaa

/- A search for proofs with what is known to have none: plain functions. -/
namespace Go.Proofs.Ytpmnlikgldacaaa
structure Pf where
  step : Int
  left : List Ty
  goal : Ty
  at_ : Int
  num : Int
  kids : List Pf
theorem Ty.kind_o (x y : Ty) : (Ty.o x y).kind = 2 := rfl
theorem Ty.kind_u (y x : Ty) : (Ty.u y x).kind = 3 := rfl
def Ty.k0 (t : Ty) : Ty := (t.kids[0]?).getD ⟨0, 0, []⟩
def Ty.k1 (t : Ty) : Ty := (t.kids[1]?).getD ⟨0, 0, []⟩
def zeroP : Pf := ⟨0, [], ⟨0, 0, []⟩, 0, 0, []⟩
structure Cand where
  d : List Ty
  x : Ty
  rest : List Ty
  step : Int
  at_ : Int
  num : Int
def candO (l : List Ty) (i : Nat) (f : Ty) (to : Nat) : Cand := ⟨(l.drop (i + 1)).take (to - (i + 1)), f.k1, l.take i ++ (f.kids.take 1 ++ l.drop to), 4, ((i + 1 : Nat) : Int), ((to - (i + 1) : Nat) : Int)⟩
def candU (l : List Ty) (i : Nat) (f : Ty) (fr : Nat) : Cand := ⟨(l.drop fr).take (i - fr), f.k0, l.take fr ++ (f.kids.drop 1 ++ l.drop (i + 1)), 5, (fr : Int), ((i - fr : Nat) : Int)⟩
def oversFrom (l : List Ty) (i : Nat) (f : Ty) (to : Nat) : List Cand := (List.range' to (l.length + 1 - to)).map (candO l i f)
def undersFrom (l : List Ty) (i : Nat) (f : Ty) (fr : Nat) : List Cand := (List.range' fr (i - fr)).map (candU l i f)
def candsAt (l : List Ty) (i : Nat) : List Cand := match l[i]? with
  | some f => if f.kind = 2 then oversFrom l i f (i + 2) else if f.kind = 3 then undersFrom l i f 0 else []
  | none => []
def candsFrom (l : List Ty) (i : Nat) : List Cand := (List.range' i (l.length - i)).flatMap (candsAt l)
theorem overs_step {l : List Ty} {i to : Nat} {f : Ty} (h : to ≤ l.length) : oversFrom l i f to = candO l i f to :: oversFrom l i f (to + 1) := by
  unfold oversFrom
  rw [show l.length + 1 - to = (l.length + 1 - (to + 1)) + 1 by omega, List.range'_succ, List.map_cons]
theorem overs_end {l : List Ty} {i to : Nat} {f : Ty} (h : l.length < to) : oversFrom l i f to = [] := by
  unfold oversFrom
  rw [show l.length + 1 - to = 0 by omega]; rfl
theorem unders_step {l : List Ty} {i fr : Nat} {f : Ty} (h : fr < i) : undersFrom l i f fr = candU l i f fr :: undersFrom l i f (fr + 1) := by
  unfold undersFrom
  rw [show i - fr = (i - (fr + 1)) + 1 by omega, List.range'_succ, List.map_cons]
theorem unders_end {l : List Ty} {i fr : Nat} {f : Ty} (h : i ≤ fr) : undersFrom l i f fr = [] := by
  unfold undersFrom
  rw [show i - fr = 0 by omega]; rfl
theorem cands_step {l : List Ty} {i : Nat} (h : i < l.length) : candsFrom l i = candsAt l i ++ candsFrom l (i + 1) := by
  unfold candsFrom
  rw [show l.length - i = (l.length - (i + 1)) + 1 by omega, List.range'_succ, List.flatMap_cons]
theorem cands_end {l : List Ty} {i : Nat} (h : l.length ≤ i) : candsFrom l i = [] := by
  unfold candsFrom
  rw [show l.length - i = 0 by omega]; rfl
theorem sl_pos {t : Ty} (h : t.kind ≠ 1) : 1 ≤ t.sl := by
  obtain ⟨k, n, ks⟩ := t
  rw [Ty.sl, if_neg h]; omega
theorem candsAt_len {l : List Ty} {i : Nat} (h : i < l.length) : (candsAt l i).length ≤ l[i].sl * l.length := by
  unfold candsAt
  rw [List.getElem?_eq_getElem h]
  simp only
  split
  · rename_i hk
    have := sl_pos (t := l[i]) (by omega)
    unfold oversFrom
    rw [List.length_map, List.length_range']
    calc l.length + 1 - (i + 2) ≤ 1 * l.length := by omega
      _ ≤ _ := Nat.mul_le_mul_right _ this
  · split
    · have := sl_pos (t := l[i]) (by omega)
      unfold undersFrom
      rw [List.length_map, List.length_range']
      calc i - 0 ≤ 1 * l.length := by omega
        _ ≤ _ := Nat.mul_le_mul_right _ this
    · simp
theorem candsFrom_len (l : List Ty) : ∀ (k i : Nat), l.length - i ≤ k → (candsFrom l i).length ≤ Ty.sls (l.drop i) * l.length
  | 0, i, h => by rw [cands_end (by omega)]; simp
  | k + 1, i, h => by
    by_cases hi : i < l.length
    · rw [cands_step hi, List.length_append, List.drop_eq_getElem_cons hi, Ty.sls_cons, Nat.add_mul]
      have := candsFrom_len l k (i + 1) (by omega)
      have := candsAt_len hi
      omega
    · rw [cands_end (by omega)]; simp
abbrev Ded := List (List Ty × Ty)
def both (pr : List Ty → Ty → Ded → Pf × Bool × Ded) (p : Pf) (d : List Ty) (x : Ty) (rest : List Ty) (s : Ded) : Pf × Bool × Ded :=
  let r := pr d x s
  if r.2.1 = true then
    let q := pr rest p.goal r.2.2
    (⟨p.step, p.left, p.goal, p.at_, p.num, [r.1, q.1]⟩, q.2.1, q.2.2)
  else (p, false, r.2.2)
def tryC (pr : List Ty → Ty → Ded → Pf × Bool × Ded) (p : Pf) : List Cand → Ded → Option Pf × Ded
  | [], s => (none, s)
  | c :: cs, s =>
    let r := both pr p c.d c.x c.rest s
    if r.2.1 = true then (some ⟨c.step, r.1.left, r.1.goal, c.at_, c.num, r.1.kids⟩, r.2.2) else tryC pr p cs r.2.2
open Classical in
noncomputable def searchF (pr : List Ty → Ty → Ded → Pf × Bool × Ded) (l : List Ty) (g : Ty) (s : Ded) : Pf × Bool × Ded :=
  if l = [g] then (⟨1, l, g, 0, 0, []⟩, true, s)
  else if g.kind = 2 then
    let r := pr (l ++ [g.k1]) g.k0 s
    (⟨2, l, g, 0, 0, [r.1]⟩, r.2.1, r.2.2)
  else if g.kind = 3 then
    let r := pr (g.k0 :: l) g.k1 s
    (⟨3, l, g, 0, 0, [r.1]⟩, r.2.1, r.2.2)
  else match tryC pr ⟨0, l, g, 0, 0, []⟩ (candsFrom l 0) s with
    | (some q, s1) => (q, true, s1)
    | (none, s1) => (zeroP, false, s1)
open Classical in
noncomputable def proofF : Nat → List Ty → Ty → Ded → Pf × Bool × Ded
  | 0, _, _, s => (zeroP, false, s)
  | N + 1, l, g, s =>
    if l = [] ∨ levelB l g = false then (zeroP, false, s)
    else if (l, g) ∈ s then (zeroP, false, s)
    else
      let r := searchF (proofF N) l g s
      if r.2.1 = true then r else (r.1, false, (l, g) :: r.2.2)
/-- a proof without cuts of a sequent -/
inductive PfOf : Pf → List Ty → Ty → Nat → Prop
  | ax (g : Ty) : PfOf ⟨1, [g], g, 0, 0, []⟩ [g] g 1
  | o {a : Pf} {l : List Ty} {x y : Ty} {n : Nat} : l ≠ [] → PfOf a (l ++ [y]) x n → PfOf ⟨2, l, Ty.o x y, 0, 0, [a]⟩ l (Ty.o x y) (n + 1)
  | u {a : Pf} {l : List Ty} {x y : Ty} {n : Nat} : l ≠ [] → PfOf a (y :: l) x n → PfOf ⟨3, l, Ty.u y x, 0, 0, [a]⟩ l (Ty.u y x) (n + 1)
  | ol {a b : Pf} {G d h : List Ty} {x y z : Ty} {n m : Nat} : d ≠ [] → PfOf a d y n → PfOf b (G ++ x :: h) z m → PfOf ⟨4, G ++ Ty.o x y :: (d ++ h), z, ((G.length + 1 : Nat) : Int), (d.length : Int), [a, b]⟩ (G ++ Ty.o x y :: (d ++ h)) z (n + m + 1)
  | ul {a b : Pf} {G d h : List Ty} {x y z : Ty} {n m : Nat} : d ≠ [] → PfOf a d y n → PfOf b (G ++ x :: h) z m → PfOf ⟨5, G ++ (d ++ Ty.u y x :: h), z, (G.length : Int), (d.length : Int), [a, b]⟩ (G ++ (d ++ Ty.u y x :: h)) z (n + m + 1)
theorem PfOf.dv {p : Pf} {l : List Ty} {g : Ty} {n : Nat} (h : PfOf p l g n) : Dv l g := by
  induction h with
  | ax g => exact .ax g
  | o h _ ih => exact .or_ h ih
  | u h _ ih => exact .ur h ih
  | ol h _ _ ih1 ih2 => exact .ol h ih1 ih2
  | ul h _ _ ih1 ih2 => exact .ul h ih1 ih2
/-- how a candidate parts its row -/
inductive CandOf (l : List Ty) : Cand → Prop
  | o (G d h : List Ty) (x y : Ty) : l = G ++ Ty.o x y :: (d ++ h) → d ≠ [] → CandOf l ⟨d, y, G ++ x :: h, 4, ((G.length + 1 : Nat) : Int), (d.length : Int)⟩
  | u (G d h : List Ty) (x y : Ty) : l = G ++ (d ++ Ty.u y x :: h) → d ≠ [] → CandOf l ⟨d, y, G ++ x :: h, 5, (G.length : Int), (d.length : Int)⟩
theorem candsFrom_mem {l : List Ty} {c : Cand} : ∀ (k i : Nat), l.length - i ≤ k → (c ∈ candsFrom l i ↔ ∃ j, i ≤ j ∧ j < l.length ∧ c ∈ candsAt l j)
  | 0, i, h => by
    rw [cands_end (by omega)]
    constructor
    · intro h; cases h
    · rintro ⟨j, h1, h2, _⟩; omega
  | k + 1, i, h => by
    by_cases hi : i < l.length
    · rw [cands_step hi, List.mem_append, candsFrom_mem k (i + 1) (by omega)]
      constructor
      · rintro (h | ⟨j, h1, h2, h3⟩)
        · exact ⟨i, Nat.le_refl _, hi, h⟩
        · exact ⟨j, by omega, h2, h3⟩
      · rintro ⟨j, h1, h2, h3⟩
        rcases Nat.lt_or_ge i j with h | h
        · exact .inr ⟨j, h, h2, h3⟩
        · have : j = i := by omega
          subst this; exact .inl h3
    · rw [cands_end (by omega)]
      constructor
      · intro h; cases h
      · rintro ⟨j, h1, h2, _⟩; omega
theorem at_parts {l : List Ty} {i : Nat} {f : Ty} (h : l[i]? = some f) : l = l.take i ++ f :: l.drop (i + 1) := by
  obtain ⟨h1, h2⟩ := List.getElem?_eq_some_iff.1 h
  conv => lhs; rw [← List.take_append_drop i l, List.drop_eq_getElem_cons h1, h2]
theorem cand_of {l : List Ty} (hg : ∀ t ∈ l, Good t) {c : Cand} (h : c ∈ candsFrom l 0) : CandOf l c := by
  obtain ⟨j, _, hj, hc⟩ := (candsFrom_mem l.length 0 (by omega)).1 h
  unfold candsAt at hc
  have hf := List.getElem?_eq_getElem hj
  rw [hf] at hc
  simp only at hc
  have hl := at_parts hf
  generalize l[j] = f at *
  have hgf := hg f (List.mem_of_getElem? hf)
  split at hc
  · rename_i hk
    rcases hgf.cases with ⟨n, rfl, _⟩ | ⟨x, y, rfl, _⟩ | ⟨y, x, rfl, _⟩
    · exact absurd (show (1 : Int) = 2 from hk) (by decide)
    · unfold oversFrom at hc
      obtain ⟨to, h1, rfl⟩ := List.mem_map.1 hc
      rw [List.mem_range'_1] at h1
      have hd : (l.drop (j + 1)).take (to - (j + 1)) ≠ [] := by
        intro e
        have := congrArg List.length e
        rw [List.length_take, List.length_drop] at this; simp at this; omega
      have hlen : ((l.drop (j + 1)).take (to - (j + 1))).length = to - (j + 1) := by rw [List.length_take, List.length_drop]; omega
      have hdr : l.drop (j + 1) = (l.drop (j + 1)).take (to - (j + 1)) ++ l.drop to := by
        conv => lhs; rw [← List.take_append_drop (to - (j + 1)) (l.drop (j + 1)), List.drop_drop]
        congr 2; omega
      have := CandOf.o (l := l) (l.take j) _ (l.drop to) x y (by rw [← hdr]; exact hl) hd
      rw [hlen, List.length_take, Nat.min_eq_left (by omega)] at this
      exact this
    · exact absurd (show (3 : Int) = 2 from hk) (by decide)
  · split at hc
    · rename_i hk
      rcases hgf.cases with ⟨n, rfl, _⟩ | ⟨x, y, rfl, _⟩ | ⟨y, x, rfl, _⟩
      · exact absurd (show (1 : Int) = 3 from hk) (by decide)
      · exact absurd (show (2 : Int) = 3 from hk) (by decide)
      · unfold undersFrom at hc
        obtain ⟨fr, h1, rfl⟩ := List.mem_map.1 hc
        rw [List.mem_range'_1] at h1
        have hlen : ((l.drop fr).take (j - fr)).length = j - fr := by rw [List.length_take, List.length_drop]; omega
        have hd : (l.drop fr).take (j - fr) ≠ [] := by
          intro e
          have := congrArg List.length e
          rw [hlen] at this; simp at this; omega
        have htk : l.take j = l.take fr ++ (l.drop fr).take (j - fr) := by
          conv => lhs; rw [show j = fr + (j - fr) by omega, List.take_add]
        have := CandOf.u (l := l) (l.take fr) _ (l.drop (j + 1)) x y (by rw [← List.append_assoc, ← htk]; exact hl) hd
        rw [hlen, List.length_take, Nat.min_eq_left (by omega)] at this
        exact this
    · cases hc
theorem cand_in {l : List Ty} {c : Cand} (h : CandOf l c) : c ∈ candsFrom l 0 := by
  cases h with
  | o G d h x y e hd =>
    refine (candsFrom_mem l.length 0 (by omega)).2 ⟨G.length, Nat.zero_le _, by rw [e]; simp, ?_⟩
    have hf : l[G.length]? = some (Ty.o x y) := by rw [e]; simp
    have hlen : l.length = G.length + 1 + d.length + h.length := by rw [e]; simp; omega
    have hdp : 0 < d.length := List.length_pos_iff.2 hd
    unfold candsAt
    rw [hf]
    simp only
    rw [if_pos (Ty.kind_o x y)]
    unfold oversFrom
    refine List.mem_map.2 ⟨G.length + 1 + d.length, List.mem_range'_1.2 ⟨by omega, by omega⟩, ?_⟩
    unfold candO
    have e1 : l.drop (G.length + 1) = d ++ h := by rw [e]; simp [List.drop_append]
    have e2 : l.drop (G.length + 1 + d.length) = h := by rw [← List.drop_drop, e1]; simp
    have e3 : l.take G.length = G := by rw [e]; simp
    rw [e1, e2, e3, show G.length + 1 + d.length - (G.length + 1) = d.length by omega]
    simp [Ty.k1, Ty.o]
  | u G d h x y e hd =>
    refine (candsFrom_mem l.length 0 (by omega)).2 ⟨G.length + d.length, Nat.zero_le _, by rw [e]; simp, ?_⟩
    have e0 : l = (G ++ d) ++ Ty.u y x :: h := by rw [e]; simp
    have hf : l[G.length + d.length]? = some (Ty.u y x) := by rw [e0, ← List.length_append]; simp
    have hdp : 0 < d.length := List.length_pos_iff.2 hd
    unfold candsAt
    rw [hf]
    simp only
    rw [if_neg (by rw [Ty.kind_u]; decide), if_pos (Ty.kind_u y x)]
    unfold undersFrom
    refine List.mem_map.2 ⟨G.length, List.mem_range'_1.2 ⟨by omega, by omega⟩, ?_⟩
    unfold candU
    have e1 : l.drop G.length = d ++ Ty.u y x :: h := by rw [e]; simp
    have e2 : l.drop (G.length + d.length + 1) = h := by rw [Nat.add_assoc, ← List.drop_drop, e1]; simp [List.drop_append]
    have e3 : l.take G.length = G := by rw [e]; simp
    rw [e1, e2, e3, show G.length + d.length - G.length = d.length by omega]
    simp [Ty.k0, Ty.u]
/-- how many places there are for a step, at most -/
def roomL (n : Nat) : Nat := ((List.range n).map fun j => max (n - 1 - j) j).sum
theorem candsAt_room {l : List Ty} {i : Nat} (h : i < l.length) : (candsAt l i).length ≤ max (l.length - 1 - i) i := by
  unfold candsAt
  rw [List.getElem?_eq_getElem h]
  simp only
  split
  · unfold oversFrom
    rw [List.length_map, List.length_range']
    omega
  · split
    · unfold undersFrom
      rw [List.length_map, List.length_range']
      omega
    · simp
theorem sum_le_sum {f g : Nat → Nat} : ∀ L : List Nat, (∀ x ∈ L, f x ≤ g x) → (L.map f).sum ≤ (L.map g).sum
  | [], _ => Nat.le_refl _
  | x :: L, h => by
    have h1 := h x (by simp)
    have h2 := sum_le_sum L fun y hy => h y (by simp [hy])
    rw [List.map_cons, List.map_cons, List.sum_cons, List.sum_cons]
    omega
theorem candsFrom_room (l : List Ty) : (candsFrom l 0).length ≤ roomL l.length := by
  unfold candsFrom roomL
  rw [List.length_flatMap, Nat.sub_zero, ← List.range_eq_range']
  exact sum_le_sum _ fun j hj => candsAt_room (List.mem_range.1 hj)
theorem roomL_mono {a b : Nat} (h : a ≤ b) : roomL a ≤ roomL b := by
  induction b with
  | zero => rw [Nat.le_zero.1 h]; exact Nat.le_refl _
  | succ b ih =>
    rcases Nat.lt_or_ge b a with h1 | h1
    · rw [show a = b + 1 by omega]; exact Nat.le_refl _
    · refine Nat.le_trans (ih h1) ?_
      unfold roomL
      rw [List.range_succ, List.map_append, List.sum_append]
      exact Nat.le_trans (sum_le_sum (g := fun j => max (b + 1 - 1 - j) j) _ fun j _ => (by omega : max (b - 1 - j) j ≤ max (b + 1 - 1 - j) j)) (Nat.le_add_right _ _)
/-- how many steps there are for so many slashes (one more than t), at most -/
def capK (t : Nat) : Nat := if t ≤ 5 then (t + 1) * (15 - t) else max 2 (roomL (15 - t))
theorem capK_two (t : Nat) : 2 ≤ capK t := by
  unfold capK
  split
  · have : t = 0 ∨ t = 1 ∨ t = 2 ∨ t = 3 ∨ t = 4 ∨ t = 5 := by omega
    rcases this with rfl | rfl | rfl | rfl | rfl | rfl <;> decide
  · omega
theorem cands_cap {l : List Ty} {t : Nat} (hs : Ty.sls l = t + 1) (hl : l.length + (t + 1) ≤ 16) : (candsFrom l 0).length ≤ capK t := by
  unfold capK
  split
  · have h1 := candsFrom_len l l.length 0 (by omega)
    rw [List.drop_zero, hs] at h1
    exact Nat.le_trans h1 (Nat.mul_le_mul_left _ (by omega))
  · exact Nat.le_trans (candsFrom_room l) (Nat.le_trans (roomL_mono (by omega)) (Nat.le_max_right _ _))
/-- how many entries a search may lay at most -/
def cost : Nat → Nat
  | 0 => 1
  | t + 1 => 1 + capK t * (cost t + 1)
end Go.Proofs.Ytpmnlikgldacaaa

/- The search finds a proof where there is one, and how much it notes. Plain. -/
namespace Go.Proofs.Ytpmnlikgldacaaa
theorem cost_pos : ∀ t, 1 ≤ cost t
  | 0 => Nat.le_refl _
  | t + 1 => by rw [cost]; omega
theorem cost_double (t : Nat) : 2 * cost t ≤ cost (t + 1) := by
  rw [cost]
  have h2 := capK_two t
  calc 2 * cost t ≤ capK t * (cost t + 1) := Nat.mul_le_mul h2 (by omega)
    _ ≤ _ := by omega
theorem cost_mono {a b : Nat} (h : a ≤ b) : cost a ≤ cost b := by
  induction b with
  | zero => have : a = 0 := by omega
            rw [this]; exact Nat.le_refl _
  | succ b ih =>
    rcases Nat.lt_or_ge b a with h1 | h1
    · have : a = b + 1 := by omega
      rw [this]; exact Nat.le_refl _
    · have := ih h1
      have := cost_double b
      omega
theorem cost_add (a b : Nat) : cost a + cost b ≤ cost (a + b) + 1 := by
  rcases Nat.eq_zero_or_pos a with rfl | ha
  · rw [Nat.zero_add, cost]; omega
  rcases Nat.eq_zero_or_pos b with rfl | hb
  · have h0 : cost 0 = 1 := rfl
    show cost a + cost 0 ≤ cost a + 1
    omega
  have h1 := cost_mono (a := a) (b := a + b - 1) (by omega)
  have h2 := cost_mono (a := b) (b := a + b - 1) (by omega)
  have h3 := cost_double (a + b - 1)
  rw [show a + b - 1 + 1 = a + b by omega] at h3
  omega
def Goods (l : List Ty) : Prop := ∀ t ∈ l, Good t
/-- what is known to have no proof -/
def Snd (s : Ded) : Prop := ∀ x ∈ s, ¬ Dv x.1 x.2 ∧ Goods x.1 ∧ Good x.2
def SpecAt (r : Pf × Bool × Ded) (l : List Ty) (g : Ty) (s : Ded) : Prop := (r.2.1 = true ↔ Dv l g) ∧ Snd r.2.2 ∧ (r.2.1 = true → ∃ n, PfOf r.1 l g n) ∧ r.2.2.length ≤ s.length + cost (Ty.sls l + g.sl)
theorem Good.of_o {x y : Ty} (h : Good (Ty.o x y)) : Good x ∧ Good y := by
  rcases h.cases with ⟨n, e, _⟩ | ⟨a, b, e, h1, h2⟩ | ⟨a, b, e, _⟩
  · exact absurd (congrArg Ty.kind e) (show ¬ (2 : Int) = 1 by decide)
  · obtain ⟨rfl, rfl⟩ := Ty.o_inj e; exact ⟨h1, h2⟩
  · exact absurd e Ty.ne_ou
theorem Good.of_u {x y : Ty} (h : Good (Ty.u x y)) : Good x ∧ Good y := by
  rcases h.cases with ⟨n, e, _⟩ | ⟨a, b, e, _⟩ | ⟨a, b, e, h1, h2⟩
  · exact absurd (congrArg Ty.kind e) (show ¬ (3 : Int) = 1 by decide)
  · exact absurd e.symm Ty.ne_ou
  · obtain ⟨rfl, rfl⟩ := Ty.u_inj e; exact ⟨h1, h2⟩
theorem Goods.nil : Goods [] := fun t h => by cases h
theorem Goods.cons {x : Ty} {l : List Ty} (h : Good x) (hl : Goods l) : Goods (x :: l) := fun t ht => by
  rcases List.mem_cons.1 ht with rfl | ht
  · exact h
  · exact hl t ht
theorem Goods.app {l m : List Ty} (h : Goods l) (k : Goods m) : Goods (l ++ m) := fun t ht => by
  rcases List.mem_append.1 ht with ht | ht
  · exact h t ht
  · exact k t ht
theorem Goods.left {l m : List Ty} (h : Goods (l ++ m)) : Goods l := fun t ht => h t (List.mem_append_left _ ht)
theorem Goods.right {l m : List Ty} (h : Goods (l ++ m)) : Goods m := fun t ht => h t (List.mem_append_right _ ht)
theorem Goods.head {x : Ty} {l : List Ty} (h : Goods (x :: l)) : Good x := h x (by simp)
theorem Goods.tail {x : Ty} {l : List Ty} (h : Goods (x :: l)) : Goods l := fun t ht => h t (List.mem_cons_of_mem _ ht)
/-- what a candidate's parts are like -/
structure CandIn (L : List Ty) (c : Cand) : Prop where
  gd : Goods c.d
  gx : Good c.x
  gr : Goods c.rest
  sl : Ty.sls c.d + c.x.sl + Ty.sls c.rest + 1 = Ty.sls L
  len : c.d.length + c.rest.length = L.length
  dv : ∀ z, Dv c.d c.x → Dv c.rest z → Dv L z
  pf : ∀ {a b : Pf} {z : Ty} {n m : Nat}, PfOf a c.d c.x n → PfOf b c.rest z m → PfOf ⟨c.step, L, z, c.at_, c.num, [a, b]⟩ L z (n + m + 1)
theorem CandOf.in_ {L : List Ty} {c : Cand} (hL : Goods L) (h : CandOf L c) : CandIn L c := by
  cases h with
  | o G d h x y e hd =>
    subst e
    obtain ⟨g1, g2⟩ := hL.right.head.of_o
    refine ⟨hL.right.tail.left, g2, hL.left.app (.cons g1 hL.right.tail.right), ?_, ?_, fun z h1 h2 => .ol hd h1 h2, fun h1 h2 => .ol hd h1 h2⟩
    · simp only [Ty.sls_app, Ty.sls_cons, Ty.sl_o]; omega
    · simp only [List.length_append, List.length_cons]; omega
  | u G d h x y e hd =>
    subst e
    obtain ⟨g1, g2⟩ := hL.right.right.head.of_u
    refine ⟨hL.right.left, g1, hL.left.app (.cons g2 hL.right.right.tail), ?_, ?_, fun z h1 h2 => .ul hd h1 h2, fun h1 h2 => .ul hd h1 h2⟩
    · simp only [Ty.sls_app, Ty.sls_cons, Ty.sl_u]; omega
    · simp only [List.length_append, List.length_cons]; omega
theorem tryC_spec {pr : List Ty → Ty → Ded → Pf × Bool × Ded} {T : Nat} {L : List Ty} {z : Ty} (hpr : ∀ l g s, Goods l → Good g → Ty.sls l + g.sl ≤ T → l.length + (Ty.sls l + g.sl) ≤ 16 → Snd s → SpecAt (pr l g s) l g s)
    (hL : Goods L) (hz : Good z) (hT : Ty.sls L + z.sl = T + 1) (hK : L.length + (T + 1) ≤ 16) {p : Pf} (hp1 : p.left = L) (hp2 : p.goal = z) :
    ∀ (cs : List Cand) (s : Ded), (∀ c ∈ cs, CandOf L c) → Snd s → ((tryC pr p cs s).1 = none → ∀ c ∈ cs, ¬ (Dv c.d c.x ∧ Dv c.rest z)) ∧ (∀ q, (tryC pr p cs s).1 = some q → ∃ n, PfOf q L z n) ∧ Snd (tryC pr p cs s).2 ∧ (tryC pr p cs s).2.length ≤ s.length + cs.length * (cost T + 1)
  | [], s, _, hs => ⟨(fun _ c hc => by cases hc), (fun q h => by cases h), hs, Nat.le_add_right _ _⟩
  | c :: cs, s, hc, hs => by
    have ci := (hc c (by simp)).in_ hL
    have hsl := ci.sl
    have hle := ci.len
    have hca := cost_add (Ty.sls c.d + c.x.sl) (Ty.sls c.rest + z.sl)
    rw [show Ty.sls c.d + c.x.sl + (Ty.sls c.rest + z.sl) = T by omega] at hca
    obtain ⟨a1, a2, a3, a4⟩ := hpr c.d c.x s ci.gd ci.gx (by omega) (by omega) hs
    rw [tryC]
    unfold both
    generalize pr c.d c.x s = r at *
    rw [hp2]
    by_cases h1 : r.2.1 = true
    · obtain ⟨b1, b2, b3, b4⟩ := hpr c.rest z r.2.2 ci.gr hz (by omega) (by omega) a2
      simp only [h1, if_true]
      generalize pr c.rest z r.2.2 = q at *
      by_cases h2 : q.2.1 = true
      · simp only [h2, if_true]
        refine ⟨(fun h => by cases h), ?_, b2, by rw [List.length_cons, Nat.add_mul, Nat.one_mul]; omega⟩
        intro q' e
        injection e with e
        obtain ⟨n, hn⟩ := a3 h1
        obtain ⟨m, hm⟩ := b3 h2
        exact ⟨_, by rw [← e, hp1]; exact ci.pf hn hm⟩
      · rw [if_neg h2]
        obtain ⟨c1, c2, c3, c4⟩ := tryC_spec hpr hL hz hT hK hp1 hp2 cs q.2.2 (fun c' h => hc c' (by simp [h])) b2
        refine ⟨fun h c' hc' => ?_, c2, c3, by rw [List.length_cons, Nat.add_mul, Nat.one_mul]; omega⟩
        rcases List.mem_cons.1 hc' with rfl | hc'
        · exact fun hh => h2 (b1.2 hh.2)
        · exact c1 h c' hc'
    · rw [if_neg h1, if_neg (by simp)]
      show ((tryC pr p cs r.2.2).1 = none → _) ∧ (∀ q, (tryC pr p cs r.2.2).1 = some q → _) ∧ Snd (tryC pr p cs r.2.2).2 ∧ (tryC pr p cs r.2.2).2.length ≤ _
      obtain ⟨c1, c2, c3, c4⟩ := tryC_spec hpr hL hz hT hK hp1 hp2 cs r.2.2 (fun c' h => hc c' (by simp [h])) a2
      have hpos := cost_pos (Ty.sls c.rest + z.sl)
      refine ⟨fun h c' hc' => ?_, c2, c3, by rw [List.length_cons, Nat.add_mul, Nat.one_mul]; omega⟩
      rcases List.mem_cons.1 hc' with rfl | hc'
      · exact fun hh => h1 (a1.2 hh.1)
      · exact c1 h c' hc'
/-- a derivation of what is no function: by a part on the left -/
theorem Dv.base {l : List Ty} {g : Ty} (h : Dv l g) (h2 : g.kind ≠ 2) (h3 : g.kind ≠ 3) : l = [g] ∨ ∃ c, CandOf l c ∧ Dv c.d c.x ∧ Dv c.rest g := by
  cases h with
  | ax => exact .inl rfl
  | or_ => exact absurd (Ty.kind_o _ _) h2
  | ur => exact absurd (Ty.kind_u _ _) h3
  | ol hd p q => exact .inr ⟨_, .o _ _ _ _ _ rfl hd, p, q⟩
  | ul hd p q => exact .inr ⟨_, .u _ _ _ _ _ rfl hd, p, q⟩
theorem k0_o (x y : Ty) : (Ty.o x y).k0 = x := rfl
theorem k1_o (x y : Ty) : (Ty.o x y).k1 = y := rfl
theorem k0_u (x y : Ty) : (Ty.u x y).k0 = x := rfl
theorem k1_u (x y : Ty) : (Ty.u x y).k1 = y := rfl
theorem searchF_spec {pr : List Ty → Ty → Ded → Pf × Bool × Ded} {T : Nat} {l : List Ty} {g : Ty} (hpr : ∀ l g s, Goods l → Good g → Ty.sls l + g.sl < T → l.length + (Ty.sls l + g.sl) ≤ 16 → Snd s → SpecAt (pr l g s) l g s)
    (hl : Goods l) (hg : Good g) (hT : Ty.sls l + g.sl = T) (hK : l.length + T ≤ 16) (hne : l ≠ []) (s : Ded) (hs : Snd s) :
    ((searchF pr l g s).2.1 = true ↔ Dv l g) ∧ Snd (searchF pr l g s).2.2 ∧ ((searchF pr l g s).2.1 = true → ∃ n, PfOf (searchF pr l g s).1 l g n) ∧ (searchF pr l g s).2.2.length + 1 ≤ s.length + cost T := by
  have hcp := cost_pos T
  unfold searchF
  by_cases h0 : l = [g]
  · rw [if_pos h0]
    subst h0
    exact ⟨⟨fun _ => .ax g, fun _ => rfl⟩, hs, fun _ => ⟨1, .ax g⟩, by simp only; omega⟩
  rw [if_neg h0]
  rcases hg.cases with ⟨n, rfl, _⟩ | ⟨x, y, rfl, hx, hy⟩ | ⟨y, x, rfl, hy, hx⟩
  · rw [if_neg (by simp), if_neg (by simp)]
    have hgs : Ty.sl ⟨1, n, []⟩ = 0 := by rw [Ty.sl]; simp
    cases T with
    | zero =>
      have hnone : candsFrom l 0 = [] := by
        have := candsFrom_len l l.length 0 (by omega)
        rw [List.drop_zero, show Ty.sls l = 0 by omega, Nat.zero_mul] at this
        exact List.eq_nil_of_length_eq_zero (by omega)
      rw [hnone, tryC]
      refine ⟨⟨(fun h => by cases h), fun h => ?_⟩, hs, (fun h => by cases h), by simp only [cost]; omega⟩
      rcases h.base (by simp) (by simp) with e | ⟨c, hc, _⟩
      · exact absurd e h0
      · have := cand_in hc
        rw [hnone] at this; cases this
    | succ T =>
      obtain ⟨t1, t2, t3, t4⟩ := tryC_spec (p := ⟨0, l, ⟨1, n, []⟩, 0, 0, []⟩) (fun l' g' s' a b c d e => hpr l' g' s' a b (by omega) d e) hl hg (by omega) hK rfl rfl (candsFrom l 0) s (fun c hc => cand_of hl hc) hs
      have hcl := candsFrom_len l l.length 0 (by omega)
      rw [List.drop_zero] at hcl
      have hb : (candsFrom l 0).length * (cost T + 1) ≤ capK T * (cost T + 1) := Nat.mul_le_mul_right _ (cands_cap (by omega) (by omega))
      generalize tryC pr ⟨0, l, ⟨1, n, []⟩, 0, 0, []⟩ (candsFrom l 0) s = r at *
      obtain ⟨r1, r2⟩ := r
      cases r1 with
      | none =>
        refine ⟨⟨(fun h => by cases h), fun h => ?_⟩, t3, (fun h => by cases h), by simp only [cost] at t4 ⊢; omega⟩
        rcases h.base (by simp) (by simp) with e | ⟨c, hc, hh⟩
        · exact absurd e h0
        · exact absurd hh (t1 rfl c (cand_in hc))
      | some q =>
        obtain ⟨n', hq⟩ := t2 q rfl
        exact ⟨⟨fun _ => hq.dv, fun _ => rfl⟩, t3, fun _ => ⟨n', hq⟩, by simp only [cost] at t4 ⊢; omega⟩
  · rw [if_pos (Ty.kind_o x y), k0_o, k1_o]
    rw [Ty.sl_o] at hT
    obtain ⟨a1, a2, a3, a4⟩ := hpr (l ++ [y]) x s (hl.app (.cons hy .nil)) hx (by rw [Ty.sls_app, Ty.sls_cons, Ty.sls_nil]; omega) (by rw [Ty.sls_app, Ty.sls_cons, Ty.sls_nil, List.length_append]; simp only [List.length_singleton]; omega) hs
    generalize pr (l ++ [y]) x s = r at *
    refine ⟨⟨fun h => .or_ hne (a1.1 h), fun h => a1.2 h.inv_o⟩, a2, fun h => ?_, ?_⟩
    · obtain ⟨n, hn⟩ := a3 h
      exact ⟨_, .o hne hn⟩
    · rw [Ty.sls_app, Ty.sls_cons, Ty.sls_nil] at a4
      have := cost_double (T - 1)
      rw [show T - 1 + 1 = T by omega] at this
      have h2 := cost_pos (T - 1)
      rw [show Ty.sls l + (y.sl + 0) + x.sl = T - 1 by omega] at a4
      simp only at a4 ⊢; omega
  · rw [if_neg (by rw [Ty.kind_u]; decide), if_pos (Ty.kind_u y x), k0_u, k1_u]
    rw [Ty.sl_u] at hT
    obtain ⟨a1, a2, a3, a4⟩ := hpr (y :: l) x s (.cons hy hl) hx (by rw [Ty.sls_cons]; omega) (by rw [Ty.sls_cons, List.length_cons]; omega) hs
    generalize pr (y :: l) x s = r at *
    refine ⟨⟨fun h => .ur hne (a1.1 h), fun h => a1.2 h.inv_u⟩, a2, fun h => ?_, ?_⟩
    · obtain ⟨n, hn⟩ := a3 h
      exact ⟨_, .u hne hn⟩
    · rw [Ty.sls_cons] at a4
      have := cost_double (T - 1)
      rw [show T - 1 + 1 = T by omega] at this
      have h2 := cost_pos (T - 1)
      rw [show y.sl + Ty.sls l + x.sl = T - 1 by omega] at a4
      simp only at a4 ⊢; omega
theorem proofF_spec : ∀ (N : Nat) (l : List Ty) (g : Ty) (s : Ded), Goods l → Good g → Ty.sls l + g.sl < N → l.length + (Ty.sls l + g.sl) ≤ 16 → Snd s → SpecAt (proofF N l g s) l g s
  | 0, l, g, s, _, _, h, _, _ => by omega
  | N + 1, l, g, s, hl, hg, hN, hK, hs => by
    have hcp := cost_pos (Ty.sls l + g.sl)
    rw [proofF]
    unfold SpecAt
    by_cases h0 : l = [] ∨ levelB l g = false
    · rw [if_pos h0]
      refine ⟨⟨(fun h => by cases h), fun h => ?_⟩, hs, (fun h => by cases h), Nat.le_add_right _ _⟩
      rcases h0 with h0 | h0
      · exact absurd h0 h.ne
      · rw [h.lev] at h0; cases h0
    rw [if_neg h0]
    by_cases h1 : (l, g) ∈ s
    · rw [if_pos h1]
      exact ⟨⟨(fun h => by cases h), fun h => absurd h (hs _ h1).1⟩, hs, (fun h => by cases h), Nat.le_add_right _ _⟩
    rw [if_neg h1]
    obtain ⟨a1, a2, a3, a4⟩ := searchF_spec (T := Ty.sls l + g.sl) (fun l' g' s' b1 b2 b3 b4 b5 => proofF_spec N l' g' s' b1 b2 (by omega) b4 b5) hl hg rfl hK (fun e => h0 (.inl e)) s hs
    generalize searchF (proofF N) l g s = r at *
    by_cases h2 : r.2.1 = true
    · rw [if_pos h2]
      exact ⟨⟨fun _ => a1.1 h2, fun _ => h2⟩, a2, fun _ => a3 h2, by omega⟩
    · rw [if_neg h2]
      refine ⟨⟨(fun h => by cases h), fun h => absurd (a1.2 h) h2⟩, fun x hx => ?_, (fun h => by cases h), by simp only [List.length_cons] at a4 ⊢; omega⟩
      rcases List.mem_cons.1 hx with rfl | hx
      · exact ⟨fun h => h2 (a1.2 h), hl, hg⟩
      · exact a2 x hx
theorem cost_ten : cost 10 < 9000000000000000000 := by decide
/-- so many searches may be made one behind the other -/
theorem cost_many : 740 * cost 10 ≤ 9000000000000000000 := by decide
end Go.Proofs.Ytpmnlikgldacaaa

/- Abstract walks of functions, written by a program (wip/aw/aw.py): each equation is checked by the kernel. -/
namespace Go.Proofs.Ytpmnlikgldacaaa
open Go.RowKit

/-! slices.Concat[[]wordhoard/api.Part,wordhoard/api.Part] NOT TOLD: "slices.go:496" makeInterface; "slices.go:496" panic -/
def ac_slices_Concat_s_api_Part_api_Part : AC := (.seq (.reg 0) (.seq (.reg 1) (.seq (.seq (.reg 2) (.block 0 (.loop [3, 11] [(5, 6), (12, 23)] (.seq (.reg 3) (.seq (.cond (.tmp 12) .skip (.exit 0)) (.seq (.block 1 (.seq (.reg 4) (.seq (.reg 5) (.seq (.reg 6) (.cond (.tmp 20) (.reg 7) .skip))))) (.reg 8))))))) (.seq (.reg 9) (.seq (.seq (.reg 10) (.block 2 (.loop [6, 27] [(8, 9), (28, 35)] (.seq (.reg 11) (.seq (.cond (.tmp 28) .skip (.exit 2)) (.seq (.block 3 (.seq (.reg 12) (.reg 13))) (.reg 14))))))) (.seq (.reg 15) .ret))))))
def S_slices_Concat_s_api_Part_api_Part (a0 : AV) (Q : AV → AH → Prop) (H : AH) : Prop := (
 Pu Try.prog .len [a0] fun v10 =>
 LoopA Try.prog 2 (fun vs k =>
 Pu Try.prog (.bin .lss 3) [(vs.getD 1 .any), v10] fun v12 =>
 CdA v12
 (
 Pu Try.prog (.idx 1) [a0, (vs.getD 1 .any)] fun v13 =>
 RdS Try.prog (.ld 1 false) [v13] fun v14 =>
 Pu Try.prog .len [v14] fun v17 =>
 Pu Try.prog (.bin .add 3) [(vs.getD 0 .any), v17] fun v18 =>
 Pu Try.prog (.bin .lss 3) [v18, (.p (.int .i64 0))] fun v20 =>
 CdA v20
 (
 fun _ => False
 ) (
 Pu Try.prog (.bin .add 3) [(vs.getD 1 .any), (.p (.int .i64 1))] fun v22 =>
 k [v18, v22]
 )
 ) (
 Ca Try.prog (.fn (.func 68) [] []) [(.p (.slice none 0 0)), (vs.getD 0 .any)] fun v24 =>
 Pu Try.prog .len [a0] fun v26 =>
 LoopA Try.prog 2 (fun vs_15 k_14 =>
 Pu Try.prog (.bin .lss 3) [(vs_15.getD 1 .any), v26] fun v28 =>
 CdA v28
 (
 Pu Try.prog (.idx 1) [a0, (vs_15.getD 1 .any)] fun v29 =>
 RdS Try.prog (.ld 1 false) [v29] fun v30 =>
 Rg 4 fun b =>
 WrS Try.prog (b + 2) (.app 24 3 40) [(vs_15.getD 0 .any), v30] fun v33 =>
 Pu Try.prog (.bin .add 3) [(vs_15.getD 1 .any), (.p (.int .i64 1))] fun v34 =>
 k_14 [v33, v34]
 ) (
 Rt Try.prog H.nx (vs_15.getD 0 .any) Q
 )
 ) [v24, (.p (.int .i64 0))]
 )
 ) [(.p (.int .i64 0)), (.p (.int .i64 0))]
 ) H
theorem eq_slices_Concat_s_api_Part_api_Part (a0 : AV) (Q : AV → AH → Prop) (H : AH) : FnA Try.prog 36 (regsF Try.f45) ac_slices_Concat_s_api_Part_api_Part [.tm 2] [a0] H Q = S_slices_Concat_s_api_Part_api_Part a0 Q H := by kernel_rfl
theorem tri_slices_Concat_s_api_Part_api_Part {a0 : AV} {H : AH} {Q : AV → AH → Prop} (h : S_slices_Concat_s_api_Part_api_Part a0 Q H) : Tri Try.prog 45 [a0] H Q :=
  tri_of (Ms := [#[], #[], #[], #[], #[], #[], #[], #[], #[], #[], #[], #[], #[], #[], #[], #[]]) mixed Try.func45 rfl (by kernel_rfl) (by kernel_rfl) rfl (of_decide_eq_true rfl : 1 ≤ 36) (by rw [eq_slices_Concat_s_api_Part_api_Part a0 Q H]; exact h : FnA Try.prog 36 (regsF Try.f45) ac_slices_Concat_s_api_Part_api_Part [.tm 2] [a0] H Q)

/-! slices.Clone[[]wordhoard/api.Part,wordhoard/api.Part] -/
def ac_slices_Clone_s_api_Part_api_Part : AC := (.seq (.reg 0) (.seq (.seq (.reg 1) (.cond (.tmp 4) (.seq (.reg 2) .ret) .skip)) (.seq (.reg 3) .ret)))
def S_slices_Clone_s_api_Part_api_Part (a0 : AV) (Q : AV → AH → Prop) (H : AH) : Prop := (
 Pu Try.prog (.bin .eql 22) [a0, (.p (.slice none 0 0))] fun v4 =>
 CdA v4
 (
 Rt Try.prog H.nx (.p (.slice none 0 0)) Q
 ) (
 Rg 4 fun b =>
 Al (b + 0) (.bs 24 3 0 [.p (.int .i64 0), .p (.int .i64 0), .p (.slice none 0 0)] []) [] fun v5 =>
 WrS Try.prog (b + 2) (.app 24 3 40) [v5, a0] fun v7 =>
 Rt Try.prog H.nx v7 Q
 )
 ) H
theorem eq_slices_Clone_s_api_Part_api_Part (a0 : AV) (Q : AV → AH → Prop) (H : AH) : FnA Try.prog 8 (regsF Try.f49) ac_slices_Clone_s_api_Part_api_Part [.tm 2] [a0] H Q = S_slices_Clone_s_api_Part_api_Part a0 Q H := by kernel_rfl
theorem tri_slices_Clone_s_api_Part_api_Part {a0 : AV} {H : AH} {Q : AV → AH → Prop} (h : S_slices_Clone_s_api_Part_api_Part a0 Q H) : Tri Try.prog 49 [a0] H Q :=
  tri_of (Ms := [#[], #[], #[], #[]]) mixed Try.func49 rfl (by kernel_rfl) (by kernel_rfl) rfl (of_decide_eq_true rfl : 1 ≤ 8) (by rw [eq_slices_Clone_s_api_Part_api_Part a0 Q H]; exact h : FnA Try.prog 8 (regsF Try.f49) ac_slices_Clone_s_api_Part_api_Part [.tm 2] [a0] H Q)

/-! slices.Grow[[]wordhoard/api.Part,wordhoard/api.Part] NOT TOLD: "slices.go:424" makeInterface; "slices.go:424" panic -/
def ac_slices_Grow_s_api_Part_api_Part : AC := (.seq (.reg 0) (.cut [] [(5, 8)] (.seq (.reg 1) (.cond (.tmp 6) (.reg 2) .skip)) (.seq (.seq (.reg 3) (.seq (.reg 4) (.cond (.tmp 16) (.reg 5) .skip))) (.seq (.reg 6) .ret))))
def S_slices_Grow_s_api_Part_api_Part (a0 a1 : AV) (Q : AV → AH → Prop) (H : AH) : Prop := (
 CutA Try.prog 0 (fun k =>
 Pu Try.prog (.bin .lss 3) [a1, (.p (.int .i64 0))] fun v6 =>
 CdA v6
 (
 fun _ => False
 ) (
 k []
 )
 ) fun _ =>
 Pu Try.prog .cap [a0] fun v10 =>
 Pu Try.prog .len [a0] fun v12 =>
 Pu Try.prog (.bin .sub 3) [v10, v12] fun v13 =>
 Pu Try.prog (.bin .sub 3) [a1, v13] fun v14 =>
 Pu Try.prog (.bin .gtr 3) [v14, (.p (.int .i64 0))] fun v16 =>
 CdA v16
 (
 Rg 10 fun b =>
 Pu Try.prog .cap [a0] fun v19 =>
 Pu Try.prog (.slc 3 false true) [a0, v19] fun v20 =>
 WrS Try.prog (b + 5) (.apz 24 3 40 [.p (.int .i64 0), .p (.int .i64 0), .p (.slice none 0 0)]) [v20, v14] fun v22 =>
 Pu Try.prog .len [a0] fun v24 =>
 Pu Try.prog (.slc 3 false true) [v22, v24] fun v25 =>
 Rt Try.prog H.nx v25 Q
 ) (
 Rt Try.prog H.nx a0 Q
 )
 ) H
theorem eq_slices_Grow_s_api_Part_api_Part (a0 a1 : AV) (Q : AV → AH → Prop) (H : AH) : FnA Try.prog 27 (regsF Try.f68) ac_slices_Grow_s_api_Part_api_Part [.tm 4] [a0, a1] H Q = S_slices_Grow_s_api_Part_api_Part a0 a1 Q H := by kernel_rfl
theorem tri_slices_Grow_s_api_Part_api_Part {a0 a1 : AV} {H : AH} {Q : AV → AH → Prop} (h : S_slices_Grow_s_api_Part_api_Part a0 a1 Q H) : Tri Try.prog 68 [a0, a1] H Q :=
  tri_of (Ms := [#[], #[], #[], #[], #[], #[], #[]]) mixed Try.func68 rfl (by kernel_rfl) (by kernel_rfl) rfl (of_decide_eq_true rfl : 2 ≤ 27) (by rw [eq_slices_Grow_s_api_Part_api_Part a0 a1 Q H]; exact h : FnA Try.prog 27 (regsF Try.f68) ac_slices_Grow_s_api_Part_api_Part [.tm 4] [a0, a1] H Q)
end Go.Proofs.Ytpmnlikgldacaaa

/- Parts of speech: slashes, rows made of rows, copies: both programs. -/
namespace Go.Proofs.Ytpmnlikgldacaaa
open Go.RowKit Go.Maps
theorem Ty.len_sizes : ∀ ks : List Ty, ks.length ≤ Ty.sizes ks := fun ks => by
  induction ks with
  | nil => simp
  | cons a r ih => rw [Ty.sizes, List.length_cons]; have := a.size_pos; omega
theorem Ty.sls_len : ∀ ks : List Ty, Ty.sls ks ≤ Ty.sizes ks := fun ks => by
  suffices h : ∀ (N : Nat) (ks : List Ty), Ty.sizes ks ≤ N → Ty.sls ks ≤ Ty.sizes ks from h _ ks (Nat.le_refl _)
  intro N
  induction N with
  | zero => intro ks h; cases ks with
    | nil => rw [Ty.sls]; omega
    | cons t r => rw [Ty.sizes] at h; have := t.size_pos; omega
  | succ N ih =>
    intro ks
    induction ks with
    | nil => intro _; rw [Ty.sls]; omega
    | cons t r ihr =>
      intro h
      rw [Ty.sizes] at h ⊢
      rw [Ty.sls]
      have h1 := ihr (by omega)
      have hp := t.size_eq
      have h2 := ih t.kids (by omega)
      have h3 : t.sl ≤ 1 + Ty.sls t.kids := by
        obtain ⟨k, n, l⟩ := t
        rw [Ty.sl]; split <;> simp only <;> omega
      omega
theorem Ty.sl_eq (t : Ty) : t.sl = if t.kind = 1 then 0 else 1 + Ty.sls t.kids := by cases t; rw [Ty.sl]
theorem Ty.sls_take {ks : List Ty} {k : Nat} {x : Ty} (h : ks[k]? = some x) : Ty.sls (ks.take (k + 1)) = Ty.sls (ks.take k) + x.sl := by
  rw [List.take_add_one, h, Option.toList_some, Ty.sls_app, Ty.sls_cons, Ty.sls_nil]; omega
theorem Ty.sls_takele (ks : List Ty) (k : Nat) : Ty.sls (ks.take k) ≤ Ty.sls ks := by
  conv => rhs; rw [← List.take_append_drop k ks, Ty.sls_app]
  omega
theorem c_slashesN (N : Nat) : ∀ ks : List Ty, Ty.sizes ks ≤ N → N ≤ 1000000 → ∀ H : AH, Tri Try.prog 46 [tE ks] H (fun r H' => H' = H ∧ r = iv (Ty.sls ks)) := by
  induction N with
  | zero =>
    intro ks hk _ H
    have : ks = [] := by
      cases ks with
      | nil => rfl
      | cons t r => rw [Ty.sizes] at hk; have := t.size_pos; omega
    subst this
    refine tri_wf fun hw => tri_speech_slashes ?_
    unfold S_speech_slashes tE
    simp (disch := first | omega | simp) [iv]
    refine loop_st (fun s : Unit => [iv 0, iv 0]) (fun _ H' => H = H') (fun _ => 0) () (.refl (Nat.le_refl _)) rfl ?_
    rintro _ _ _ rfl k hk
    unfold S_speech_slashes_L1
    simp (disch := first | omega | simp) [iv]
    exact rt_one hw (by repeat (first | with_reducible assumption | with_reducible exact AH.le.refl _ | with_reducible apply AH.le.up | (with_reducible refine AH.le.put hw ?_ ?_; · first | omega | (simp only [up_nx, put_nx, kill_nx]; done) | (simp only [up_nx, put_nx, kill_nx]; omega)) | (with_reducible refine AH.le.kill hw ?_ ?_; · first | omega | (simp only [up_nx, put_nx, kill_nx]; done) | (simp only [up_nx, put_nx, kill_nx]; omega)))) (by repeat (first | exact Cl.p _ | exact Cl.dsl _ _ | exact Cl.any | refine Cl.tup ?_ | refine Cl.agg ?_ | exact Clo.nil | refine Clo.cons ?_ ?_)) ⟨rfl, by simp [Ty.sls_nil]⟩
  | succ N ih =>
    intro ks hks hN H
    have hlk : ks.length ≤ Ty.sizes ks := Ty.len_sizes ks
    refine tri_wf fun hw => tri_speech_slashes ?_
    unfold S_speech_slashes tE
    simp (disch := first | omega | simp) [iv]
    refine loop_st (fun s : Nat × Nat => [iv s.1, iv s.2]) (fun s H' => H.le H' ∧ H.nx ≤ H'.nx ∧ s.2 ≤ ks.length ∧ s.1 = Ty.sls (ks.take s.2)) (fun s => ks.length - s.2) (0, 0) (.refl (Nat.le_refl _)) ⟨(by repeat (first | with_reducible assumption | with_reducible exact AH.le.refl _ | with_reducible apply AH.le.up | (with_reducible refine AH.le.put hw ?_ ?_; · first | omega | (simp only [up_nx, put_nx, kill_nx]; done) | (simp only [up_nx, put_nx, kill_nx]; omega)) | (with_reducible refine AH.le.kill hw ?_ ?_; · first | omega | (simp only [up_nx, put_nx, kill_nx]; done) | (simp only [up_nx, put_nx, kill_nx]; omega)))), (by first | omega | (simp only [up_nx, put_nx, kill_nx]; done) | (simp only [up_nx, put_nx, kill_nx]; omega)), Nat.zero_le _, by rw [List.take_zero, Ty.sls_nil]⟩ ?_
    rintro ⟨n, i⟩ H1 hn1 ⟨hle, hnx, hi, hn⟩ k hk
    dsimp only at hi hn hk
    unfold S_speech_slashes_L1
    have htl := Ty.sls_takele ks i
    have hsz := Ty.sls_len ks
    by_cases hil : i < ks.length
    · obtain ⟨x, hx⟩ : ∃ x, ks[i]? = some x := ⟨_, List.getElem?_eq_getElem hil⟩
      have hxg : ∀ h, ks[i]'h = x := fun h => (List.getElem?_eq_some_iff.1 hx).2
      have hiv := ivn (i := i) (by omega)
      have hxs := Ty.sizes_mem (List.mem_of_getElem? hx)
      have htk := Ty.sls_take hx
      have htl2 := Ty.sls_takele ks (i + 1)
      have hxe := x.size_eq
      have hse := x.sl_eq
      by_cases hk1 : x.kind = 1
      · rw [if_pos hk1] at hse
        simp (disch := first | omega | simp) [iv, hil, hxg, hiv, Ty.cs_len, Ty.cs_g0, Ty.cs_take, hk1]
        exact hk (n, i + 1) _ _ _ (.refl (by first | omega | (simp only [up_nx, put_nx]; done) | (simp only [up_nx, put_nx]; omega))) ⟨(by repeat (first | with_reducible assumption | with_reducible exact AH.le.refl _ | with_reducible apply AH.le.up | (with_reducible refine AH.le.put hw ?_ ?_; · first | omega | (simp only [up_nx, put_nx, kill_nx]; done) | (simp only [up_nx, put_nx, kill_nx]; omega)) | (with_reducible refine AH.le.kill hw ?_ ?_; · first | omega | (simp only [up_nx, put_nx, kill_nx]; done) | (simp only [up_nx, put_nx, kill_nx]; omega)))), (by first | omega | (simp only [up_nx, put_nx]; done) | (simp only [up_nx, put_nx]; omega)), hil, by dsimp only; omega⟩ (by dsimp only; omega)
      · rw [if_neg hk1] at hse
        simp (disch := first | omega | simp) [iv, hil, hxg, Ty.cs_len, Ty.cs_g0, Ty.cs_g2, Ty.cs_take, hk1]
        refine ca_pure (by kernel_rfl) (ih x.kids (by omega) (by omega) _) ?_
        have hw1 : IntKind.i64.wrap (1 + (Ty.sls x.kids : Int)) = 1 + (Ty.sls x.kids : Int) := wrapI (by omega) (by omega)
        have hw2 : IntKind.i64.wrap ((n : Int) + (1 + (Ty.sls x.kids : Int))) = ((n + x.sl : Nat) : Int) := by rw [wrapI (by omega) (by omega), hse]; omega
        simp (disch := first | omega | simp) [iv, hiv, hw1, hw2]
        exact hk (n + x.sl, i + 1) _ _ _ (.refl (by first | omega | (simp only [up_nx, put_nx]; done) | (simp only [up_nx, put_nx]; omega))) ⟨(by repeat (first | with_reducible assumption | with_reducible exact AH.le.refl _ | with_reducible apply AH.le.up | (with_reducible refine AH.le.put hw ?_ ?_; · first | omega | (simp only [up_nx, put_nx, kill_nx]; done) | (simp only [up_nx, put_nx, kill_nx]; omega)) | (with_reducible refine AH.le.kill hw ?_ ?_; · first | omega | (simp only [up_nx, put_nx, kill_nx]; done) | (simp only [up_nx, put_nx, kill_nx]; omega)))), (by first | omega | (simp only [up_nx, put_nx]; done) | (simp only [up_nx, put_nx]; omega)), hil, by dsimp only; omega⟩ (by dsimp only; omega)
    · simp (disch := first | omega | simp) [iv, hil]
      have hie : ks.take i = ks := List.take_of_length_le (by omega)
      exact rt_one hw (by repeat (first | with_reducible assumption | with_reducible exact AH.le.refl _ | with_reducible apply AH.le.up | (with_reducible refine AH.le.put hw ?_ ?_; · first | omega | (simp only [up_nx, put_nx, kill_nx]; done) | (simp only [up_nx, put_nx, kill_nx]; omega)) | (with_reducible refine AH.le.kill hw ?_ ?_; · first | omega | (simp only [up_nx, put_nx, kill_nx]; done) | (simp only [up_nx, put_nx, kill_nx]; omega)))) (by repeat (first | exact Cl.p _ | exact Cl.dsl _ _ | exact Cl.any | refine Cl.tup ?_ | refine Cl.agg ?_ | exact Clo.nil | refine Clo.cons ?_ ?_)) ⟨rfl, by rw [hn, hie]⟩
theorem c_slashes (ks : List Ty) (h : Ty.sizes ks ≤ 1000000) : PF Try.prog 46 [tE ks] (iv (Ty.sls ks)) := fun H => c_slashesN _ ks (Nat.le_refl _) h H
theorem c_RSlashesN (N : Nat) : ∀ ks : List Ty, Ty.sizes ks ≤ N → N ≤ 1000000 → ∀ H : AH, Tri Try.prog 37 [tE ks] H (fun r H' => H' = H ∧ r = iv (Ty.sls ks)) := by
  induction N with
  | zero =>
    intro ks hk _ H
    have : ks = [] := by
      cases ks with
      | nil => rfl
      | cons t r => rw [Ty.sizes] at hk; have := t.size_pos; omega
    subst this
    refine tri_wf fun hw => tri_wordhoardref_Slashes ?_
    unfold S_wordhoardref_Slashes tE
    simp (disch := first | omega | simp) [iv]
    refine loop_st (fun s : Unit => [iv 0, iv 0]) (fun _ H' => H = H') (fun _ => 0) () (.refl (Nat.le_refl _)) rfl ?_
    rintro _ _ _ rfl k hk
    unfold S_wordhoardref_Slashes_L1
    simp (disch := first | omega | simp) [iv]
    exact rt_one hw (by repeat (first | with_reducible assumption | with_reducible exact AH.le.refl _ | with_reducible apply AH.le.up | (with_reducible refine AH.le.put hw ?_ ?_; · first | omega | (simp only [up_nx, put_nx, kill_nx]; done) | (simp only [up_nx, put_nx, kill_nx]; omega)) | (with_reducible refine AH.le.kill hw ?_ ?_; · first | omega | (simp only [up_nx, put_nx, kill_nx]; done) | (simp only [up_nx, put_nx, kill_nx]; omega)))) (by repeat (first | exact Cl.p _ | exact Cl.dsl _ _ | exact Cl.any | refine Cl.tup ?_ | refine Cl.agg ?_ | exact Clo.nil | refine Clo.cons ?_ ?_)) ⟨rfl, by simp [Ty.sls_nil]⟩
  | succ N ih =>
    intro ks hks hN H
    have hlk : ks.length ≤ Ty.sizes ks := Ty.len_sizes ks
    refine tri_wf fun hw => tri_wordhoardref_Slashes ?_
    unfold S_wordhoardref_Slashes tE
    simp (disch := first | omega | simp) [iv]
    refine loop_st (fun s : Nat × Nat => [iv s.1, iv s.2]) (fun s H' => H.le H' ∧ H.nx ≤ H'.nx ∧ s.2 ≤ ks.length ∧ s.1 = Ty.sls (ks.take s.2)) (fun s => ks.length - s.2) (0, 0) (.refl (Nat.le_refl _)) ⟨(by repeat (first | with_reducible assumption | with_reducible exact AH.le.refl _ | with_reducible apply AH.le.up | (with_reducible refine AH.le.put hw ?_ ?_; · first | omega | (simp only [up_nx, put_nx, kill_nx]; done) | (simp only [up_nx, put_nx, kill_nx]; omega)) | (with_reducible refine AH.le.kill hw ?_ ?_; · first | omega | (simp only [up_nx, put_nx, kill_nx]; done) | (simp only [up_nx, put_nx, kill_nx]; omega)))), (by first | omega | (simp only [up_nx, put_nx, kill_nx]; done) | (simp only [up_nx, put_nx, kill_nx]; omega)), Nat.zero_le _, by rw [List.take_zero, Ty.sls_nil]⟩ ?_
    rintro ⟨n, i⟩ H1 hn1 ⟨hle, hnx, hi, hn⟩ k hk
    dsimp only at hi hn hk
    unfold S_wordhoardref_Slashes_L1
    have htl := Ty.sls_takele ks i
    have hsz := Ty.sls_len ks
    by_cases hil : i < ks.length
    · obtain ⟨x, hx⟩ : ∃ x, ks[i]? = some x := ⟨_, List.getElem?_eq_getElem hil⟩
      have hxg : ∀ h, ks[i]'h = x := fun h => (List.getElem?_eq_some_iff.1 hx).2
      have hiv := ivn (i := i) (by omega)
      have hxs := Ty.sizes_mem (List.mem_of_getElem? hx)
      have htk := Ty.sls_take hx
      have htl2 := Ty.sls_takele ks (i + 1)
      have hxe := x.size_eq
      have hse := x.sl_eq
      by_cases hk1 : x.kind = 1
      · rw [if_pos hk1] at hse
        simp (disch := first | omega | simp) [iv, hil, hxg, hiv, Ty.cs_g0, hk1]
        exact hk (n, i + 1) _ _ _ (.refl (by first | omega | (simp only [up_nx, put_nx, kill_nx]; done) | (simp only [up_nx, put_nx, kill_nx]; omega))) ⟨(by repeat (first | with_reducible assumption | with_reducible exact AH.le.refl _ | with_reducible apply AH.le.up | (with_reducible refine AH.le.put hw ?_ ?_; · first | omega | (simp only [up_nx, put_nx, kill_nx]; done) | (simp only [up_nx, put_nx, kill_nx]; omega)) | (with_reducible refine AH.le.kill hw ?_ ?_; · first | omega | (simp only [up_nx, put_nx, kill_nx]; done) | (simp only [up_nx, put_nx, kill_nx]; omega)))), (by first | omega | (simp only [up_nx, put_nx, kill_nx]; done) | (simp only [up_nx, put_nx, kill_nx]; omega)), hil, by dsimp only; omega⟩ (by dsimp only; omega)
      · rw [if_neg hk1] at hse
        simp (disch := first | omega | simp) [iv, hil, hxg, Ty.cs_g0, Ty.cs_g2, hk1]
        refine ca_pure (by kernel_rfl) (ih x.kids (by omega) (by omega) _) ?_
        have hw1 : IntKind.i64.wrap (1 + (Ty.sls x.kids : Int)) = 1 + (Ty.sls x.kids : Int) := wrapI (by omega) (by omega)
        have hw2 : IntKind.i64.wrap ((n : Int) + (1 + (Ty.sls x.kids : Int))) = ((n + x.sl : Nat) : Int) := by rw [wrapI (by omega) (by omega), hse]; omega
        simp (disch := first | omega | simp) [iv, hiv, hw1, hw2]
        exact hk (n + x.sl, i + 1) _ _ _ (.refl (by first | omega | (simp only [up_nx, put_nx, kill_nx]; done) | (simp only [up_nx, put_nx, kill_nx]; omega))) ⟨(by repeat (first | with_reducible assumption | with_reducible exact AH.le.refl _ | with_reducible apply AH.le.up | (with_reducible refine AH.le.put hw ?_ ?_; · first | omega | (simp only [up_nx, put_nx, kill_nx]; done) | (simp only [up_nx, put_nx, kill_nx]; omega)) | (with_reducible refine AH.le.kill hw ?_ ?_; · first | omega | (simp only [up_nx, put_nx, kill_nx]; done) | (simp only [up_nx, put_nx, kill_nx]; omega)))), (by first | omega | (simp only [up_nx, put_nx, kill_nx]; done) | (simp only [up_nx, put_nx, kill_nx]; omega)), hil, by dsimp only; omega⟩ (by dsimp only; omega)
    · simp (disch := first | omega | simp) [iv, hil]
      have hie : ks.take i = ks := List.take_of_length_le (by omega)
      exact rt_one hw (by repeat (first | with_reducible assumption | with_reducible exact AH.le.refl _ | with_reducible apply AH.le.up | (with_reducible refine AH.le.put hw ?_ ?_; · first | omega | (simp only [up_nx, put_nx, kill_nx]; done) | (simp only [up_nx, put_nx, kill_nx]; omega)) | (with_reducible refine AH.le.kill hw ?_ ?_; · first | omega | (simp only [up_nx, put_nx, kill_nx]; done) | (simp only [up_nx, put_nx, kill_nx]; omega)))) (by repeat (first | exact Cl.p _ | exact Cl.dsl _ _ | exact Cl.any | refine Cl.tup ?_ | refine Cl.agg ?_ | exact Clo.nil | refine Clo.cons ?_ ?_)) ⟨rfl, by rw [hn, hie]⟩
theorem c_RSlashes (ks : List Ty) (h : Ty.sizes ks ≤ 1000000) : PF Try.prog 37 [tE ks] (iv (Ty.sls ks)) := fun H => c_RSlashesN _ ks (Nat.le_refl _) h H
section
variable {P : Program}
/-- an empty slice, told by its value -/
theorem tri_empty {f : FuncId} {ps : List AV} {H : AH} {Q : AV → AH → Prop} (i sz : Nat) (hi : ps[i]? = some (.dsl sz [])) (h : ∀ A c, c ≤ maxLen → Tri P f (ps.set i (.p (.slice A 0 c))) H Q) : Tri P f ps H Q := fun w S σ us hs hr => by
  obtain ⟨v, hv, hrv⟩ := hr.at_ hi
  obtain ⟨A, c, z, rfl, h1, h2, _⟩ := hrv.dsl_inv.dsl_inv
  refine h A c (by omega) w S σ us hs ⟨by rw [List.length_set]; exact hr.1, fun j b u hb hu => ?_⟩
  by_cases e : i = j
  · subst e
    rw [List.getElem?_set_self (List.getElem?_eq_some_iff.1 hi).1] at hb
    injection hb with hb; subst hb
    rw [hv] at hu; injection hu with hu; subst hu
    exact .data _ _ (.p _ rfl)
  · rw [List.getElem?_set_ne e] at hb; exact hr.2 j b u hb hu
end
theorem c_CloneP {H : AH} (l : List Ty) (hb : l.length * 40 ≤ 140737488355328) : Tri Try.prog 49 [tE l] H (fun v H' => Grows 24 3 H H' v (l.map Ty.cs) ∧ H.le H' ∧ H.nx ≤ H'.nx) := tri_wf fun hw => by
  have hml : maxLen = 9223372036854775807 := by decide
  have hu : ∃ e, Try.prog.underlying 22 = some (.slice e) := ⟨24, by kernel_rfl⟩
  unfold tE
  cases l with
  | nil =>
    refine tri_empty 0 3 rfl fun A c hc => tri_slices_Clone_s_api_Part_api_Part ?_
    unfold S_slices_Clone_s_api_Part_api_Part
    cases A with
    | none =>
      simp
      exact rt_refl ⟨.nil _ _ _ _, .refl _, Nat.le_refl _⟩ (Nat.le_refl _)
    | some b =>
      simp
      exact rt_refl ⟨.row (by first | omega | (simp only [up_nx, put_nx, kill_nx]; done) | (simp only [up_nx, put_nx, kill_nx]; omega)) (by first | omega | (simp only [up_nx, put_nx, kill_nx]; done) | (simp only [up_nx, put_nx, kill_nx]; omega)) (put_get _ _) (fun e he => by cases he) rfl, (by repeat (first | with_reducible assumption | with_reducible exact AH.le.refl _ | with_reducible apply AH.le.up | (with_reducible refine AH.le.put hw ?_ ?_; · first | omega | (simp only [up_nx, put_nx, kill_nx]; done) | (simp only [up_nx, put_nx, kill_nx]; omega)) | (with_reducible refine AH.le.kill hw ?_ ?_; · first | omega | (simp only [up_nx, put_nx, kill_nx]; done) | (simp only [up_nx, put_nx, kill_nx]; omega)))), (by first | omega | (simp only [up_nx, put_nx, kill_nx]; done) | (simp only [up_nx, put_nx, kill_nx]; omega))⟩ (by first | omega | (simp only [up_nx, put_nx, kill_nx]; done) | (simp only [up_nx, put_nx, kill_nx]; omega))
  | cons x xs =>
    refine tri_slices_Clone_s_api_Part_api_Part ?_
    unfold S_slices_Clone_s_api_Part_api_Part
    have hpos : 0 < ((x :: xs).map Ty.cs).length := by simp
    have hlen : ((x :: xs).map Ty.cs).length = (x :: xs).length := by simp
    have hdt := dt_ty (x :: xs)
    generalize (x :: xs).map Ty.cs = ys at *
    simp
    exact ⟨hpos, by omega, by omega, rt_refl ⟨.row (by first | omega | (simp only [up_nx, put_nx, kill_nx]; done) | (simp only [up_nx, put_nx, kill_nx]; omega)) (by first | omega | (simp only [up_nx, put_nx, kill_nx]; done) | (simp only [up_nx, put_nx, kill_nx]; omega)) (put_get _ _) hdt rfl, (by repeat (first | with_reducible assumption | with_reducible exact AH.le.refl _ | with_reducible apply AH.le.up | (with_reducible refine AH.le.put hw ?_ ?_; · first | omega | (simp only [up_nx, put_nx, kill_nx]; done) | (simp only [up_nx, put_nx, kill_nx]; omega)) | (with_reducible refine AH.le.kill hw ?_ ?_; · first | omega | (simp only [up_nx, put_nx, kill_nx]; done) | (simp only [up_nx, put_nx, kill_nx]; omega)))), (by first | omega | (simp only [up_nx, put_nx, kill_nx]; done) | (simp only [up_nx, put_nx, kill_nx]; omega))⟩ (by first | omega | (simp only [up_nx, put_nx, kill_nx]; done) | (simp only [up_nx, put_nx, kill_nx]; omega))⟩
theorem c_Grow {H : AH} {n : Int} (h0 : 0 ≤ n) (h1 : n * 40 ≤ 140737488355328) : Tri Try.prog 68 [.p (.slice none 0 0), iv n] H (fun v H' => Grows 24 3 H H' v [] ∧ H.le H' ∧ H.nx ≤ H'.nx) := tri_wf fun hw => tri_slices_Grow_s_api_Part_api_Part (by
  have hml : maxLen = 9223372036854775807 := by decide
  unfold S_slices_Grow_s_api_Part_api_Part
  refine cut_st (α := Unit) (fun _ => []) (fun _ H' => H' = H) (fun k hk => ?_) ?_
  · simp [iv]
    exact ⟨h0, fun _ => hk () _ _ _ (.refl (Nat.le_refl _)) rfl⟩
  · rintro _ _ _ rfl
    have hz : IntKind.i64.wrap (0 - 0) = 0 := by decide
    have hz2 : IntKind.i64.wrap 0 = 0 := by decide
    have hz3 : IntKind.i64.wrap n = n := by rw [IntKind.wrap_i64]; omega
    simp [iv, hz2, hz3]
    refine ⟨fun h => ⟨h0, by omega, h1, by omega, ?_⟩, fun h => ?_⟩
    · refine rt_refl ⟨?_, (by repeat (first | with_reducible assumption | with_reducible exact AH.le.refl _ | with_reducible apply AH.le.up | (with_reducible refine AH.le.put hw ?_ ?_; · first | omega | (simp only [up_nx, put_nx, kill_nx]; done) | (simp only [up_nx, put_nx, kill_nx]; omega)) | (with_reducible refine AH.le.kill hw ?_ ?_; · first | omega | (simp only [up_nx, put_nx, kill_nx]; done) | (simp only [up_nx, put_nx, kill_nx]; omega)))), (by first | omega | (simp only [up_nx, put_nx]; done) | (simp only [up_nx, put_nx]; omega))⟩ (by first | omega | (simp only [up_nx, put_nx]; done) | (simp only [up_nx, put_nx]; omega))
      refine .inr ⟨_, _, rfl, (by first | omega | (simp only [up_nx, put_nx, kill_nx]; done) | (simp only [up_nx, put_nx, kill_nx]; omega)), (by first | omega | (simp only [up_nx, put_nx]; done) | (simp only [up_nx, put_nx]; omega)), put_get _ _, rfl, fun e he a ha => ?_⟩
      rw [List.mem_replicate] at he
      rw [he.2] at ha
      simp at ha
      rcases ha with rfl | rfl | rfl <;> exact Dt.p _
    · exact rt_refl ⟨.nil _ _ _ _, .refl _, Nat.le_refl _⟩ (Nat.le_refl _))
theorem flat_take {α : Type} {ls : List (List α)} {i : Nat} {l : List α} (h : ls[i]? = some l) : (ls.take (i + 1)).flatten = (ls.take i).flatten ++ l := by
  rw [List.take_add_one, h]; simp
theorem flat_take_le {α : Type} {ls : List (List α)} {i : Nat} : (ls.take i).flatten.length ≤ ls.flatten.length := by
  conv => rhs; rw [← List.take_append_drop i ls, List.flatten_append, List.length_append]
  omega
def tot {α : Type} (ls : List (List α)) (i : Nat) : Nat := (ls.take i).flatten.length
theorem tot_succ {α : Type} {ls : List (List α)} {i : Nat} {l : List α} (h : ls[i]? = some l) : tot ls (i + 1) = tot ls i + l.length := by unfold tot; rw [flat_take h, List.length_append]
theorem tot_le {α : Type} {ls : List (List α)} {i : Nat} : tot ls i ≤ ls.flatten.length := flat_take_le
/-- a row of rows of parts, wherever it lies -/
def PartsAt (H : AH) (x : AV) (ls : List (List Ty)) : Prop := ∃ bs : List AV, elF H 1 x = some (bs.map fun b => [b]) ∧ bs.length = ls.length ∧ ∀ (i : Nat) (l : List Ty), ls[i]? = some l → ∃ b, bs[i]? = some b ∧ elF H 3 b = some (l.map Ty.cs)
theorem PartsAt.le {H H' : AH} {x : AV} {ls : List (List Ty)} (h : PartsAt H x ls) (hle : H.le H') : PartsAt H' x ls := by
  obtain ⟨bs, h1, h2, h3⟩ := h
  exact ⟨bs, elF_le h1 hle, h2, fun i l hl => by obtain ⟨b, e1, e2⟩ := h3 i l hl; exact ⟨b, e1, elF_le e2 hle⟩⟩
theorem PartsAt.len {H : AH} {x : AV} {ls : List (List Ty)} (h : PartsAt H x ls) (P : Program) (k : AV → AH → Prop) (H' : AH) : Pu P .len [x] k H' = k (.p (.int .i64 (ls.length : Int))) H' := by
  obtain ⟨bs, h1, h2, _⟩ := h
  rw [elF_len h1, List.length_map, h2]
theorem PartsAt.acc {H : AH} {x : AV} {ls : List (List Ty)} (h : PartsAt H x ls) {i : Nat} {l : List Ty} (hl : ls[i]? = some l) : ∃ (q : Nat → AV) (b : AV), (∀ (P : Program) (kd : IntKind) (k : AV → AH → Prop) (H' : AH), Pu P (.idx 1) [x, .p (.int kd (i : Int))] k H' = k (q 0) H') ∧ atF H (q 0) = some [b] ∧ elF H 3 b = some (l.map Ty.cs) ∧ ∀ H', H.le H' → atF H' (q 0) = some [b] := by
  obtain ⟨bs, h1, h2, h3⟩ := h
  obtain ⟨b, k1, k2⟩ := h3 i l hl
  obtain ⟨q, q1, q2, q3⟩ := elF_acc (by decide) h1 (i := i) (e := [b]) (by rw [List.getElem?_map, k1]; rfl)
  exact ⟨q, b, q1, q3 0, k2, fun H' hle => atF_iff.1 ((atF_iff.2 (q3 0)).le hle)⟩
theorem c_join {H : AH} {x : AV} (ls : List (List Ty)) (h : PartsAt H x ls) (hb : ls.flatten.length * 40 ≤ 140737488355328) (hl : ls.length ≤ 1000000) : Tri Try.prog 36 [x] H (fun r H' => H' = H ∧ r = tE ls.flatten) := tri_wf fun hw => tri_wordhoardref_join (by
  have hml : maxLen = 9223372036854775807 := by decide
  unfold S_wordhoardref_join
  refine loop_st (fun s : Nat × AV => [s.2, iv s.1]) (fun s H' => Grows 24 3 H H' s.2 ((ls.take s.1).flatten.map Ty.cs) ∧ H.le H' ∧ H.nx ≤ H'.nx ∧ s.1 ≤ ls.length) (fun s => ls.length - s.1) (0, .p (.slice none 0 0)) (.refl (Nat.le_refl _)) ⟨.nil _ _ _ _, (by repeat (first | with_reducible assumption | with_reducible exact AH.le.refl _ | with_reducible apply AH.le.up | (with_reducible refine AH.le.put hw ?_ ?_; · first | omega | (simp only [up_nx, put_nx, kill_nx]; done) | (simp only [up_nx, put_nx, kill_nx]; omega)) | (with_reducible refine AH.le.kill hw ?_ ?_; · first | omega | (simp only [up_nx, put_nx, kill_nx]; done) | (simp only [up_nx, put_nx, kill_nx]; omega)))), (by first | omega | (simp only [up_nx, put_nx, kill_nx]; done) | (simp only [up_nx, put_nx, kill_nx]; omega)), Nat.zero_le _⟩ ?_
  rintro ⟨i, v⟩ H1 hn1 ⟨hg, hle, hn, hi⟩ k hk
  dsimp only at hi hg hk
  unfold S_wordhoardref_join_L1
  by_cases hil : i < ls.length
  · obtain ⟨l, hl1⟩ : ∃ l, ls[i]? = some l := ⟨_, List.getElem?_eq_getElem hil⟩
    obtain ⟨q, b, q1, q2, q3, q4⟩ := h.acc hl1
    have hiv := ivn (i := i) (by omega)
    have hlej := tot_le (ls := ls) (i := i + 1)
    rw [tot_succ hl1] at hlej
    unfold tot at hlej
    simp (disch := first | omega | simp) [iv, h.len, hil, q1, q4 (H1.up 7) (by repeat (first | with_reducible assumption | with_reducible exact AH.le.refl _ | with_reducible apply AH.le.up | (with_reducible refine AH.le.put hw ?_ ?_; · first | omega | (simp only [up_nx, put_nx, kill_nx]; done) | (simp only [up_nx, put_nx, kill_nx]; omega)) | (with_reducible refine AH.le.kill hw ?_ ?_; · first | omega | (simp only [up_nx, put_nx, kill_nx]; done) | (simp only [up_nx, put_nx, kill_nx]; omega))))]
    refine Grows.app (H1 := H1.up 7) hw (hg.keep (Nat.le_add_right _ _) fun _ _ _ h => h) (by repeat (first | with_reducible assumption | with_reducible exact AH.le.refl _ | with_reducible apply AH.le.up | (with_reducible refine AH.le.put hw ?_ ?_; · first | omega | (simp only [up_nx, put_nx, kill_nx]; done) | (simp only [up_nx, put_nx, kill_nx]; omega)) | (with_reducible refine AH.le.kill hw ?_ ?_; · first | omega | (simp only [up_nx, put_nx, kill_nx]; done) | (simp only [up_nx, put_nx, kill_nx]; omega)))) (by first | omega | (simp only [up_nx, put_nx, kill_nx]; done) | (simp only [up_nx, put_nx, kill_nx]; omega)) (by first | omega | (simp only [up_nx]; done) | (simp only [up_nx]; omega)) (elF_le q3 (by repeat (first | with_reducible assumption | with_reducible exact AH.le.refl _ | with_reducible apply AH.le.up | (with_reducible refine AH.le.put hw ?_ ?_; · first | omega | (simp only [up_nx, put_nx, kill_nx]; done) | (simp only [up_nx, put_nx, kill_nx]; omega)) | (with_reducible refine AH.le.kill hw ?_ ?_; · first | omega | (simp only [up_nx, put_nx, kill_nx]; done) | (simp only [up_nx, put_nx, kill_nx]; omega))))) (dt_ty _) (by rw [List.length_map, List.length_map]; omega) (by rw [List.length_map, List.length_map]; omega) fun v' H3 g3 l3 n3 _ _ => ?_
    rw [q_add_i, hiv]
    exact hk (i + 1, v') _ _ _ (.refl (by rw [n3]; exact Nat.le_trans hn1 (Nat.le_add_right _ _))) ⟨by rw [flat_take hl1, List.map_append]; exact g3, l3, by rw [n3]; exact Nat.le_trans hn (Nat.le_add_right _ _), hil⟩ (by dsimp only; omega)
  · simp (disch := first | omega | simp) [iv, h.len, hil]
    have hjj : i = ls.length := by omega
    subst hjj
    rw [List.take_length] at hg
    exact hg.rt hw hle hn ⟨rfl, rfl⟩)
theorem c_Concat {H : AH} {x : AV} (ls : List (List Ty)) (h : PartsAt H x ls) (hb : ls.flatten.length * 40 ≤ 140737488355328) (hl : ls.length ≤ 1000000) : Tri Try.prog 45 [x] H (fun r H' => H' = H ∧ r = tE ls.flatten) := tri_wf fun hw => tri_slices_Concat_s_api_Part_api_Part (by
  have hml : maxLen = 9223372036854775807 := by decide
  unfold S_slices_Concat_s_api_Part_api_Part
  simp (disch := first | omega | simp) [h.len]
  refine loop_st (fun i : Nat => [iv (tot ls i), iv i]) (fun i H' => H = H' ∧ i ≤ ls.length) (fun i => ls.length - i) 0 (.refl (Nat.le_refl _)) ⟨rfl, Nat.zero_le _⟩ ?_
  rintro i _ _ ⟨rfl, hi⟩ k hk
  simp only [iv]
  by_cases hi2 : i < ls.length
  · obtain ⟨l, hg⟩ : ∃ l, ls[i]? = some l := ⟨_, List.getElem?_eq_getElem hi2⟩
    obtain ⟨q, b, q1, q2, q3, q4⟩ := h.acc hg
    have hle := tot_le (ls := ls) (i := i + 1)
    rw [tot_succ hg] at hle
    have hws : IntKind.i64.wrap ((tot ls i : Int) + (l.length : Int)) = (tot ls (i + 1) : Int) := by rw [tot_succ hg, IntKind.wrap_i64]; omega
    have hbl : ∀ (k : AV → AH → Prop) (H' : AH), Pu Try.prog .len [b] k H' = k (.p (.int .i64 (l.length : Int))) H' := fun k H' => by rw [elF_len q3, List.length_map]
    have hiv := ivn (i := i) (by omega)
    simp (disch := first | omega | simp) [hi2, q1, q2, hbl, hws, hiv]
    exact hk (i + 1) _ _ _ (.refl (Nat.le_refl _)) ⟨rfl, hi2⟩ (by omega)
  · have hii : i = ls.length := by omega
    simp (disch := first | omega | simp) [hi2]
    have htot : tot ls i = ls.flatten.length := by unfold tot; rw [hii, List.take_length]
    have hfl : ls.flatten.length * 40 ≤ 140737488355328 := hb
    refine ca_of (by kernel_rfl) (c_Grow (by omega) (by omega)) ?_
    rintro v H1 ⟨hg, hle, hn⟩
    simp (disch := first | omega | simp) [h.len]
    refine loop_st (fun x : Nat × AV => [x.2, iv x.1]) (fun x H' => Grows 24 3 H H' x.2 ((ls.take x.1).flatten.map Ty.cs) ∧ H.le H' ∧ H.nx ≤ H'.nx ∧ x.1 ≤ ls.length) (fun x => ls.length - x.1) (0, v) (.refl (Nat.le_refl _)) ⟨by simpa using hg, hle, hn, Nat.zero_le _⟩ ?_
    rintro ⟨j, u⟩ H2 hn2 ⟨g2, hle2, hn3, hj⟩ k2 hk2
    dsimp only at g2 hj
    simp only [iv]
    by_cases hj2 : j < ls.length
    · obtain ⟨l, hgj⟩ : ∃ l, ls[j]? = some l := ⟨_, List.getElem?_eq_getElem hj2⟩
      obtain ⟨q, b, q1, q2, q3, q4⟩ := h.acc hgj
      have hlej := tot_le (ls := ls) (i := j + 1)
      rw [tot_succ hgj] at hlej
      unfold tot at hlej
      have hiv := ivn (i := j) (by omega)
      simp (disch := first | omega | simp) [hj2, q1, q4 H2 (by repeat (first | with_reducible assumption | with_reducible exact AH.le.refl _ | with_reducible apply AH.le.up | (with_reducible refine AH.le.put hw ?_ ?_; · first | omega | (simp only [up_nx, put_nx, kill_nx]; done) | (simp only [up_nx, put_nx, kill_nx]; omega)) | (with_reducible refine AH.le.kill hw ?_ ?_; · first | omega | (simp only [up_nx, put_nx, kill_nx]; done) | (simp only [up_nx, put_nx, kill_nx]; omega))))]
      refine Grows.app (H1 := H2.up 4) hw (g2.keep (Nat.le_add_right _ _) fun _ _ _ h => h) (by repeat (first | with_reducible assumption | with_reducible exact AH.le.refl _ | with_reducible apply AH.le.up | (with_reducible refine AH.le.put hw ?_ ?_; · first | omega | (simp only [up_nx, put_nx, kill_nx]; done) | (simp only [up_nx, put_nx, kill_nx]; omega)) | (with_reducible refine AH.le.kill hw ?_ ?_; · first | omega | (simp only [up_nx, put_nx, kill_nx]; done) | (simp only [up_nx, put_nx, kill_nx]; omega)))) (by first | omega | (simp only [up_nx, put_nx, kill_nx]; done) | (simp only [up_nx, put_nx, kill_nx]; omega)) (by first | omega | (simp only [up_nx]; done) | (simp only [up_nx]; omega)) (elF_le q3 (by repeat (first | with_reducible assumption | with_reducible exact AH.le.refl _ | with_reducible apply AH.le.up | (with_reducible refine AH.le.put hw ?_ ?_; · first | omega | (simp only [up_nx, put_nx, kill_nx]; done) | (simp only [up_nx, put_nx, kill_nx]; omega)) | (with_reducible refine AH.le.kill hw ?_ ?_; · first | omega | (simp only [up_nx, put_nx, kill_nx]; done) | (simp only [up_nx, put_nx, kill_nx]; omega))))) (dt_ty _) (by rw [List.length_map, List.length_map]; omega) (by rw [List.length_map, List.length_map]; omega) fun v' H3 g3 l3 n3 _ _ => ?_
      rw [q_add_i, hiv]
      exact hk2 (j + 1, v') _ _ _ (.refl (by rw [n3]; exact Nat.le_trans hn2 (Nat.le_add_right _ _))) ⟨by rw [flat_take hgj, List.map_append]; exact g3, l3, by rw [n3]; exact Nat.le_trans hn3 (Nat.le_add_right _ _), hj2⟩ (by simp only; omega)
    · simp (disch := first | omega | simp) [hj2]
      have hjj : j = ls.length := by omega
      subst hjj
      rw [List.take_length] at g2
      exact g2.rt hw hle2 hn3 ⟨rfl, rfl⟩)
end Go.Proofs.Ytpmnlikgldacaaa
