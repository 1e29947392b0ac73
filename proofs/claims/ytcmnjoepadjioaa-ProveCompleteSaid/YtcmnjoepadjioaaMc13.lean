/- Texts that the proof rests on, part 13: what each holds stands at its head. -/
import Derived.Test.YtcmnjoepadjioaaMc12

/- The reference: what follows. -/
namespace Go.Proofs.Ytcmnjoepadjioaa
open Go.RowKit Go.Maps
theorem c_RHoldsIn_el {H : AH} {a : AV} {xs : List Int} (ha : elF H 1 a = some (intE xs)) (hl : xs.length < 1000000000) (hx : ∀ x ∈ xs, inWd x) {c : Clm} (hc : c.ok) : Tri Try.prog 12 [a, c.av] H (fun v H' => H' = H ∧ v = bv (holdsC (natL xs) c)) := tri_wf fun hw => tri_wordhoardref_HoldsIn (by
  have hlen : (intE xs).length = xs.length := by simp [intE]
  have hle : H.le ((H.up 2).put H.nx (.box 24 c.cs)) := (by repeat (first | with_reducible assumption | with_reducible exact AH.le.refl _ | with_reducible apply AH.le.up | (with_reducible refine AH.le.put hw ?_ ?_; · first | omega | (simp only [up_nx, put_nx, kill_nx]; done) | (simp only [up_nx, put_nx, kill_nx]; omega)) | (with_reducible refine AH.le.kill hw ?_ ?_; · first | omega | (simp only [up_nx, put_nx, kill_nx]; done) | (simp only [up_nx, put_nx, kill_nx]; omega))))
  unfold Clm.cs at hle
  unfold S_wordhoardref_HoldsIn Clm.av
  simp
  refine loop_st (fun i : Nat => [iv i]) (fun i H' => H' = (H.up 2).put H.nx (.box 24 c.cs) ∧ i ≤ xs.length ∧ ∀ y ∈ xs.take i, holds1 y.toNat c = false) (fun i => xs.length - i) 0 (.refl (Nat.le_refl _)) ⟨rfl, Nat.zero_le _, by simp⟩ ?_
  rintro i _ _ ⟨rfl, hi, hno⟩ k hk
  by_cases hi2 : i < xs.length
  · have hg := List.getElem?_eq_getElem hi2
    obtain ⟨n, hn⟩ := Int.eq_ofNat_of_zero_le (hx _ (List.getElem_mem hi2)).1
    have hn2 : n < 64 := by have := (hx _ (List.getElem_mem hi2)).2; omega
    have hnat : (xs[i]).toNat = n := by rw [hn]; rfl
    have hany : holds1 n c = true → holdsC (natL xs) c = c.so := fun h => by
      unfold holdsC natL
      rw [List.any_map, show xs.any ((fun w => holds1 w c) ∘ Int.toNat) = true from List.any_eq_true.2 ⟨_, List.getElem_mem hi2, by simp [hnat, h]⟩]
      cases c.so <;> rfl
    obtain ⟨q, q1, q2, q3⟩ := elF_acc (by decide) (elF_le ha hle) (i := i) (e := [iv n]) (by rw [← hn]; simp [intE, hg])
    simp (disch := first | omega | simp) [iv, elF_len ha, hlen, hi2, Clm.cs, q1, q3]
    refine cav_pure (by kernel_rfl) (fun H2 _ => c_RIs n (by omega) c.a hc.1 H2) ?_
    cases h1 : isL n c.a
    · simp [bv]
      rw [ivn (by omega)]
      exact hk (i + 1) _ _ _ (.refl (Nat.le_refl _)) ⟨rfl, hi2, any_take hno hg (by rw [hnat]; simp [holds1, h1])⟩ (by omega)
    · simp (disch := first | omega | simp) [bv, iv, hi2, Clm.cs, q1, q3]
      refine cav_pure (by kernel_rfl) (fun H2 _ => c_RIs n (by omega) c.b hc.2 H2) ?_
      simp [bv, Clm.cs]
      refine ⟨fun h2 => ?_, fun h2 => ?_⟩
      · refine rt_one hw (by repeat (first | with_reducible assumption | with_reducible exact AH.le.refl _ | with_reducible apply AH.le.up | (with_reducible refine AH.le.put hw ?_ ?_; · first | omega | (simp only [up_nx, put_nx, kill_nx]; done) | (simp only [up_nx, put_nx, kill_nx]; omega)) | (with_reducible refine AH.le.kill hw ?_ ?_; · first | omega | (simp only [up_nx, put_nx, kill_nx]; done) | (simp only [up_nx, put_nx, kill_nx]; omega)))) (by repeat (first | exact Cl.p _ | exact Cl.dsl _ _ | exact Cl.any | refine Cl.tup ?_ | refine Cl.agg ?_ | exact Clo.nil | refine Clo.cons ?_ ?_)) ⟨rfl, ?_⟩
        rw [hany (by simp [holds1, h1, h2])]
      · rw [ivn (by omega)]
        exact hk (i + 1) _ _ _ (.refl (Nat.le_refl _)) ⟨rfl, hi2, any_take hno hg (by rw [hnat]; simp [holds1, h1, h2])⟩ (by omega)
  · simp [iv, elF_len ha, hlen, hi2, Clm.cs]
    refine rt_one hw (by repeat (first | with_reducible assumption | with_reducible exact AH.le.refl _ | with_reducible apply AH.le.up | (with_reducible refine AH.le.put hw ?_ ?_; · first | omega | (simp only [up_nx, put_nx, kill_nx]; done) | (simp only [up_nx, put_nx, kill_nx]; omega)) | (with_reducible refine AH.le.kill hw ?_ ?_; · first | omega | (simp only [up_nx, put_nx, kill_nx]; done) | (simp only [up_nx, put_nx, kill_nx]; omega)))) (by repeat (first | exact Cl.p _ | exact Cl.dsl _ _ | exact Cl.any | refine Cl.tup ?_ | refine Cl.agg ?_ | exact Clo.nil | refine Clo.cons ?_ ?_)) ⟨rfl, ?_⟩
    rw [List.take_of_length_le (by omega)] at hno
    unfold holdsC natL
    rw [List.any_map, show xs.any ((fun w => holds1 w c) ∘ Int.toNat) = false from List.any_eq_false.2 fun y hy => by simp [hno y hy]]
    cases c.so <;> rfl)
def nobody (L : List Nat) (q : Clm) : Bool := !L.any fun w => holds1 w q
def sureB (L : List Nat) (c q : Clm) : Bool := L.all fun w => !holds1 w q || holdsC [w] c
theorem may_all {p : List Clm} {q : Clm} (hq : q ∈ p) (hs : q.so = false) {L : List Nat} (hL : ∀ w ∈ L, w ∈ mayL p) : holdsC L q = true :=
  (holds_all hs).2 fun w hw ha => (mem_may.1 (hL w hw)).2 q hq hs ha
theorem fol_nobody {p : List Clm} {c q : Clm} (hq : q ∈ p) (hs : q.so = true) (hn : nobody (mayL p) q = true) : agB p c = false := by
  cases h : agB p c with
  | false => rfl
  | true =>
    obtain ⟨w, hw, h1, h2⟩ := (agB_iff.1 h).2 q hq hs
    unfold nobody at hn
    rw [Bool.not_eq_true', List.any_eq_false] at hn
    exact absurd (by simp [holds1, h1, h2, hs]) (hn w (agW_may hw))
theorem fol_some {p : List Clm} {c : Clm} (hs : c.so = true) : (p.any fun q => q.so && sureB (mayL p) c q) = !agB p c := by
  unfold agB
  rw [hs, Bool.true_or, Bool.true_and, all_not_any, Bool.not_not, Bool.eq_iff_iff, List.any_eq_true, List.any_eq_true]
  have key : ∀ q ∈ p, (q.so && sureB (mayL p) c q) = !holdsC (agW p c) q := fun q hq => by
    cases hqs : q.so with
    | false => rw [may_all hq hqs fun w hw => agW_may hw]; rfl
    | true =>
      rw [Bool.true_and, Bool.eq_iff_iff, Bool.not_eq_true']
      have hag : agW p c = (mayL p).filter (fun w => !holds1 w c) := by unfold agW; rw [if_pos hs]
      have hh : holdsC (agW p c) q = (agW p c).any fun w => holds1 w q := by unfold holdsC; rw [hqs]; simp
      rw [hh, hag, List.any_eq_false, sureB, List.all_eq_true]
      constructor
      · intro h w hw
        obtain ⟨h1, h2⟩ := List.mem_filter.1 hw
        have := h w h1
        rw [holds_one, hs] at this
        simp at h2
        simp [h2] at this
        simp [this]
      · intro h w hw
        rw [holds_one, hs]
        cases hc : holds1 w c with
        | true => simp
        | false => have := h w (List.mem_filter.2 ⟨hw, by simp [hc]⟩); simp at this; simp [this]
  constructor
  · rintro ⟨q, hq, h⟩; exact ⟨q, hq, by rw [← key q hq]; exact h⟩
  · rintro ⟨q, hq, h⟩; exact ⟨q, hq, by rw [key q hq]; exact h⟩
theorem fol_all {p : List Clm} {c : Clm} (hs : c.so = false) (hn : ∀ q ∈ p, q.so = true → nobody (mayL p) q = false) : holdsC (mayL p) c = !agB p c := by
  have haw : agW p c = mayL p := by unfold agW; rw [if_neg (by rw [hs]; decide)]
  have hall : (p.all fun q => holdsC (mayL p) q) = true := List.all_eq_true.2 fun q hq => by
    cases hqs : q.so with
    | false => exact may_all hq hqs fun w hw => hw
    | true =>
      have := hn q hq hqs
      unfold nobody at this
      simp only [Bool.not_eq_false'] at this
      unfold holdsC; rw [this, hqs]; rfl
  unfold agB
  rw [haw, hall, hs]
  unfold holdsC
  rw [hs]; simp
theorem all_next {α : Type} {l : List α} {f : α → Bool} {i : Nat} {x : α} (h : l[i]? = some x) : (l.take (i + 1)).all f = ((l.take i).all f && f x) := by rw [List.take_add_one, h, List.all_append]; simp
theorem any_next {α : Type} {l : List α} {f : α → Bool} {i : Nat} {x : α} (h : l[i]? = some x) : (l.take (i + 1)).any f = ((l.take i).any f || f x) := by rw [List.take_add_one, h, List.any_append]; simp
theorem nI_at {L : List Nat} {k w : Nat} (h : L[k]? = some w) : (intE (nI L))[k]? = some [iv w] := by simp [intE, nI, h]
set_option maxHeartbeats 1000000 in
theorem c_RFollows (p : List Clm) (c : Clm) (hp : p.length ≤ 20) (hpo : ∀ q ∈ p, q.ok) (hco : c.ok) (H : AH) : Tri Try.prog 18 [cE p, c.av] H (fun r H' => H' = H ∧ r = bv (!agB p c)) := tri_wf fun hw => tri_wordhoardref_Follows (by
  unfold S_wordhoardref_Follows
  have hmx : maxLen = 9223372036854775807 := by decide
  simp (disch := first | omega | simp) [cE, Clm.av, Clm.cs, put_get_ne]
  refine loop_st (fun s : AV × Nat => [s.1, iv s.2]) (fun s H' => s.2 ≤ 64 ∧ H.le H' ∧ H.nx + 2 ≤ H'.nx ∧ H'.get H.nx = some (.box 24 c.cs) ∧ Grows 3 1 H H' s.1 (intE (nI ((List.range s.2).filter (mayB p))))) (fun s => 64 - s.2) (.p (.slice none 0 0), 0) (.refl (Nat.le_refl _)) ⟨Nat.zero_le _, (by repeat (first | with_reducible assumption | with_reducible exact AH.le.refl _ | with_reducible apply AH.le.up | (with_reducible refine AH.le.put hw ?_ ?_; · first | omega | (simp only [up_nx, put_nx, kill_nx]; done) | (simp only [up_nx, put_nx, kill_nx]; omega)) | (with_reducible refine AH.le.kill hw ?_ ?_; · first | omega | (simp only [up_nx, put_nx, kill_nx]; done) | (simp only [up_nx, put_nx, kill_nx]; omega)))), (by first | omega | (simp only [up_nx, put_nx, kill_nx]; done) | (simp only [up_nx, put_nx, kill_nx]; omega)), by rw [put_get]; rfl, (show Grows 3 1 H _ _ [] from .nil _ _ _ _)⟩ ?_
  rintro ⟨v, w⟩ H1 hn1 ⟨hwl, hle, hn, hcb, hv⟩ k hk
  dsimp only at hwl hv hk
  by_cases hw64 : w < 64
  · have hwi : (w : Int) < 64 := by omega
    have hwv := ivn (i := w) (by omega)
    have hrs : (List.range (w + 1)).filter (mayB p) = (List.range w).filter (mayB p) ++ if mayB p w then [w] else [] := by
      rw [List.range_succ, List.filter_append]; congr 1; simp [List.filter_cons]
    simp (disch := first | omega | simp) [iv, hwi]
    refine loop_st (fun s : Bool × Nat => [bv s.1, iv s.2]) (fun s H' => s.2 ≤ p.length ∧ Kp H1 H' ∧ s.1 = (p.take s.2).all fun q => q.so || holdsC [w] q) (fun s => p.length - s.2) (true, 0) (.refl (Nat.le_refl _)) ⟨Nat.zero_le _, .refl _, by simp⟩ ?_
    rintro ⟨b, i⟩ H2 hn2 ⟨hi, hkp, hb⟩ k2 hk2
    dsimp only at hi hb hk2
    by_cases hil : i < p.length
    · obtain ⟨q, hq⟩ : ∃ q, p[i]? = some q := ⟨_, List.getElem?_eq_getElem hil⟩
      have hqo := hpo q (List.mem_of_getElem? hq)
      have hpg : ∀ h, p[i]'h = q := fun h => (List.getElem?_eq_some_iff.1 hq).2
      have hiv := ivn (i := i) (by omega)
      have hnx := all_next (f := fun q => q.so || holdsC [w] q) hq
      rw [← hb] at hnx
      cases b with
      | false =>
        simp (disch := first | omega | simp) [iv, bv, hil, hiv]
        exact hk2 (false, i + 1) _ _ _ (.refl (by first | omega | (simp only [up_nx, put_nx, kill_nx]; done) | (simp only [up_nx, put_nx, kill_nx]; omega))) ⟨hil, (by repeat (first | with_reducible assumption | with_reducible exact Kp.refl _ | with_reducible apply Kp.up | (with_reducible refine Kp.put ?_ ?_; · first | omega | (simp only [up_nx, put_nx, kill_nx]; done) | (simp only [up_nx, put_nx, kill_nx]; omega)) | (with_reducible refine Kp.kill ?_ ?_; · first | omega | (simp only [up_nx, put_nx, kill_nx]; done) | (simp only [up_nx, put_nx, kill_nx]; omega)))), by dsimp only; rw [hnx]; rfl⟩ (by dsimp only; omega)
      | true =>
        cases hqs : q.so with
        | true =>
          simp (disch := first | omega | simp) [iv, bv, hil, hiv, hpg, Clm.cs, hqs]
          exact hk2 (true, i + 1) _ _ _ (.refl (by first | omega | (simp only [up_nx, put_nx, kill_nx]; done) | (simp only [up_nx, put_nx, kill_nx]; omega))) ⟨hil, (by repeat (first | with_reducible assumption | with_reducible exact Kp.refl _ | with_reducible apply Kp.up | (with_reducible refine Kp.put ?_ ?_; · first | omega | (simp only [up_nx, put_nx, kill_nx]; done) | (simp only [up_nx, put_nx, kill_nx]; omega)) | (with_reducible refine Kp.kill ?_ ?_; · first | omega | (simp only [up_nx, put_nx, kill_nx]; done) | (simp only [up_nx, put_nx, kill_nx]; omega)))), by dsimp only; rw [hnx, hqs]; rfl⟩ (by dsimp only; omega)
        | false =>
          have hqv : q.av = .agg [.p (.bool false), .p (.int .i64 q.a), .p (.int .i64 q.b)] := by unfold Clm.av Clm.cs; rw [hqs]
          have hc1 : ∀ H' a, elF H' 1 a = some (intE [(w : Int)]) → Tri Try.prog 12 [a, .agg [.p (.bool false), .p (.int .i64 q.a), .p (.int .i64 q.b)]] H' (fun v H'' => H'' = H' ∧ v = bv (holdsC [w] q)) := fun H' a ha => by
            rw [← hqv]
            exact c_RHoldsIn_el ha (by simp) (by intro x hx; simp at hx; subst hx; unfold inWd; omega) hqo
          simp (disch := first | omega | simp) [iv, bv, hil, hiv, hpg, Clm.cs, hqs]
          refine ca_pure (by kernel_rfl) (hc1 _ _ (by simp [intE, iv])) ?_
          simp (disch := first | omega | simp) [iv, bv, hil, hiv]
          exact hk2 (holdsC [w] q, i + 1) _ _ _ (.refl (by first | omega | (simp only [up_nx, put_nx, kill_nx]; done) | (simp only [up_nx, put_nx, kill_nx]; omega))) ⟨hil, (by repeat (first | with_reducible assumption | with_reducible exact Kp.refl _ | with_reducible apply Kp.up | (with_reducible refine Kp.put ?_ ?_; · first | omega | (simp only [up_nx, put_nx, kill_nx]; done) | (simp only [up_nx, put_nx, kill_nx]; omega)) | (with_reducible refine Kp.kill ?_ ?_; · first | omega | (simp only [up_nx, put_nx, kill_nx]; done) | (simp only [up_nx, put_nx, kill_nx]; omega)))), by dsimp only; rw [hnx, hqs]; rfl⟩ (by dsimp only; omega)
    · have hie : i = p.length := by omega
      subst hie
      rw [List.take_length] at hb
      have hmb : b = mayB p w := hb
      subst hmb
      have hv2 := hv.kp hkp
      have hle2 := hkp.le_of hle hw (by omega)
      have hn2' := hkp.1
      have hcb2 := hkp.get_ (by omega) hcb
      cases hm : mayB p w with
      | false =>
        simp (disch := first | omega | simp) [iv, bv, hwv]
        refine hk (v, w + 1) _ _ _ (.refl (by omega)) ⟨hw64, hle2, by omega, hcb2, ?_⟩ (by dsimp only; omega)
        dsimp only; rw [hrs, hm]; simpa using hv2
      | true =>
        have hlen : (intE (nI ((List.range w).filter (mayB p)))).length ≤ 64 := by
          simp only [intE, nI, List.length_map]
          have := List.length_filter_le (mayB p) (List.range w)
          rw [List.length_range] at this; omega
        have hcn : ∀ n, v ≠ .osl H.nx 1 0 n := hv2.not fun xs e => by rw [hcb2] at e; cases e
        simp (disch := first | omega | simp) [iv, bv, hwv]
        refine Grows.app (t := 3) hw (hv2.kp (by repeat (first | with_reducible assumption | with_reducible exact Kp.refl _ | with_reducible apply Kp.up | (with_reducible refine Kp.put ?_ ?_; · first | omega | (simp only [up_nx, put_nx, kill_nx]; done) | (simp only [up_nx, put_nx, kill_nx]; omega)) | (with_reducible refine Kp.kill ?_ ?_; · first | omega | (simp only [up_nx, put_nx, kill_nx]; done) | (simp only [up_nx, put_nx, kill_nx]; omega))))) (by repeat (first | with_reducible assumption | with_reducible exact AH.le.refl _ | with_reducible apply AH.le.up | (with_reducible refine AH.le.put hw ?_ ?_; · first | omega | (simp only [up_nx, put_nx, kill_nx]; done) | (simp only [up_nx, put_nx, kill_nx]; omega)) | (with_reducible refine AH.le.kill hw ?_ ?_; · first | omega | (simp only [up_nx, put_nx, kill_nx]; done) | (simp only [up_nx, put_nx, kill_nx]; omega)))) (by first | omega | (simp only [up_nx, put_nx, kill_nx]; done) | (simp only [up_nx, put_nx, kill_nx]; omega)) (by first | omega | (simp only [up_nx, put_nx, kill_nx]; done) | (simp only [up_nx, put_nx, kill_nx]; omega)) (ys := [[iv w]]) ?_ (dt_ints [(w : Int)]) ?_ ?_ fun v' H3 g2 l2 n3 k3 hfr => ?_
        · simp [iv]
        · simp; omega
        · simp; omega
        rw [q_add_i, hwv]
        have n3' : H3.nx = H2.nx + 5 := by rw [n3]; simp only [up_nx, put_nx]
        refine hk (v', w + 1) _ _ _ (.refl (by omega)) ⟨hw64, l2, by omega, ?_, ?_⟩ (by dsimp only; omega)
        · rw [k3 _ (by omega) hcn]; simp (disch := first | omega | simp) [put_get_ne]; exact hcb2
        · dsimp only; rw [hrs, hm]; simpa [nI, intE, iv] using g2
  have hw6 : w = 64 := by omega
  subst hw6
  have hmay : (List.range 64).filter (mayB p) = mayL p := rfl
  rw [hmay] at hv
  have hml : (mayL p).length ≤ 64 := by
    have := List.length_filter_le (mayB p) (List.range 64)
    rw [List.length_range] at this
    simp only [mayL]; omega
  obtain ⟨L, hL⟩ : ∃ L, L = mayL p := ⟨_, rfl⟩
  have hLlt : ∀ w ∈ L, w < 64 := by rw [hL]; exact may_lt
  rw [← hL] at hv hml
  have hll : (intE (nI L)).length = L.length := by simp [intE, nI]
  have hlenv : ∀ (k : AV → AH → Prop) (H' : AH), Pu Try.prog .len [v] k H' = k (.p (.int .i64 (L.length : Int))) H' := fun k H' => by rw [hv.len, hll]
  have hcb' := hcb
  unfold Clm.cs at hcb
  simp (disch := first | omega | simp) [iv]
  refine ⟨H1, .refl H1, ?_⟩
  refine loop_st (fun s : Bool × Nat => [bv s.1, iv s.2]) (fun s H' => H' = H1 ∧ s.2 ≤ p.length ∧ (s.1 = (p.take s.2).any fun q => q.so && sureB L c q) ∧ ∀ q ∈ p.take s.2, q.so = true → nobody L q = false) (fun s => p.length - s.2) (false, 0) (.refl (Nat.le_refl _)) ⟨rfl, Nat.zero_le _, by simp, by simp⟩ ?_
  rintro ⟨lead, i⟩ H2 hn2 ⟨rfl, hi, hld, hno⟩ k2 hk2
  dsimp only at hi hld hno hk2
  by_cases hil : i < p.length
  · obtain ⟨q, hq⟩ : ∃ q, p[i]? = some q := ⟨_, List.getElem?_eq_getElem hil⟩
    have hqm := List.mem_of_getElem? hq
    have hqo := hpo q hqm
    have hpg : ∀ h, p[i]'h = q := fun h => (List.getElem?_eq_some_iff.1 hq).2
    have hiv := ivn (i := i) (by omega)
    have hnx := any_next (f := fun q => q.so && sureB L c q) hq
    rw [← hld] at hnx
    cases hqs : q.so with
    | false =>
      simp (disch := first | omega | simp) [iv, bv, hil, hiv, hpg, Clm.cs, hqs]
      refine hk2 (lead, i + 1) _ _ _ (.refl hn2) ⟨rfl, hil, by dsimp only; rw [hnx, hqs]; simp, fun y hy hys => ?_⟩ (by dsimp only; omega)
      dsimp only at hy
      rw [List.take_add_one, hq] at hy
      rcases List.mem_append.1 hy with hy | hy
      · exact hno y hy hys
      · simp at hy; subst hy; rw [hqs] at hys; cases hys
    | true =>
      have hqv : q.av = .agg [.p (.bool true), .p (.int .i64 q.a), .p (.int .i64 q.b)] := by unfold Clm.av Clm.cs; rw [hqs]
      simp (disch := first | omega | simp) [iv, bv, hil, hiv, hpg, Clm.cs, hqs]
      refine loop_st (fun s : (Bool × Bool) × Nat => [bv s.1.1, bv s.1.2, iv s.2]) (fun s H' => H' = H2 ∧ s.2 ≤ L.length ∧ s.1.1 = nobody (L.take s.2) q ∧ s.1.2 = sureB (L.take s.2) c q) (fun s => L.length - s.2) ((true, true), 0) (.refl (Nat.le_refl _)) ⟨rfl, Nat.zero_le _, by simp [nobody], by simp [sureB]⟩ ?_
      rintro ⟨⟨nb, sr⟩, j⟩ H3 hn3 ⟨rfl, hj, hnb, hsr⟩ k3 hk3
      dsimp only at hj hnb hsr hk3
      by_cases hjl : j < L.length
      · obtain ⟨w, hwj⟩ : ∃ w, L[j]? = some w := ⟨_, List.getElem?_eq_getElem hjl⟩
        have hw64 := hLlt w (List.mem_of_getElem? hwj)
        have hjv := ivn (i := j) (by omega)
        have hjL : (j : Int) + 1 ≤ (L.length : Int) := by omega
        have hjt : ((j : Int) + 1).toNat - j = 1 := by omega
        have hn1' := any_next (f := fun w => holds1 w q) hwj
        have hs1 := all_next (f := fun w => !holds1 w q || holdsC [w] c) hwj
        have hnb1 : nobody (L.take (j + 1)) q = (nobody (L.take j) q && !holds1 w q) := by unfold nobody; rw [hn1', Bool.not_or]
        have hsr1 : sureB (L.take (j + 1)) c q = (sureB (L.take j) c q && (!holds1 w q || holdsC [w] c)) := by unfold sureB; exact hs1
        have hnat : natL [(w : Int)] = [w] := by simp [natL]
        have hin : ∀ x ∈ [(w : Int)], inWd x := by intro x hx; simp at hx; subst hx; unfold inWd; omega
        rcases hv with ⟨_, h⟩ | ⟨r, xs, rfl, h2, h3, h4, h5, h6⟩
        · rw [h] at hll; simp at hll; omega
        have hxl : L.length ≤ xs.length := by have := congrArg List.length h5; rw [List.length_take, hll] at this; omega
        have hxj : xs[j]? = some [iv w] := by
          have := nI_at hwj
          rw [← h5, List.getElem?_take, if_pos (by omega)] at this
          exact this
        have he : elF H3 1 (.osl r 1 j 1) = some (intE [(w : Int)]) := by
          rw [elF_osl, h4, elRow_row _ _ _ _ _ (by omega)]
          congr 1
          have hjx : j < xs.length := by omega
          rw [List.drop_eq_getElem_cons hjx, (List.getElem?_eq_some_iff.1 hxj).2]
          simp [intE]
        rw [hll] at hlenv
        have hq1 : ∀ H2', H3.le H2' → Tri Try.prog 12 [.osl r 1 j 1, .agg [.p (.bool true), .p (.int .i64 q.a), .p (.int .i64 q.b)]] H2' (fun v H' => H' = H2' ∧ v = bv (holds1 w q)) := fun H2' hle' => by
          have := c_RHoldsIn_el (elF_le he hle') (by simp) hin hqo
          rw [hqv, hnat, holds_one, hqs] at this
          simpa using this
        have hc1 : ∀ H2', H3.le H2' → Tri Try.prog 12 [.osl r 1 j 1, .agg [.p (.bool c.so), .p (.int .i64 c.a), .p (.int .i64 c.b)]] H2' (fun v H' => H' = H2' ∧ v = bv (holdsC [w] c)) := fun H2' hle' => by
          have := c_RHoldsIn_el (elF_le he hle') (by simp) hin hco
          rw [hnat] at this
          exact this
        simp (disch := first | omega | simp) [iv, bv, hll, hlenv, hjl, hjv, hjL, hjt, hil, hpg, Clm.cs, hqs]
        refine ⟨by omega, cav_pure (by kernel_rfl) hq1 ?_⟩
        cases hh : holds1 w q with
        | false =>
          simp (disch := first | omega | simp) [iv, bv, hjv]
          refine hk3 ((nb, sr), j + 1) _ _ _ (.refl hn3) ⟨rfl, hjl, by dsimp only; rw [hnb1, hh, hnb]; simp, by dsimp only; rw [hsr1, hh, hsr]; simp⟩ (by dsimp only; omega)
        | true =>
          cases sr with
          | false =>
            simp (disch := first | omega | simp) [iv, bv, hjv]
            refine hk3 ((false, false), j + 1) _ _ _ (.refl hn3) ⟨rfl, hjl, by dsimp only; rw [hnb1, hh]; simp, by dsimp only; rw [hsr1, ← hsr]; rfl⟩ (by dsimp only; omega)
          | true =>
            simp (disch := first | omega | simp) [iv, bv, hll, hjv, hjL, hjt, hcb, Clm.cs]
            refine ⟨by omega, cav_pure (by kernel_rfl) hc1 ?_⟩
            simp (disch := first | omega | simp) [iv, bv, hjv]
            refine hk3 ((false, holdsC [w] c), j + 1) _ _ _ (.refl hn3) ⟨rfl, hjl, by dsimp only; rw [hnb1, hh]; simp, by dsimp only; rw [hsr1, ← hsr, hh]; rfl⟩ (by dsimp only; omega)
      · have hje : j = L.length := by omega
        subst hje
        rw [List.take_length] at hnb hsr
        simp (disch := first | omega | simp) [iv, bv, hlenv, hiv]
        refine ⟨fun h => rt_one hw hle (by repeat (first | exact Cl.p _ | exact Cl.dsl _ _ | exact Cl.any | refine Cl.tup ?_ | refine Cl.agg ?_ | exact Clo.nil | refine Clo.cons ?_ ?_)) ⟨rfl, ?_⟩, fun h => ?_⟩
        · rw [fol_nobody hqm hqs (c := c) (by rw [← hL, ← hnb]; exact h)]; rfl
        · have fin : k2 [bv (lead || sr), iv ((i + 1 : Nat) : Int)] H3 := hk2 (lead || sr, i + 1) _ _ _ (.refl hn2) ⟨rfl, hil, by dsimp only; rw [hnx, hqs, hsr]; rfl, fun y hy hys => by
              dsimp only at hy
              rw [List.take_add_one, hq] at hy
              rcases List.mem_append.1 hy with hy | hy
              · exact hno y hy hys
              · simp at hy; subst hy; rw [← hnb]; exact h⟩ (by dsimp only; omega)
          cases lead <;> simpa [bv, iv] using fin
  · have hie : i = p.length := by omega
    subst hie
    rw [List.take_length] at hld hno
    cases hso : c.so with
    | true =>
      simp (disch := first | omega | simp) [iv, bv, hcb, hso]
      refine rt_one hw hle (by repeat (first | exact Cl.p _ | exact Cl.dsl _ _ | exact Cl.any | refine Cl.tup ?_ | refine Cl.agg ?_ | exact Clo.nil | refine Clo.cons ?_ ?_)) ⟨rfl, ?_⟩
      rw [hld, hL, fol_some hso]
    | false =>
      simp (disch := first | omega | simp) [iv, bv, hcb, hso]
      have hcv : c.av = .agg [.p (.bool false), .p (.int .i64 c.a), .p (.int .i64 c.b)] := by unfold Clm.av Clm.cs; rw [hso]
      have := c_RHoldsIn_el hv.el (by simp [nI]; omega) (nI_in hLlt) hco
      rw [hcv, natL_nI] at this
      refine ca_pure (by kernel_rfl) this ?_
      refine rt_one hw hle (by repeat (first | exact Cl.p _ | exact Cl.dsl _ _ | exact Cl.any | refine Cl.tup ?_ | refine Cl.agg ?_ | exact Clo.nil | refine Clo.cons ?_ ?_)) ⟨rfl, ?_⟩
      rw [hL, fol_all hso (by rw [← hL]; exact hno)]; rfl)
end Go.Proofs.Ytcmnjoepadjioaa

/- Abstract walks of functions, written by a program (wip/aw/aw.py): each equation is checked by the kernel. -/
namespace Go.Proofs.Ytcmnjoepadjioaa
open Go.RowKit

/-! wordhoard/wordhoardref.SoundLine -/
def ac_wordhoardref_SoundLine : AC := (.seq (.reg 0) (.seq (.reg 1) (.seq (.reg 2) (.seq (.reg 3) (.seq (.seq (.reg 4) (.block 0 (.loop [9, 10] [(6, 7), (11, 12), (20, 65)] (.seq (.seq (.reg 5) (.cond (.tmp 24) .skip (.exit 0))) (.seq (.block 1 (.seq (.reg 6) (.seq (.seq (.reg 7) (.cond (.tmp 34) (.seq (.seq (.reg 8) (.cond (.tmp 42) (.seq (.reg 9) .ret) .skip)) (.seq (.reg 10) (.exit 1))) .skip)) (.seq (.seq (.reg 11) (.cond (.tmp 56) (.seq (.reg 12) .ret) .skip)) (.reg 13))))) (.reg 14)))))) (.seq (.seq (.reg 15) (.cond (.tmp 83) (.seq (.reg 16) .ret) .skip)) (.seq (.reg 17) (.cut [] [(84, 90)] (.seq (.reg 18) (.cond (.tmp 86) (.reg 19) .skip)) (.cut [] [(90, 96)] (.seq (.reg 20) (.cond (.tmp 92) (.reg 21) .skip)) (.seq (.seq (.reg 22) (.block 2 (.seq (.reg 23) (.cond (.tmp 98) (.seq (.reg 24) .ret) (.seq (.reg 25) (.cond (.tmp 103) (.seq (.reg 26) .ret) (.seq (.reg 27) (.cond (.tmp 115) (.seq (.reg 28) .ret) (.seq (.reg 29) (.cond (.tmp 151) (.seq (.reg 30) .ret) (.seq (.reg 31) (.cond (.tmp 177) (.seq (.reg 32) .ret) (.seq (.reg 33) (.cond (.tmp 202) (.seq (.reg 34) .ret) (.seq (.reg 35) (.cond (.tmp 227) (.seq (.reg 36) .ret) (.seq (.reg 37) (.cond (.tmp 249) (.seq (.reg 38) .ret) (.seq (.reg 39) (.cond (.tmp 271) (.seq (.reg 40) .ret) .skip)))))))))))))))))))) (.seq (.reg 41) .ret)))))))))))
def S_wordhoardref_SoundLine_C1 (a0 : AV) (a1 : AV) (a2 : AV) (Q : AV → AH → Prop) (H : AH) (v7 : AV) (k : List AV → AH → Prop) (vs : List AV) : AH → Prop :=
  Pu Try.prog (.addOff 4) [v7] fun v27 =>
  RdS Try.prog (.ld 1 false) [v27] fun v28 =>
  Pu Try.prog (.idx 1) [v28, (vs.getD 1 .any)] fun v30 =>
  RdS Try.prog (.ld 1 false) [v30] fun v31 =>
  Pu Try.prog (.addOff 0) [v7] fun v32 =>
  RdS Try.prog (.ld 1 false) [v32] fun v33 =>
  Pu Try.prog (.bin .eql 3) [v33, (.p (.int .i64 1))] fun v34 =>
  CdA v34
    (
    Pu Try.prog (.bin .lss 3) [v31, (.p (.int .i64 0))] fun v36 =>
    Gd v36 false (fun k_26 => k_26 v31) fun v38 =>
    Gd v36 false (fun k_28 => k_28 a0) fun v39 =>
    Gd v36 false (fun k_30 => Pu Try.prog .len [v39] k_30) fun v40 =>
    Gd v36 false (fun k_32 => Pu Try.prog (.bin .geq 3) [v38, v40] k_32) fun v41 =>
    Pu Try.prog .pick [v36, (.p (.bool true)), v41] fun v42 =>
    CdA v42
      (
      Rt Try.prog H.nx (.p (.bool false)) Q
      ) (
      Rg 8 fun b_34 =>
      Pu Try.prog (.idx 3) [a0, v31] fun v46 =>
      RdS Try.prog (.ld 3 true) [v46] fun v47 =>
      Al (b_34 + 5) (.bs 24 3 1 [.p (.bool false), .p (.int .i64 0), .p (.int .i64 0)] [(0, 3)]) [v47] fun v48 =>
      WrS Try.prog (b_34 + 6) (.app 24 3 24) [(vs.getD 0 .any), v48] fun v49 =>
      Pu Try.prog (.bin .add 3) [(vs.getD 1 .any), (.p (.int .i64 1))] fun v26 =>
      k [v49, v26]
      )
    ) (
    Pu Try.prog (.bin .lss 3) [v31, (.p (.int .i64 0))] fun v51 =>
    Gd v51 false (fun k_42 => k_42 v31) fun v53 =>
    Gd v51 false (fun k_44 => k_44 a2) fun v54 =>
    Gd v51 false (fun k_46 => Pu Try.prog (.bin .geq 3) [v53, v54] k_46) fun v55 =>
    Pu Try.prog .pick [v51, (.p (.bool true)), v55] fun v56 =>
    CdA v56
      (
      Rt Try.prog H.nx (.p (.bool false)) Q
      ) (
      Rg 9 fun b_48 =>
      Pu Try.prog (.idx 5) [a1, v31] fun v60 =>
      Pu Try.prog (.addOff 1) [v60] fun v61 =>
      RdS Try.prog (.ld 3 true) [v61] fun v62 =>
      Al (b_48 + 6) (.bs 24 3 1 [.p (.bool false), .p (.int .i64 0), .p (.int .i64 0)] [(0, 3)]) [v62] fun v63 =>
      WrS Try.prog (b_48 + 7) (.app 24 3 24) [(vs.getD 0 .any), v63] fun v64 =>
      Pu Try.prog (.bin .add 3) [(vs.getD 1 .any), (.p (.int .i64 1))] fun v26_54 =>
      k [v64, v26_54]
      )
    )
def S_wordhoardref_SoundLine_C2 (Q : AV → AH → Prop) (H : AH) (v8 : AV) (v12 : AV) (v13 : AV) : AH → Prop :=
  Pu Try.prog (.addOff 0) [v12] fun v117 =>
  RdS Try.prog (.ld 1 false) [v117] fun v118 =>
  Pu Try.prog (.un .not) [v118] fun v119 =>
  Gd v119 true (fun k_118 => Pu Try.prog (.addOff 0) [v13] k_118) fun v121 =>
  Gd v119 true (fun k_120 => RdS Try.prog (.ld 1 false) [v121] k_120) fun v122 =>
  Gd v119 true (fun k_122 => Pu Try.prog (.un .not) [v122] k_122) fun v123 =>
  Pu Try.prog .pick [v119, v123, (.p (.bool false))] fun v124 =>
  Gd v124 true (fun k_125 => Pu Try.prog (.addOff 0) [v8] k_125) fun v126 =>
  Gd v124 true (fun k_127 => RdS Try.prog (.ld 1 false) [v126] k_127) fun v127 =>
  Gd v124 true (fun k_129 => Pu Try.prog (.un .not) [v127] k_129) fun v128 =>
  Pu Try.prog .pick [v124, v128, (.p (.bool false))] fun v129 =>
  Gd v129 true (fun k_132 => Pu Try.prog (.addOff 2) [v12] k_132) fun v131 =>
  Gd v129 true (fun k_134 => RdS Try.prog (.ld 1 false) [v131] k_134) fun v132 =>
  Gd v129 true (fun k_136 => Pu Try.prog (.addOff 1) [v13] k_136) fun v133 =>
  Gd v129 true (fun k_138 => RdS Try.prog (.ld 1 false) [v133] k_138) fun v134 =>
  Gd v129 true (fun k_140 => Pu Try.prog (.bin .eql 3) [v132, v134] k_140) fun v135 =>
  Pu Try.prog .pick [v129, v135, (.p (.bool false))] fun v136 =>
  Gd v136 true (fun k_143 => Pu Try.prog (.addOff 1) [v8] k_143) fun v138 =>
  Gd v136 true (fun k_145 => RdS Try.prog (.ld 1 false) [v138] k_145) fun v139 =>
  Gd v136 true (fun k_147 => Pu Try.prog (.addOff 1) [v12] k_147) fun v140 =>
  Gd v136 true (fun k_149 => RdS Try.prog (.ld 1 false) [v140] k_149) fun v141 =>
  Gd v136 true (fun k_151 => Pu Try.prog (.bin .eql 3) [v139, v141] k_151) fun v142 =>
  Pu Try.prog .pick [v136, v142, (.p (.bool false))] fun v143 =>
  Gd v143 true (fun k_154 => Pu Try.prog (.addOff 2) [v8] k_154) fun v145 =>
  Gd v143 true (fun k_156 => RdS Try.prog (.ld 1 false) [v145] k_156) fun v146 =>
  Gd v143 true (fun k_158 => Pu Try.prog (.addOff 2) [v13] k_158) fun v147 =>
  Gd v143 true (fun k_160 => RdS Try.prog (.ld 1 false) [v147] k_160) fun v148 =>
  Gd v143 true (fun k_162 => Pu Try.prog (.bin .eql 3) [v146, v148] k_162) fun v149 =>
  Pu Try.prog .pick [v143, v149, (.p (.bool false))] fun v150 =>
  Rt Try.prog H.nx v150 Q
def S_wordhoardref_SoundLine_C3 (Q : AV → AH → Prop) (H : AH) (v8 : AV) (v12 : AV) : AH → Prop :=
  Pu Try.prog (.addOff 0) [v12] fun v153 =>
  RdS Try.prog (.ld 1 false) [v153] fun v154 =>
  Pu Try.prog (.un .not) [v154] fun v155 =>
  Gd v155 true (fun k_169 => Pu Try.prog (.addOff 0) [v8] k_169) fun v157 =>
  Gd v155 true (fun k_171 => RdS Try.prog (.ld 1 false) [v157] k_171) fun v158 =>
  Gd v155 true (fun k_173 => Pu Try.prog (.un .not) [v158] k_173) fun v159 =>
  Pu Try.prog .pick [v155, v159, (.p (.bool false))] fun v160 =>
  Gd v160 true (fun k_176 => Pu Try.prog (.addOff 1) [v8] k_176) fun v162 =>
  Gd v160 true (fun k_178 => RdS Try.prog (.ld 1 false) [v162] k_178) fun v163 =>
  Gd v160 true (fun k_180 => Pu Try.prog (.addOff 2) [v12] k_180) fun v164 =>
  Gd v160 true (fun k_182 => RdS Try.prog (.ld 1 false) [v164] k_182) fun v165 =>
  Gd v160 true (fun k_184 => Pu Try.prog (.un .neg) [v165] k_184) fun v166 =>
  Gd v160 true (fun k_186 => Pu Try.prog (.bin .eql 3) [v163, v166] k_186) fun v167 =>
  Pu Try.prog .pick [v160, v167, (.p (.bool false))] fun v168 =>
  Gd v168 true (fun k_189 => Pu Try.prog (.addOff 2) [v8] k_189) fun v170 =>
  Gd v168 true (fun k_191 => RdS Try.prog (.ld 1 false) [v170] k_191) fun v171 =>
  Gd v168 true (fun k_193 => Pu Try.prog (.addOff 1) [v12] k_193) fun v172 =>
  Gd v168 true (fun k_195 => RdS Try.prog (.ld 1 false) [v172] k_195) fun v173 =>
  Gd v168 true (fun k_197 => Pu Try.prog (.un .neg) [v173] k_197) fun v174 =>
  Gd v168 true (fun k_199 => Pu Try.prog (.bin .eql 3) [v171, v174] k_199) fun v175 =>
  Pu Try.prog .pick [v168, v175, (.p (.bool false))] fun v176 =>
  Rt Try.prog H.nx v176 Q
def S_wordhoardref_SoundLine_C4 (Q : AV → AH → Prop) (H : AH) (v8 : AV) (v12 : AV) : AH → Prop :=
  Pu Try.prog (.addOff 0) [v12] fun v179 =>
  RdS Try.prog (.ld 1 false) [v179] fun v180 =>
  Pu Try.prog (.un .not) [v180] fun v181 =>
  Gd v181 true (fun k_206 => Pu Try.prog (.addOff 2) [v12] k_206) fun v183 =>
  Gd v181 true (fun k_208 => RdS Try.prog (.ld 1 false) [v183] k_208) fun v184 =>
  Gd v181 true (fun k_210 => Pu Try.prog (.addOff 1) [v12] k_210) fun v185 =>
  Gd v181 true (fun k_212 => RdS Try.prog (.ld 1 false) [v185] k_212) fun v186 =>
  Gd v181 true (fun k_214 => Pu Try.prog (.un .neg) [v186] k_214) fun v187 =>
  Gd v181 true (fun k_216 => Pu Try.prog (.bin .eql 3) [v184, v187] k_216) fun v188 =>
  Pu Try.prog .pick [v181, v188, (.p (.bool false))] fun v189 =>
  Gd v189 true (fun k_219 => Pu Try.prog (.addOff 0) [v8] k_219) fun v191 =>
  Gd v189 true (fun k_221 => RdS Try.prog (.ld 1 false) [v191] k_221) fun v192 =>
  Gd v189 true (fun k_223 => Pu Try.prog (.un .not) [v192] k_223) fun v193 =>
  Pu Try.prog .pick [v189, v193, (.p (.bool false))] fun v194 =>
  Gd v194 true (fun k_226 => Pu Try.prog (.addOff 1) [v8] k_226) fun v196 =>
  Gd v194 true (fun k_228 => RdS Try.prog (.ld 1 false) [v196] k_228) fun v197 =>
  Gd v194 true (fun k_230 => Pu Try.prog (.addOff 1) [v12] k_230) fun v198 =>
  Gd v194 true (fun k_232 => RdS Try.prog (.ld 1 false) [v198] k_232) fun v199 =>
  Gd v194 true (fun k_234 => Pu Try.prog (.bin .eql 3) [v197, v199] k_234) fun v200 =>
  Pu Try.prog .pick [v194, v200, (.p (.bool false))] fun v201 =>
  Rt Try.prog H.nx v201 Q
def S_wordhoardref_SoundLine_C5 (Q : AV → AH → Prop) (H : AH) (v8 : AV) (v12 : AV) : AH → Prop :=
  Pu Try.prog (.addOff 0) [v12] fun v204 =>
  RdS Try.prog (.ld 1 false) [v204] fun v205 =>
  Pu Try.prog (.un .not) [v205] fun v206 =>
  Gd v206 true (fun k_241 => Pu Try.prog (.addOff 1) [v12] k_241) fun v208 =>
  Gd v206 true (fun k_243 => RdS Try.prog (.ld 1 false) [v208] k_243) fun v209 =>
  Gd v206 true (fun k_245 => Pu Try.prog (.addOff 2) [v12] k_245) fun v210 =>
  Gd v206 true (fun k_247 => RdS Try.prog (.ld 1 false) [v210] k_247) fun v211 =>
  Gd v206 true (fun k_249 => Pu Try.prog (.un .neg) [v211] k_249) fun v212 =>
  Gd v206 true (fun k_251 => Pu Try.prog (.bin .eql 3) [v209, v212] k_251) fun v213 =>
  Pu Try.prog .pick [v206, v213, (.p (.bool false))] fun v214 =>
  Gd v214 true (fun k_254 => Pu Try.prog (.addOff 0) [v8] k_254) fun v216 =>
  Gd v214 true (fun k_256 => RdS Try.prog (.ld 1 false) [v216] k_256) fun v217 =>
  Gd v214 true (fun k_258 => Pu Try.prog (.un .not) [v217] k_258) fun v218 =>
  Pu Try.prog .pick [v214, v218, (.p (.bool false))] fun v219 =>
  Gd v219 true (fun k_261 => Pu Try.prog (.addOff 2) [v8] k_261) fun v221 =>
  Gd v219 true (fun k_263 => RdS Try.prog (.ld 1 false) [v221] k_263) fun v222 =>
  Gd v219 true (fun k_265 => Pu Try.prog (.addOff 2) [v12] k_265) fun v223 =>
  Gd v219 true (fun k_267 => RdS Try.prog (.ld 1 false) [v223] k_267) fun v224 =>
  Gd v219 true (fun k_269 => Pu Try.prog (.bin .eql 3) [v222, v224] k_269) fun v225 =>
  Pu Try.prog .pick [v219, v225, (.p (.bool false))] fun v226 =>
  Rt Try.prog H.nx v226 Q
def S_wordhoardref_SoundLine_C6 (Q : AV → AH → Prop) (H : AH) (v8 : AV) (v12 : AV) : AH → Prop :=
  Pu Try.prog (.addOff 0) [v12] fun v229 =>
  RdS Try.prog (.ld 1 false) [v229] fun v230 =>
  Gd v230 true (fun k_275 => Pu Try.prog (.addOff 0) [v8] k_275) fun v232 =>
  Gd v230 true (fun k_277 => RdS Try.prog (.ld 1 false) [v232] k_277) fun v233 =>
  Pu Try.prog .pick [v230, v233, (.p (.bool false))] fun v234 =>
  Gd v234 true (fun k_280 => Pu Try.prog (.addOff 1) [v8] k_280) fun v236 =>
  Gd v234 true (fun k_282 => RdS Try.prog (.ld 1 false) [v236] k_282) fun v237 =>
  Gd v234 true (fun k_284 => Pu Try.prog (.addOff 2) [v12] k_284) fun v238 =>
  Gd v234 true (fun k_286 => RdS Try.prog (.ld 1 false) [v238] k_286) fun v239 =>
  Gd v234 true (fun k_288 => Pu Try.prog (.bin .eql 3) [v237, v239] k_288) fun v240 =>
  Pu Try.prog .pick [v234, v240, (.p (.bool false))] fun v241 =>
  Gd v241 true (fun k_291 => Pu Try.prog (.addOff 2) [v8] k_291) fun v243 =>
  Gd v241 true (fun k_293 => RdS Try.prog (.ld 1 false) [v243] k_293) fun v244 =>
  Gd v241 true (fun k_295 => Pu Try.prog (.addOff 1) [v12] k_295) fun v245 =>
  Gd v241 true (fun k_297 => RdS Try.prog (.ld 1 false) [v245] k_297) fun v246 =>
  Gd v241 true (fun k_299 => Pu Try.prog (.bin .eql 3) [v244, v246] k_299) fun v247 =>
  Pu Try.prog .pick [v241, v247, (.p (.bool false))] fun v248 =>
  Rt Try.prog H.nx v248 Q
def S_wordhoardref_SoundLine_C7 (Q : AV → AH → Prop) (H : AH) (v8 : AV) (v12 : AV) : AH → Prop :=
  Pu Try.prog (.addOff 0) [v12] fun v251 =>
  RdS Try.prog (.ld 1 false) [v251] fun v252 =>
  Gd v252 true (fun k_305 => Pu Try.prog (.addOff 0) [v8] k_305) fun v254 =>
  Gd v252 true (fun k_307 => RdS Try.prog (.ld 1 false) [v254] k_307) fun v255 =>
  Pu Try.prog .pick [v252, v255, (.p (.bool false))] fun v256 =>
  Gd v256 true (fun k_310 => Pu Try.prog (.addOff 1) [v8] k_310) fun v258 =>
  Gd v256 true (fun k_312 => RdS Try.prog (.ld 1 false) [v258] k_312) fun v259 =>
  Gd v256 true (fun k_314 => Pu Try.prog (.addOff 1) [v12] k_314) fun v260 =>
  Gd v256 true (fun k_316 => RdS Try.prog (.ld 1 false) [v260] k_316) fun v261 =>
  Gd v256 true (fun k_318 => Pu Try.prog (.bin .eql 3) [v259, v261] k_318) fun v262 =>
  Pu Try.prog .pick [v256, v262, (.p (.bool false))] fun v263 =>
  Gd v263 true (fun k_321 => Pu Try.prog (.addOff 2) [v8] k_321) fun v265 =>
  Gd v263 true (fun k_323 => RdS Try.prog (.ld 1 false) [v265] k_323) fun v266 =>
  Gd v263 true (fun k_325 => Pu Try.prog (.addOff 1) [v12] k_325) fun v267 =>
  Gd v263 true (fun k_327 => RdS Try.prog (.ld 1 false) [v267] k_327) fun v268 =>
  Gd v263 true (fun k_329 => Pu Try.prog (.bin .eql 3) [v266, v268] k_329) fun v269 =>
  Pu Try.prog .pick [v263, v269, (.p (.bool false))] fun v270 =>
  Rt Try.prog H.nx v270 Q
def S_wordhoardref_SoundLine_C8 (Q : AV → AH → Prop) (H : AH) (v8 : AV) (v12 : AV) (v13 : AV) : AH → Prop :=
  Pu Try.prog (.addOff 0) [v12] fun v273 =>
  RdS Try.prog (.ld 1 false) [v273] fun v274 =>
  Gd v274 true (fun k_335 => Pu Try.prog (.addOff 0) [v13] k_335) fun v276 =>
  Gd v274 true (fun k_337 => RdS Try.prog (.ld 1 false) [v276] k_337) fun v277 =>
  Gd v274 true (fun k_339 => Pu Try.prog (.un .not) [v277] k_339) fun v278 =>
  Pu Try.prog .pick [v274, v278, (.p (.bool false))] fun v279 =>
  Gd v279 true (fun k_342 => Pu Try.prog (.addOff 0) [v8] k_342) fun v281 =>
  Gd v279 true (fun k_344 => RdS Try.prog (.ld 1 false) [v281] k_344) fun v282 =>
  Pu Try.prog .pick [v279, v282, (.p (.bool false))] fun v283 =>
  Gd v283 true (fun k_347 => Pu Try.prog (.addOff 2) [v12] k_347) fun v285 =>
  Gd v283 true (fun k_349 => RdS Try.prog (.ld 1 false) [v285] k_349) fun v286 =>
  Gd v283 true (fun k_351 => Pu Try.prog (.addOff 1) [v13] k_351) fun v287 =>
  Gd v283 true (fun k_353 => RdS Try.prog (.ld 1 false) [v287] k_353) fun v288 =>
  Gd v283 true (fun k_355 => Pu Try.prog (.bin .eql 3) [v286, v288] k_355) fun v289 =>
  Pu Try.prog .pick [v283, v289, (.p (.bool false))] fun v290 =>
  Gd v290 true (fun k_358 => Pu Try.prog (.addOff 1) [v8] k_358) fun v292 =>
  Gd v290 true (fun k_360 => RdS Try.prog (.ld 1 false) [v292] k_360) fun v293 =>
  Gd v290 true (fun k_362 => Pu Try.prog (.addOff 1) [v12] k_362) fun v294 =>
  Gd v290 true (fun k_364 => RdS Try.prog (.ld 1 false) [v294] k_364) fun v295 =>
  Gd v290 true (fun k_366 => Pu Try.prog (.bin .eql 3) [v293, v295] k_366) fun v296 =>
  Pu Try.prog .pick [v290, v296, (.p (.bool false))] fun v297 =>
  Gd v297 true (fun k_369 => Pu Try.prog (.addOff 2) [v8] k_369) fun v299 =>
  Gd v297 true (fun k_371 => RdS Try.prog (.ld 1 false) [v299] k_371) fun v300 =>
  Gd v297 true (fun k_373 => Pu Try.prog (.addOff 2) [v13] k_373) fun v301 =>
  Gd v297 true (fun k_375 => RdS Try.prog (.ld 1 false) [v301] k_375) fun v302 =>
  Gd v297 true (fun k_377 => Pu Try.prog (.bin .eql 3) [v300, v302] k_377) fun v303 =>
  Pu Try.prog .pick [v297, v303, (.p (.bool false))] fun v304 =>
  Rt Try.prog H.nx v304 Q
def S_wordhoardref_SoundLine_C9 (Q : AV → AH → Prop) (H : AH) (v12 : AV) (v13 : AV) : AH → Prop :=
  Pu Try.prog (.addOff 0) [v12] fun v305 =>
  RdS Try.prog (.ld 1 false) [v305] fun v306 =>
  Pu Try.prog (.un .not) [v306] fun v307 =>
  Gd v307 true (fun k_383 => Pu Try.prog (.addOff 0) [v13] k_383) fun v309 =>
  Gd v307 true (fun k_385 => RdS Try.prog (.ld 1 false) [v309] k_385) fun v310 =>
  Pu Try.prog .pick [v307, v310, (.p (.bool false))] fun v311 =>
  Gd v311 true (fun k_388 => Pu Try.prog (.addOff 1) [v13] k_388) fun v313 =>
  Gd v311 true (fun k_390 => RdS Try.prog (.ld 1 false) [v313] k_390) fun v314 =>
  Gd v311 true (fun k_392 => Pu Try.prog (.addOff 1) [v12] k_392) fun v315 =>
  Gd v311 true (fun k_394 => RdS Try.prog (.ld 1 false) [v315] k_394) fun v316 =>
  Gd v311 true (fun k_396 => Pu Try.prog (.bin .eql 3) [v314, v316] k_396) fun v317 =>
  Pu Try.prog .pick [v311, v317, (.p (.bool false))] fun v318 =>
  Gd v318 true (fun k_399 => Pu Try.prog (.addOff 2) [v13] k_399) fun v320 =>
  Gd v318 true (fun k_401 => RdS Try.prog (.ld 1 false) [v320] k_401) fun v321 =>
  Gd v318 true (fun k_403 => Pu Try.prog (.addOff 2) [v12] k_403) fun v322 =>
  Gd v318 true (fun k_405 => RdS Try.prog (.ld 1 false) [v322] k_405) fun v323 =>
  Gd v318 true (fun k_407 => Pu Try.prog (.un .neg) [v323] k_407) fun v324 =>
  Gd v318 true (fun k_409 => Pu Try.prog (.bin .eql 3) [v321, v324] k_409) fun v325 =>
  Pu Try.prog .pick [v318, v325, (.p (.bool false))] fun v326 =>
  Rt Try.prog H.nx v326 Q
def S_wordhoardref_SoundLine_C10 (Q : AV → AH → Prop) (H : AH) (v8 : AV) (v12 : AV) (v13 : AV) (v97 : AV) : AH → Prop :=
  Pu Try.prog (.bin .eql 3) [v97, (.p (.int .i64 2))] fun v104 =>
  CdA v104
    (
    Pu Try.prog (.addOff 0) [v8] fun v105 =>
    RdS Try.prog (.ld 1 false) [v105] fun v106 =>
    Pu Try.prog (.un .not) [v106] fun v107 =>
    Gd v107 true (fun k_103 => Pu Try.prog (.addOff 1) [v8] k_103) fun v109 =>
    Gd v107 true (fun k_105 => RdS Try.prog (.ld 1 false) [v109] k_105) fun v110 =>
    Gd v107 true (fun k_107 => Pu Try.prog (.addOff 2) [v8] k_107) fun v111 =>
    Gd v107 true (fun k_109 => RdS Try.prog (.ld 1 false) [v111] k_109) fun v112 =>
    Gd v107 true (fun k_111 => Pu Try.prog (.bin .eql 3) [v110, v112] k_111) fun v113 =>
    Pu Try.prog .pick [v107, v113, (.p (.bool false))] fun v114 =>
    Rt Try.prog H.nx v114 Q
    ) (
    Pu Try.prog (.bin .eql 3) [v97, (.p (.int .i64 3))] fun v116 =>
    CdA v116
      (S_wordhoardref_SoundLine_C2 Q H v8 v12 v13) (
      Pu Try.prog (.bin .eql 3) [v97, (.p (.int .i64 4))] fun v152 =>
      CdA v152
        (S_wordhoardref_SoundLine_C3 Q H v8 v12) (
        Pu Try.prog (.bin .eql 3) [v97, (.p (.int .i64 5))] fun v178 =>
        CdA v178
          (S_wordhoardref_SoundLine_C4 Q H v8 v12) (
          Pu Try.prog (.bin .eql 3) [v97, (.p (.int .i64 6))] fun v203 =>
          CdA v203
            (S_wordhoardref_SoundLine_C5 Q H v8 v12) (
            Pu Try.prog (.bin .eql 3) [v97, (.p (.int .i64 7))] fun v228 =>
            CdA v228
              (S_wordhoardref_SoundLine_C6 Q H v8 v12) (
              Pu Try.prog (.bin .eql 3) [v97, (.p (.int .i64 8))] fun v250 =>
              CdA v250
                (S_wordhoardref_SoundLine_C7 Q H v8 v12) (
                Pu Try.prog (.bin .eql 3) [v97, (.p (.int .i64 9))] fun v272 =>
                CdA v272
                  (S_wordhoardref_SoundLine_C8 Q H v8 v12 v13) (S_wordhoardref_SoundLine_C9 Q H v12 v13)
                )
              )
            )
          )
        )
      )
    )
def S_wordhoardref_SoundLine_K11 (Q : AV → AH → Prop) (H : AH) (v7 : AV) (v8 : AV) (v12 : AV) (v13 : AV) (_vs_91 : List AV) : AH → Prop :=
  Pu Try.prog (.addOff 0) [v7] fun v96 =>
  RdS Try.prog (.ld 1 false) [v96] fun v97 =>
  Pu Try.prog (.bin .eql 3) [v97, (.p (.int .i64 1))] fun v99 =>
  CdA v99
    (
    RdS Try.prog (.ld 3 true) [v8] fun v100 =>
    RdS Try.prog (.ld 3 true) [v12] fun v101 =>
    Pu Try.prog (.bin .eql 24) [v100, v101] fun v102 =>
    Rt Try.prog H.nx v102 Q
    ) (S_wordhoardref_SoundLine_C10 Q H v8 v12 v13 v97)
def S_wordhoardref_SoundLine_K12 (Q : AV → AH → Prop) (H : AH) (v7 : AV) (v8 : AV) (vs : List AV) (v12 : AV) (v13 : AV) (_vs_89 : List AV) : AH → Prop :=
  CutA Try.prog 0 (fun k_90 =>
    Pu Try.prog .len [(vs.getD 0 .any)] fun v91 =>
    Pu Try.prog (.bin .gtr 3) [v91, (.p (.int .i64 1))] fun v92 =>
    CdA v92
      (
      Rg 4 fun b_413 =>
      Pu Try.prog (.idx 3) [(vs.getD 0 .any), (.p (.int .i64 1))] fun v94 =>
      RdS Try.prog (.ld 3 true) [v94] fun v95 =>
      WrS Try.prog (b_413 + 3) (.st 3) [v13, v95] fun _ =>
      k_90 []
      ) (
      k_90 []
      )
    ) (S_wordhoardref_SoundLine_K11 Q H v7 v8 v12 v13)
def S_wordhoardref_SoundLine_C13 (Q : AV → AH → Prop) (H : AH) (v7 : AV) (v8 : AV) (vs : List AV) : AH → Prop :=
  Rg 19 fun b_55 =>
  Pu Try.prog (.addOff 0) [v7] fun v65 =>
  RdS Try.prog (.ld 1 false) [v65] fun v66 =>
  Pu Try.prog (.bin .lss 3) [v66, (.p (.int .i64 1))] fun v67 =>
  Gd v67 false (fun k_60 => Pu Try.prog (.addOff 0) [v7] k_60) fun v69 =>
  Gd v67 false (fun k_62 => RdS Try.prog (.ld 1 false) [v69] k_62) fun v70 =>
  Gd v67 false (fun k_64 => Pu Try.prog (.bin .gtr 3) [v70, (.p (.int .i64 10))] k_64) fun v71 =>
  Pu Try.prog .pick [v67, (.p (.bool true)), v71] fun v72 =>
  Gd v72 false (fun k_67 => k_67 (vs.getD 0 .any)) fun v74 =>
  Gd v72 false (fun k_69 => Pu Try.prog .len [v74] k_69) fun v75 =>
  Gd v72 false (fun k_71 => Al (b_55 + 11) (.bs 3 1 10 [.p (.int .i64 0)] [(0, 1), (1, 1), (2, 1), (3, 1), (4, 1), (5, 1), (6, 1), (7, 1), (8, 1), (9, 1)]) [(.p (.int .i64 1)), (.p (.int .i64 0)), (.p (.int .i64 2)), (.p (.int .i64 1)), (.p (.int .i64 1)), (.p (.int .i64 1)), (.p (.int .i64 1)), (.p (.int .i64 1)), (.p (.int .i64 2)), (.p (.int .i64 2))] k_71) fun v76 =>
  Gd v72 false (fun k_73 => Pu Try.prog (.addOff 0) [v7] k_73) fun v77 =>
  Gd v72 false (fun k_75 => RdS Try.prog (.ld 1 false) [v77] k_75) fun v78 =>
  Gd v72 false (fun k_77 => Pu Try.prog (.bin .sub 3) [v78, (.p (.int .i64 1))] k_77) fun v79 =>
  Gd v72 false (fun k_79 => Pu Try.prog (.idx 1) [v76, v79] k_79) fun v80 =>
  Gd v72 false (fun k_81 => RdS Try.prog (.ld 1 false) [v80] k_81) fun v81 =>
  Gd v72 false (fun k_83 => Pu Try.prog (.bin .neq 3) [v75, v81] k_83) fun v82 =>
  Pu Try.prog .pick [v72, (.p (.bool true)), v82] fun v83 =>
  CdA v83
    (
    Rt Try.prog H.nx (.p (.bool false)) Q
    ) (
    Rg 2 fun b_85 =>
    Al (b_85 + 0) (.nw 24 [.p (.bool false), .p (.int .i64 0), .p (.int .i64 0)]) [] fun v12 =>
    Al (b_85 + 1) (.nw 24 [.p (.bool false), .p (.int .i64 0), .p (.int .i64 0)]) [] fun v13 =>
    CutA Try.prog 0 (fun k_88 =>
      Pu Try.prog .len [(vs.getD 0 .any)] fun v85 =>
      Pu Try.prog (.bin .gtr 3) [v85, (.p (.int .i64 0))] fun v86 =>
      CdA v86
        (
        Rg 4 fun b_419 =>
        Pu Try.prog (.idx 3) [(vs.getD 0 .any), (.p (.int .i64 0))] fun v88 =>
        RdS Try.prog (.ld 3 true) [v88] fun v89 =>
        WrS Try.prog (b_419 + 3) (.st 3) [v12, v89] fun _ =>
        k_88 []
        ) (
        k_88 []
        )
      ) (S_wordhoardref_SoundLine_K12 Q H v7 v8 vs v12 v13)
    )
def S_wordhoardref_SoundLine_L14 (a0 : AV) (a1 : AV) (a2 : AV) (Q : AV → AH → Prop) (H : AH) (v7 : AV) (v8 : AV) (vs : List AV) (k : List AV → AH → Prop) : AH → Prop :=
  Pu Try.prog (.addOff 4) [v7] fun v21 =>
  RdS Try.prog (.ld 1 false) [v21] fun v22 =>
  Pu Try.prog .len [v22] fun v23 =>
  Pu Try.prog (.bin .lss 3) [(vs.getD 1 .any), v23] fun v24 =>
  CdA v24
    (S_wordhoardref_SoundLine_C1 a0 a1 a2 Q H v7 k vs) (S_wordhoardref_SoundLine_C13 Q H v7 v8 vs)
def S_wordhoardref_SoundLine (a0 a1 a2 : AV) (Q : AV → AH → Prop) (H : AH) : Prop := (
    Rg 6 fun b =>
    Pu Try.prog (.idx 5) [a1, a2] fun v16 =>
    RdS Try.prog (.ld 5 true) [v16] fun v17 =>
    Al (b + 4) (.nw 36 [.p (.int .i64 0), .p (.bool false), .p (.int .i64 0), .p (.int .i64 0), .p (.slice none 0 0)]) [] fun v7 =>
    WrS Try.prog (b + 5) (.st 5) [v7, v17] fun _ =>
    Rg 4 fun b_6 =>
    Pu Try.prog (.addOff 1) [v7] fun v18 =>
    RdS Try.prog (.ld 3 true) [v18] fun v19 =>
    Al (b_6 + 2) (.nw 24 [.p (.bool false), .p (.int .i64 0), .p (.int .i64 0)]) [] fun v8 =>
    WrS Try.prog (b_6 + 3) (.st 3) [v8, v19] fun _ =>
    LoopA Try.prog 2 (S_wordhoardref_SoundLine_L14 a0 a1 a2 Q H v7 v8) [(.p (.slice none 0 0)), (.p (.int .i64 0))]
    ) H
theorem eq_wordhoardref_SoundLine (a0 a1 a2 : AV) (Q : AV → AH → Prop) (H : AH) : FnA Try.prog 327 (regsF Try.f15) ac_wordhoardref_SoundLine [.tm 6] [a0, a1, a2] H Q = S_wordhoardref_SoundLine a0 a1 a2 Q H := by kernel_rfl
theorem tri_wordhoardref_SoundLine {a0 a1 a2 : AV} {H : AH} {Q : AV → AH → Prop} (h : S_wordhoardref_SoundLine a0 a1 a2 Q H) : Tri Try.prog 15 [a0, a1, a2] H Q :=
  tri_of (Ms := [#[], #[], #[], #[], #[], #[], #[], #[], #[], #[], #[], #[], #[], #[], #[], #[], #[], #[], #[], #[], #[], #[], #[], #[], #[], #[], #[], #[], #[], #[], #[], #[], #[], #[], #[], #[], #[], #[], #[], #[], #[], #[]]) mixed Try.func15 rfl (by kernel_rfl) (by kernel_rfl) rfl (of_decide_eq_true rfl : 3 ≤ 327) ((eq_wordhoardref_SoundLine a0 a1 a2 Q H).symm ▸ h : FnA Try.prog 327 (regsF Try.f15) ac_wordhoardref_SoundLine [.tm 6] [a0, a1, a2] H Q)

/-! wordhoard/prove.right -/
def ac_prove_right : AC := (.seq (.reg 0) (.seq (.reg 1) (.seq (.reg 2) (.seq (.seq (.reg 3) (.cond (.tmp 27) (.seq (.reg 4) .ret) .skip)) (.seq (.reg 5) (.seq (.reg 6) (.seq (.seq (.reg 7) (.cond (.tmp 76) (.seq (.reg 8) .ret) .skip)) (.seq (.reg 9) (.seq (.seq (.reg 10) (.block 0 (.loop [80] [(6, 7), (13, 15), (81, 100)] (.seq (.reg 11) (.seq (.cond (.tmp 81) .skip (.exit 0)) (.seq (.block 1 (.seq (.reg 12) (.seq (.seq (.reg 13) (.cond (.tmp 91) (.seq (.reg 14) .ret) .skip)) (.reg 15)))) (.reg 16))))))) (.seq (.reg 17) (.seq (.reg 18) (.seq (.reg 19) (.seq (.seq (.reg 20) (.block 2 (.seq (.reg 21) (.cond (.tmp 106) (.seq (.reg 22) .ret) (.seq (.reg 23) (.cond (.tmp 116) (.seq (.reg 24) .ret) (.seq (.reg 25) (.cond (.tmp 141) (.seq (.reg 26) .ret) (.seq (.reg 27) (.cond (.tmp 158) (.seq (.reg 28) .ret) (.seq (.reg 29) (.cond (.tmp 174) (.seq (.reg 30) .ret) (.seq (.reg 31) (.cond (.tmp 190) (.seq (.reg 32) .ret) (.seq (.reg 33) (.cond (.tmp 204) (.seq (.reg 34) .ret) (.seq (.reg 35) (.cond (.tmp 218) (.seq (.reg 36) .ret) .skip)))))))))))))))))) (.seq (.reg 37) .ret))))))))))))))
def S_prove_right_C1 (a0 : AV) (Q : AV → AH → Prop) (H : AH) (v7 : AV) (v8 : AV) : AH → Prop :=
  Vw fun V =>
  Pu Try.prog (.addOff 4) [v7] fun v28 =>
  Rd Try.prog V (.ld 1 false) [v28] fun v29 =>
  Pu Try.prog .len [v29] fun v30 =>
  Pu Try.prog (.bin .eql 3) [v30, (.p (.int .i64 1))] fun v31 =>
  GdV v31 true (fun k => Pu Try.prog (.addOff 4) [v7] (fun a => k a V)) V fun v33 V_21 =>
  GdV v31 true (fun k_23 => Rd Try.prog V_21 (.ld 1 false) [v33] (fun a => k_23 a V_21)) V_21 fun v34 V_24 =>
  GdV v31 true (fun k_26 => Pu Try.prog (.idx 1) [v34, (.p (.int .i64 0))] (fun a => k_26 a V_24)) V_24 fun v35 V_27 =>
  GdV v31 true (fun k_29 => Rd Try.prog V_27 (.ld 1 false) [v35] (fun a => k_29 a V_27)) V_27 fun v36 V_30 =>
  GdV v31 true (fun k_32 => Pu Try.prog (.bin .geq 3) [v36, (.p (.int .i64 0))] (fun a => k_32 a V_30)) V_30 fun v37 V_33 =>
  Pu Try.prog .pick [v31, v37, (.p (.bool false))] fun v38 =>
  GdV v38 true (fun k_36 => Pu Try.prog (.addOff 4) [v7] (fun a => k_36 a V_33)) V_33 fun v40 V_37 =>
  GdV v38 true (fun k_39 => Rd Try.prog V_37 (.ld 1 false) [v40] (fun a => k_39 a V_37)) V_37 fun v41 V_40 =>
  GdV v38 true (fun k_42 => Pu Try.prog (.idx 1) [v41, (.p (.int .i64 0))] (fun a => k_42 a V_40)) V_40 fun v42 V_43 =>
  GdV v38 true (fun k_45 => Rd Try.prog V_43 (.ld 1 false) [v42] (fun a => k_45 a V_43)) V_43 fun v43 V_46 =>
  GdV v38 true (fun k_48 => k_48 a0 V_46) V_46 fun v44 V_49 =>
  GdV v38 true (fun k_51 => Pu Try.prog .len [v44] (fun a => k_51 a V_49)) V_49 fun v45 V_52 =>
  GdV v38 true (fun k_54 => Pu Try.prog (.bin .lss 3) [v43, v45] (fun a => k_54 a V_52)) V_52 fun v46 V_55 =>
  Pu Try.prog .pick [v38, v46, (.p (.bool false))] fun v47 =>
  GdV v47 true (fun k_58 => k_58 a0 V_55) V_55 fun v49 V_59 =>
  GdV v47 true (fun k_61 => Pu Try.prog (.addOff 4) [v7] (fun a => k_61 a V_59)) V_59 fun v50 V_62 =>
  GdV v47 true (fun k_64 => Rd Try.prog V_62 (.ld 1 false) [v50] (fun a => k_64 a V_62)) V_62 fun v51 V_65 =>
  GdV v47 true (fun k_67 => Pu Try.prog (.idx 1) [v51, (.p (.int .i64 0))] (fun a => k_67 a V_65)) V_65 fun v52 V_68 =>
  GdV v47 true (fun k_70 => Rd Try.prog V_68 (.ld 1 false) [v52] (fun a => k_70 a V_68)) V_68 fun v53 V_71 =>
  GdV v47 true (fun k_73 => Pu Try.prog (.idx 3) [v49, v53] (fun a => k_73 a V_71)) V_71 fun v54 V_74 =>
  GdV v47 true (fun k_76 => Rd Try.prog V_74 (.ld 3 true) [v54] (fun a => k_76 a V_74)) V_74 fun v55 V_77 =>
  GdV v47 true (fun k_79 => Rd Try.prog V_77 (.ld 3 true) [v8] (fun a => k_79 a V_77)) V_77 fun v56 V_80 =>
  GdV v47 true (fun k_82 => Pu Try.prog (.bin .eql 24) [v55, v56] (fun a => k_82 a V_80)) V_80 fun v57 _ =>
  Pu Try.prog .pick [v47, v57, (.p (.bool false))] fun v58 =>
  Rt Try.prog H.nx v58 Q
def S_prove_right_C2 (Q : AV → AH → Prop) (H : AH) (v8 : AV) (v15 : AV) (v16 : AV) : AH → Prop :=
  Vw fun V_160 =>
  Rd Try.prog V_160 (.ld 3 true) [v15] fun v118 =>
  Pu Try.prog (.addOff 1) [v8] fun v120 =>
  Rd Try.prog V_160 (.ld 1 false) [v120] fun v121 =>
  Pu Try.prog (.addOff 2) [v15] fun v122 =>
  Rd Try.prog V_160 (.ld 1 false) [v122] fun v123 =>
  CaV Try.prog V_160 (.fn (.func 41) [] []) [v121, v123] fun v124 =>
  Pu Try.prog (.bin .eql 24) [v118, v124] fun v125 =>
  GdV v125 true (fun k_169 => Rd Try.prog V_160 (.ld 3 true) [v16] (fun a => k_169 a V_160)) V_160 fun v127 V_170 =>
  GdV v125 true (fun k_172 => k_172 (.fn (.func 41) [] []) V_170) V_170 fun v128 V_173 =>
  GdV v125 true (fun k_175 => Pu Try.prog (.addOff 2) [v15] (fun a => k_175 a V_173)) V_173 fun v129 V_176 =>
  GdV v125 true (fun k_178 => Rd Try.prog V_176 (.ld 1 false) [v129] (fun a => k_178 a V_176)) V_176 fun v130 V_179 =>
  GdV v125 true (fun k_181 => Pu Try.prog (.addOff 2) [v8] (fun a => k_181 a V_179)) V_179 fun v131 V_182 =>
  GdV v125 true (fun k_184 => Rd Try.prog V_182 (.ld 1 false) [v131] (fun a => k_184 a V_182)) V_182 fun v132 V_185 =>
  GdV v125 true (fun k_187 => CaV Try.prog V_185 v128 [v130, v132] (fun a => k_187 a V_185)) V_185 fun v133 V_188 =>
  GdV v125 true (fun k_190 => Pu Try.prog (.bin .eql 24) [v127, v133] (fun a => k_190 a V_188)) V_188 fun v134 V_191 =>
  Pu Try.prog .pick [v125, v134, (.p (.bool false))] fun v135 =>
  GdV v135 true (fun k_194 => Pu Try.prog (.addOff 0) [v8] (fun a => k_194 a V_191)) V_191 fun v137 V_195 =>
  GdV v135 true (fun k_197 => Rd Try.prog V_195 (.ld 1 false) [v137] (fun a => k_197 a V_195)) V_195 fun v138 V_198 =>
  GdV v135 true (fun k_200 => Pu Try.prog (.un .not) [v138] (fun a => k_200 a V_198)) V_198 fun v139 _ =>
  Pu Try.prog .pick [v135, v139, (.p (.bool false))] fun v140 =>
  Rt Try.prog H.nx v140 Q
def S_prove_right_C3 (Q : AV → AH → Prop) (H : AH) (v8 : AV) (v15 : AV) : AH → Prop :=
  Vw fun V_204 =>
  Pu Try.prog (.addOff 0) [v15] fun v143 =>
  Rd Try.prog V_204 (.ld 1 false) [v143] fun v144 =>
  Pu Try.prog (.un .not) [v144] fun v145 =>
  GdV v145 true (fun k_209 => Rd Try.prog V_204 (.ld 3 true) [v8] (fun a => k_209 a V_204)) V_204 fun v147 V_210 =>
  GdV v145 true (fun k_212 => k_212 (.fn (.func 41) [] []) V_210) V_210 fun v148 V_213 =>
  GdV v145 true (fun k_215 => Pu Try.prog (.addOff 2) [v15] (fun a => k_215 a V_213)) V_213 fun v149 V_216 =>
  GdV v145 true (fun k_218 => Rd Try.prog V_216 (.ld 1 false) [v149] (fun a => k_218 a V_216)) V_216 fun v150 V_219 =>
  GdV v145 true (fun k_221 => Pu Try.prog (.un .neg) [v150] (fun a => k_221 a V_219)) V_219 fun v151 V_222 =>
  GdV v145 true (fun k_224 => Pu Try.prog (.addOff 1) [v15] (fun a => k_224 a V_222)) V_222 fun v152 V_225 =>
  GdV v145 true (fun k_227 => Rd Try.prog V_225 (.ld 1 false) [v152] (fun a => k_227 a V_225)) V_225 fun v153 V_228 =>
  GdV v145 true (fun k_230 => Pu Try.prog (.un .neg) [v153] (fun a => k_230 a V_228)) V_228 fun v154 V_231 =>
  GdV v145 true (fun k_233 => CaV Try.prog V_231 v148 [v151, v154] (fun a => k_233 a V_231)) V_231 fun v155 V_234 =>
  GdV v145 true (fun k_236 => Pu Try.prog (.bin .eql 24) [v147, v155] (fun a => k_236 a V_234)) V_234 fun v156 _ =>
  Pu Try.prog .pick [v145, v156, (.p (.bool false))] fun v157 =>
  Rt Try.prog H.nx v157 Q
def S_prove_right_C4 (Q : AV → AH → Prop) (H : AH) (v8 : AV) (v15 : AV) (v16 : AV) : AH → Prop :=
  Vw fun V_338 =>
  Rd Try.prog V_338 (.ld 3 true) [v15] fun v220 =>
  Pu Try.prog (.addOff 1) [v8] fun v222 =>
  Rd Try.prog V_338 (.ld 1 false) [v222] fun v223 =>
  Pu Try.prog (.addOff 2) [v15] fun v224 =>
  Rd Try.prog V_338 (.ld 1 false) [v224] fun v225 =>
  CaV Try.prog V_338 (.fn (.func 42) [] []) [v223, v225] fun v226 =>
  Pu Try.prog (.bin .eql 24) [v220, v226] fun v227 =>
  GdV v227 true (fun k_347 => Rd Try.prog V_338 (.ld 3 true) [v16] (fun a => k_347 a V_338)) V_338 fun v229 V_348 =>
  GdV v227 true (fun k_350 => k_350 (.fn (.func 41) [] []) V_348) V_348 fun v230 V_351 =>
  GdV v227 true (fun k_353 => Pu Try.prog (.addOff 2) [v15] (fun a => k_353 a V_351)) V_351 fun v231 V_354 =>
  GdV v227 true (fun k_356 => Rd Try.prog V_354 (.ld 1 false) [v231] (fun a => k_356 a V_354)) V_354 fun v232 V_357 =>
  GdV v227 true (fun k_359 => Pu Try.prog (.addOff 2) [v8] (fun a => k_359 a V_357)) V_357 fun v233 V_360 =>
  GdV v227 true (fun k_362 => Rd Try.prog V_360 (.ld 1 false) [v233] (fun a => k_362 a V_360)) V_360 fun v234 V_363 =>
  GdV v227 true (fun k_365 => CaV Try.prog V_363 v230 [v232, v234] (fun a => k_365 a V_363)) V_363 fun v235 V_366 =>
  GdV v227 true (fun k_368 => Pu Try.prog (.bin .eql 24) [v229, v235] (fun a => k_368 a V_366)) V_366 fun v236 V_369 =>
  Pu Try.prog .pick [v227, v236, (.p (.bool false))] fun v237 =>
  GdV v237 true (fun k_372 => Pu Try.prog (.addOff 0) [v8] (fun a => k_372 a V_369)) V_369 fun v239 V_373 =>
  GdV v237 true (fun k_375 => Rd Try.prog V_373 (.ld 1 false) [v239] (fun a => k_375 a V_373)) V_373 fun v240 _ =>
  Pu Try.prog .pick [v237, v240, (.p (.bool false))] fun v241 =>
  Rt Try.prog H.nx v241 Q
def S_prove_right_C5 (Q : AV → AH → Prop) (H : AH) (v15 : AV) (v16 : AV) : AH → Prop :=
  Vw fun V_378 =>
  Pu Try.prog (.addOff 0) [v15] fun v242 =>
  Rd Try.prog V_378 (.ld 1 false) [v242] fun v243 =>
  Pu Try.prog (.un .not) [v243] fun v244 =>
  GdV v244 true (fun k_383 => Rd Try.prog V_378 (.ld 3 true) [v16] (fun a => k_383 a V_378)) V_378 fun v246 V_384 =>
  GdV v244 true (fun k_386 => k_386 (.fn (.func 42) [] []) V_384) V_384 fun v247 V_387 =>
  GdV v244 true (fun k_389 => Pu Try.prog (.addOff 1) [v15] (fun a => k_389 a V_387)) V_387 fun v248 V_390 =>
  GdV v244 true (fun k_392 => Rd Try.prog V_390 (.ld 1 false) [v248] (fun a => k_392 a V_390)) V_390 fun v249 V_393 =>
  GdV v244 true (fun k_395 => Pu Try.prog (.addOff 2) [v15] (fun a => k_395 a V_393)) V_393 fun v250 V_396 =>
  GdV v244 true (fun k_398 => Rd Try.prog V_396 (.ld 1 false) [v250] (fun a => k_398 a V_396)) V_396 fun v251 V_399 =>
  GdV v244 true (fun k_401 => Pu Try.prog (.un .neg) [v251] (fun a => k_401 a V_399)) V_399 fun v252 V_402 =>
  GdV v244 true (fun k_404 => CaV Try.prog V_402 v247 [v249, v252] (fun a => k_404 a V_402)) V_402 fun v253 V_405 =>
  GdV v244 true (fun k_407 => Pu Try.prog (.bin .eql 24) [v246, v253] (fun a => k_407 a V_405)) V_405 fun v254 _ =>
  Pu Try.prog .pick [v244, v254, (.p (.bool false))] fun v255 =>
  Rt Try.prog H.nx v255 Q
def S_prove_right_C6 (Q : AV → AH → Prop) (H : AH) (v8 : AV) (v15 : AV) (v16 : AV) (v105 : AV) : AH → Prop :=
  Pu Try.prog (.bin .eql 3) [v105, (.p (.int .i64 8))] fun v205 =>
  CdA v205
    (
    Vw fun V_309 =>
    Pu Try.prog (.addOff 0) [v15] fun v206 =>
    Rd Try.prog V_309 (.ld 1 false) [v206] fun v207 =>
    GdV v207 true (fun k_313 => Rd Try.prog V_309 (.ld 3 true) [v8] (fun a => k_313 a V_309)) V_309 fun v209 V_314 =>
    GdV v207 true (fun k_316 => k_316 (.fn (.func 42) [] []) V_314) V_314 fun v210 V_317 =>
    GdV v207 true (fun k_319 => Pu Try.prog (.addOff 1) [v15] (fun a => k_319 a V_317)) V_317 fun v211 V_320 =>
    GdV v207 true (fun k_322 => Rd Try.prog V_320 (.ld 1 false) [v211] (fun a => k_322 a V_320)) V_320 fun v212 V_323 =>
    GdV v207 true (fun k_325 => Pu Try.prog (.addOff 1) [v15] (fun a => k_325 a V_323)) V_323 fun v213 V_326 =>
    GdV v207 true (fun k_328 => Rd Try.prog V_326 (.ld 1 false) [v213] (fun a => k_328 a V_326)) V_326 fun v214 V_329 =>
    GdV v207 true (fun k_331 => CaV Try.prog V_329 v210 [v212, v214] (fun a => k_331 a V_329)) V_329 fun v215 V_332 =>
    GdV v207 true (fun k_334 => Pu Try.prog (.bin .eql 24) [v209, v215] (fun a => k_334 a V_332)) V_332 fun v216 _ =>
    Pu Try.prog .pick [v207, v216, (.p (.bool false))] fun v217 =>
    Rt Try.prog H.nx v217 Q
    ) (
    Pu Try.prog (.bin .eql 3) [v105, (.p (.int .i64 9))] fun v219 =>
    CdA v219
      (S_prove_right_C4 Q H v8 v15 v16) (S_prove_right_C5 Q H v15 v16)
    )
def S_prove_right_C7 (Q : AV → AH → Prop) (H : AH) (v8 : AV) (v15 : AV) (v16 : AV) (v105 : AV) : AH → Prop :=
  Pu Try.prog (.bin .eql 3) [v105, (.p (.int .i64 7))] fun v191 =>
  CdA v191
    (
    Vw fun V_280 =>
    Pu Try.prog (.addOff 0) [v15] fun v192 =>
    Rd Try.prog V_280 (.ld 1 false) [v192] fun v193 =>
    GdV v193 true (fun k_284 => Rd Try.prog V_280 (.ld 3 true) [v8] (fun a => k_284 a V_280)) V_280 fun v195 V_285 =>
    GdV v193 true (fun k_287 => k_287 (.fn (.func 42) [] []) V_285) V_285 fun v196 V_288 =>
    GdV v193 true (fun k_290 => Pu Try.prog (.addOff 2) [v15] (fun a => k_290 a V_288)) V_288 fun v197 V_291 =>
    GdV v193 true (fun k_293 => Rd Try.prog V_291 (.ld 1 false) [v197] (fun a => k_293 a V_291)) V_291 fun v198 V_294 =>
    GdV v193 true (fun k_296 => Pu Try.prog (.addOff 1) [v15] (fun a => k_296 a V_294)) V_294 fun v199 V_297 =>
    GdV v193 true (fun k_299 => Rd Try.prog V_297 (.ld 1 false) [v199] (fun a => k_299 a V_297)) V_297 fun v200 V_300 =>
    GdV v193 true (fun k_302 => CaV Try.prog V_300 v196 [v198, v200] (fun a => k_302 a V_300)) V_300 fun v201 V_303 =>
    GdV v193 true (fun k_305 => Pu Try.prog (.bin .eql 24) [v195, v201] (fun a => k_305 a V_303)) V_303 fun v202 _ =>
    Pu Try.prog .pick [v193, v202, (.p (.bool false))] fun v203 =>
    Rt Try.prog H.nx v203 Q
    ) (S_prove_right_C6 Q H v8 v15 v16 v105)
def S_prove_right_C8 (Q : AV → AH → Prop) (H : AH) (v8 : AV) (v15 : AV) (v16 : AV) (v105 : AV) : AH → Prop :=
  Pu Try.prog (.bin .eql 3) [v105, (.p (.int .i64 5))] fun v159 =>
  CdA v159
    (
    Vw fun V_240 =>
    Rd Try.prog V_240 (.ld 3 true) [v15] fun v160 =>
    Pu Try.prog (.addOff 1) [v8] fun v162 =>
    Rd Try.prog V_240 (.ld 1 false) [v162] fun v163 =>
    Pu Try.prog (.addOff 1) [v8] fun v164 =>
    Rd Try.prog V_240 (.ld 1 false) [v164] fun v165 =>
    Pu Try.prog (.un .neg) [v165] fun v166 =>
    CaV Try.prog V_240 (.fn (.func 41) [] []) [v163, v166] fun v167 =>
    Pu Try.prog (.bin .eql 24) [v160, v167] fun v168 =>
    GdV v168 true (fun k_250 => Pu Try.prog (.addOff 0) [v8] (fun a => k_250 a V_240)) V_240 fun v170 V_251 =>
    GdV v168 true (fun k_253 => Rd Try.prog V_251 (.ld 1 false) [v170] (fun a => k_253 a V_251)) V_251 fun v171 V_254 =>
    GdV v168 true (fun k_256 => Pu Try.prog (.un .not) [v171] (fun a => k_256 a V_254)) V_254 fun v172 _ =>
    Pu Try.prog .pick [v168, v172, (.p (.bool false))] fun v173 =>
    Rt Try.prog H.nx v173 Q
    ) (
    Pu Try.prog (.bin .eql 3) [v105, (.p (.int .i64 6))] fun v175 =>
    CdA v175
      (
      Vw fun V_260 =>
      Rd Try.prog V_260 (.ld 3 true) [v15] fun v176 =>
      Pu Try.prog (.addOff 2) [v8] fun v178 =>
      Rd Try.prog V_260 (.ld 1 false) [v178] fun v179 =>
      Pu Try.prog (.un .neg) [v179] fun v180 =>
      Pu Try.prog (.addOff 2) [v8] fun v181 =>
      Rd Try.prog V_260 (.ld 1 false) [v181] fun v182 =>
      CaV Try.prog V_260 (.fn (.func 41) [] []) [v180, v182] fun v183 =>
      Pu Try.prog (.bin .eql 24) [v176, v183] fun v184 =>
      GdV v184 true (fun k_270 => Pu Try.prog (.addOff 0) [v8] (fun a => k_270 a V_260)) V_260 fun v186 V_271 =>
      GdV v184 true (fun k_273 => Rd Try.prog V_271 (.ld 1 false) [v186] (fun a => k_273 a V_271)) V_271 fun v187 V_274 =>
      GdV v184 true (fun k_276 => Pu Try.prog (.un .not) [v187] (fun a => k_276 a V_274)) V_274 fun v188 _ =>
      Pu Try.prog .pick [v184, v188, (.p (.bool false))] fun v189 =>
      Rt Try.prog H.nx v189 Q
      ) (S_prove_right_C7 Q H v8 v15 v16 v105)
    )
def S_prove_right_C9 (Q : AV → AH → Prop) (H : AH) (v7 : AV) (v8 : AV) (v12 : AV) : AH → Prop :=
  Rg 8 fun b_138 =>
  Vw fun V_139 =>
  Pu Try.prog (.aidx 2 3) [v12, (.p (.int .i64 0))] fun v100 =>
  Rd Try.prog V_139 (.ld 3 true) [v100] fun v101 =>
  Pu Try.prog (.aidx 2 3) [v12, (.p (.int .i64 1))] fun v102 =>
  Rd Try.prog V_139 (.ld 3 true) [v102] fun v103 =>
  Al (b_138 + 4) (.nw 24 [.p (.bool false), .p (.int .i64 0), .p (.int .i64 0)]) [] fun v15 =>
  Al (b_138 + 5) (.nw 24 [.p (.bool false), .p (.int .i64 0), .p (.int .i64 0)]) [] fun v16 =>
  WrF V_139 (some (b_138 + 4)) none (b_138 + 6) (.st 3) [v15, v101] fun _ =>
  WrF V_139 (some (b_138 + 5)) none (b_138 + 7) (.st 3) [v16, v103] fun _ =>
  Pu Try.prog (.addOff 0) [v7] fun v104 =>
  RdS Try.prog (.ld 1 false) [v104] fun v105 =>
  Pu Try.prog (.bin .eql 3) [v105, (.p (.int .i64 2))] fun v107 =>
  CdA v107
    (
    Vw fun V_151 =>
    Rd Try.prog V_151 (.ld 3 true) [v8] fun v108 =>
    Pu Try.prog (.addOff 1) [v8] fun v110 =>
    Rd Try.prog V_151 (.ld 1 false) [v110] fun v111 =>
    Pu Try.prog (.addOff 1) [v8] fun v112 =>
    Rd Try.prog V_151 (.ld 1 false) [v112] fun v113 =>
    CaV Try.prog V_151 (.fn (.func 41) [] []) [v111, v113] fun v114 =>
    Pu Try.prog (.bin .eql 24) [v108, v114] fun v115 =>
    Rt Try.prog H.nx v115 Q
    ) (
    Pu Try.prog (.bin .eql 3) [v105, (.p (.int .i64 3))] fun v117 =>
    CdA v117
      (S_prove_right_C2 Q H v8 v15 v16) (
      Pu Try.prog (.bin .eql 3) [v105, (.p (.int .i64 4))] fun v142 =>
      CdA v142
        (S_prove_right_C3 Q H v8 v15) (S_prove_right_C8 Q H v8 v15 v16 v105)
      )
    )
def S_prove_right_L10 (a1 : AV) (a2 : AV) (Q : AV → AH → Prop) (H : AH) (v7 : AV) (v8 : AV) (v12 : AV) (v78 : AV) (v79 : AV) (vs : List AV) (k_118 : List AV → AH → Prop) : AH → Prop :=
  Pu Try.prog (.bin .lss 3) [(vs.getD 0 .any), v79] fun v81 =>
  CdA v81
    (
    Pu Try.prog (.idx 1) [v78, (vs.getD 0 .any)] fun v83 =>
    RdS Try.prog (.ld 1 false) [v83] fun v84 =>
    Pu Try.prog (.bin .lss 3) [v84, (.p (.int .i64 0))] fun v86 =>
    Gd v86 false (fun k_125 => k_125 v84) fun v88 =>
    Gd v86 false (fun k_127 => k_127 a2) fun v89 =>
    Gd v86 false (fun k_129 => Pu Try.prog (.bin .geq 3) [v88, v89] k_129) fun v90 =>
    Pu Try.prog .pick [v86, (.p (.bool true)), v90] fun v91 =>
    CdA v91
      (
      Rt Try.prog H.nx (.p (.bool false)) Q
      ) (
      Rg 8 fun b_131 =>
      Pu Try.prog (.idx 5) [a1, v84] fun v95 =>
      Pu Try.prog (.addOff 1) [v95] fun v96 =>
      RdS Try.prog (.ld 3 true) [v96] fun v97 =>
      Pu Try.prog (.aidx 2 3) [v12, (vs.getD 0 .any)] fun v98 =>
      WrS Try.prog (b_131 + 7) (.st 3) [v98, v97] fun _ =>
      Pu Try.prog (.bin .add 3) [(vs.getD 0 .any), (.p (.int .i64 1))] fun v99 =>
      k_118 [v99]
      )
    ) (S_prove_right_C9 Q H v7 v8 v12)
def S_prove_right_C11 (a1 : AV) (a2 : AV) (Q : AV → AH → Prop) (H : AH) (v7 : AV) (v8 : AV) : AH → Prop :=
  Rg 12 fun b_85 =>
  Al (b_85 + 0) (.mm 3) [] fun v59 =>
  WrS Try.prog (b_85 + 1) (.mset 3) [v59, (.p (.int .i64 2)), (.p (.int .i64 0))] fun _ =>
  WrS Try.prog (b_85 + 2) (.mset 3) [v59, (.p (.int .i64 3)), (.p (.int .i64 2))] fun _ =>
  WrS Try.prog (b_85 + 3) (.mset 3) [v59, (.p (.int .i64 4)), (.p (.int .i64 1))] fun _ =>
  WrS Try.prog (b_85 + 4) (.mset 3) [v59, (.p (.int .i64 5)), (.p (.int .i64 1))] fun _ =>
  WrS Try.prog (b_85 + 5) (.mset 3) [v59, (.p (.int .i64 6)), (.p (.int .i64 1))] fun _ =>
  WrS Try.prog (b_85 + 6) (.mset 3) [v59, (.p (.int .i64 7)), (.p (.int .i64 1))] fun _ =>
  WrS Try.prog (b_85 + 7) (.mset 3) [v59, (.p (.int .i64 8)), (.p (.int .i64 1))] fun _ =>
  WrS Try.prog (b_85 + 8) (.mset 3) [v59, (.p (.int .i64 9)), (.p (.int .i64 2))] fun _ =>
  WrS Try.prog (b_85 + 9) (.mset 3) [v59, (.p (.int .i64 10)), (.p (.int .i64 2))] fun _ =>
  Pu Try.prog (.addOff 0) [v7] fun v63 =>
  RdS Try.prog (.ld 1 false) [v63] fun v64 =>
  RdS Try.prog (.look 3 (.p (.int .i64 0)) true) [v59, v64] fun v65 =>
  Pu Try.prog (.ext 0) [v65] fun v66 =>
  Pu Try.prog (.ext 1) [v65] fun v67 =>
  Pu Try.prog (.un .not) [v67] fun v69 =>
  Gd v69 false (fun k_103 => Pu Try.prog (.addOff 4) [v7] k_103) fun v71 =>
  Gd v69 false (fun k_105 => RdS Try.prog (.ld 1 false) [v71] k_105) fun v72 =>
  Gd v69 false (fun k_107 => Pu Try.prog .len [v72] k_107) fun v73 =>
  Gd v69 false (fun k_109 => k_109 v66) fun v74 =>
  Gd v69 false (fun k_111 => Pu Try.prog (.bin .neq 3) [v73, v74] k_111) fun v75 =>
  Pu Try.prog .pick [v69, (.p (.bool true)), v75] fun v76 =>
  CdA v76
    (
    Rt Try.prog H.nx (.p (.bool false)) Q
    ) (
    Rg 1 fun b_113 =>
    Al (b_113 + 0) (.nw 66 [.p (.bool false), .p (.int .i64 0), .p (.int .i64 0), .p (.bool false), .p (.int .i64 0), .p (.int .i64 0)]) [] fun v12 =>
    Pu Try.prog (.addOff 4) [v7] fun v77 =>
    RdS Try.prog (.ld 1 false) [v77] fun v78 =>
    Pu Try.prog .len [v78] fun v79 =>
    LoopA Try.prog 1 (S_prove_right_L10 a1 a2 Q H v7 v8 v12 v78 v79) [(.p (.int .i64 0))]
    )
def S_prove_right (a0 a1 a2 : AV) (Q : AV → AH → Prop) (H : AH) : Prop := (
    Rg 6 fun b =>
    Pu Try.prog (.idx 5) [a1, a2] fun v21 =>
    RdS Try.prog (.ld 5 true) [v21] fun v22 =>
    Al (b + 4) (.nw 36 [.p (.int .i64 0), .p (.bool false), .p (.int .i64 0), .p (.int .i64 0), .p (.slice none 0 0)]) [] fun v7 =>
    WrS Try.prog (b + 5) (.st 5) [v7, v22] fun _ =>
    Rg 4 fun b_6 =>
    Pu Try.prog (.addOff 1) [v7] fun v23 =>
    RdS Try.prog (.ld 3 true) [v23] fun v24 =>
    Al (b_6 + 2) (.nw 24 [.p (.bool false), .p (.int .i64 0), .p (.int .i64 0)]) [] fun v8 =>
    WrS Try.prog (b_6 + 3) (.st 3) [v8, v24] fun _ =>
    Pu Try.prog (.addOff 0) [v7] fun v25 =>
    RdS Try.prog (.ld 1 false) [v25] fun v26 =>
    Pu Try.prog (.bin .eql 3) [v26, (.p (.int .i64 1))] fun v27 =>
    CdA v27
      (S_prove_right_C1 a0 Q H v7 v8) (S_prove_right_C11 a1 a2 Q H v7 v8)
    ) H
theorem eq_prove_right (a0 a1 a2 : AV) (Q : AV → AH → Prop) (H : AH) : FnA Try.prog 256 (regsF Try.f25) ac_prove_right [.tm 6] [a0, a1, a2] H Q = S_prove_right a0 a1 a2 Q H := by kernel_rfl
theorem tri_prove_right {a0 a1 a2 : AV} {H : AH} {Q : AV → AH → Prop} (h : S_prove_right a0 a1 a2 Q H) : Tri Try.prog 25 [a0, a1, a2] H Q :=
  tri_of (Ms := [#[], #[], #[], #[], #[0, 1, 3, 7, 15, 31, 63, 127, 255, 511, 1023, 2047, 4095, 8191, 16383, 32767, 4095, 69631, 262143, 524287, 1048575, 2097151, 2097151, 6291455, 14680063, 31457279, 67108863, 134217727, 2097151, 536870911, 1073741823, 2147483647], #[], #[], #[], #[], #[], #[], #[], #[], #[], #[], #[], #[], #[0, 1, 0, 4, 0, 0, 51, 127], #[], #[], #[], #[], #[0, 0, 0, 4, 0, 16, 62, 127, 255], #[], #[0, 0, 0, 4, 0, 16, 62, 127, 255, 511, 511, 511, 2559, 511, 8703, 32255, 65535, 131071, 262143, 524287, 1048575, 2097151, 4194303, 8388607], #[], #[0, 1, 3, 7, 15, 15, 15, 79, 207, 15, 527, 1551, 4079, 8191, 16383, 32767], #[], #[0, 0, 0, 4, 0, 16, 48, 126, 255, 511, 1023, 2047, 4095, 8191, 16383], #[], #[0, 0, 0, 4, 12, 0, 32, 126, 255, 511, 1023, 2047, 4095, 8191, 16383], #[], #[0, 1, 3, 7, 7, 7, 39, 7, 135, 503, 1023, 2047, 4095], #[], #[0, 1, 3, 7, 7, 7, 39, 7, 135, 503, 1023, 2047, 4095], #[], #[0, 0, 0, 4, 0, 16, 62, 127, 255, 511, 511, 511, 2559, 511, 8703, 32255, 65535, 131071, 262143, 524287, 1048575, 2097151, 4194303], #[0, 1, 3, 7, 15, 15, 15, 79, 15, 271, 783, 2031, 4095, 8191, 16383]]) mixed Try.func25 rfl (by kernel_rfl) (by kernel_rfl) rfl (of_decide_eq_true rfl : 3 ≤ 256) ((eq_prove_right a0 a1 a2 Q H).symm ▸ h : FnA Try.prog 256 (regsF Try.f25) ac_prove_right [.tm 6] [a0, a1, a2] H Q)

/-! wordhoard/prove.right$1 -/
def ac_prove_right_fn1 : AC := (.seq (.reg 0) (.seq (.reg 1) .ret))
def S_prove_right_fn1 (a0 a1 : AV) (Q : AV → AH → Prop) (H : AH) : Prop := (
    Rg 1 fun b =>
    Al (b + 0) (.nw 24 [.p (.bool false), .p (.int .i64 0), .p (.int .i64 0)]) [] fun v4 =>
    Rg 4 fun b_3 =>
    Pu Try.prog (.bld [.p (.bool false), .p (.int .i64 0), .p (.int .i64 0)] [(1, 1), (2, 1)]) [a0, a1] fun v7 =>
    WrS Try.prog (b_3 + 3) (.st 3) [v4, v7] fun _ =>
    RdS Try.prog (.ld 3 true) [v4] fun r4 =>
    Rt Try.prog H.nx r4 Q
    ) H
theorem eq_prove_right_fn1 (a0 a1 : AV) (Q : AV → AH → Prop) (H : AH) : FnA Try.prog 8 (regsF Try.f41) ac_prove_right_fn1 [.ce 4 24] [a0, a1] H Q = S_prove_right_fn1 a0 a1 Q H := by kernel_rfl
theorem tri_prove_right_fn1 {a0 a1 : AV} {H : AH} {Q : AV → AH → Prop} (h : S_prove_right_fn1 a0 a1 Q H) : Tri Try.prog 41 [a0, a1] H Q :=
  tri_of (Ms := [#[], #[]]) mixed Try.func41 rfl (by kernel_rfl) (by kernel_rfl) rfl (of_decide_eq_true rfl : 2 ≤ 8) ((eq_prove_right_fn1 a0 a1 Q H).symm ▸ h : FnA Try.prog 8 (regsF Try.f41) ac_prove_right_fn1 [.ce 4 24] [a0, a1] H Q)

/-! wordhoard/prove.right$2 -/
def ac_prove_right_fn2 : AC := (.seq (.reg 0) (.seq (.reg 1) .ret))
def S_prove_right_fn2 (a0 a1 : AV) (Q : AV → AH → Prop) (H : AH) : Prop := (
    Rg 1 fun b =>
    Al (b + 0) (.nw 24 [.p (.bool false), .p (.int .i64 0), .p (.int .i64 0)]) [] fun v4 =>
    Rg 4 fun b_3 =>
    Pu Try.prog (.bld [.p (.bool false), .p (.int .i64 0), .p (.int .i64 0)] [(0, 1), (1, 1), (2, 1)]) [(.p (.bool true)), a0, a1] fun v7 =>
    WrS Try.prog (b_3 + 3) (.st 3) [v4, v7] fun _ =>
    RdS Try.prog (.ld 3 true) [v4] fun r4 =>
    Rt Try.prog H.nx r4 Q
    ) H
theorem eq_prove_right_fn2 (a0 a1 : AV) (Q : AV → AH → Prop) (H : AH) : FnA Try.prog 8 (regsF Try.f42) ac_prove_right_fn2 [.ce 4 24] [a0, a1] H Q = S_prove_right_fn2 a0 a1 Q H := by kernel_rfl
theorem tri_prove_right_fn2 {a0 a1 : AV} {H : AH} {Q : AV → AH → Prop} (h : S_prove_right_fn2 a0 a1 Q H) : Tri Try.prog 42 [a0, a1] H Q :=
  tri_of (Ms := [#[], #[]]) mixed Try.func42 rfl (by kernel_rfl) (by kernel_rfl) rfl (of_decide_eq_true rfl : 2 ≤ 8) ((eq_prove_right_fn2 a0 a1 Q H).symm ▸ h : FnA Try.prog 8 (regsF Try.f42) ac_prove_right_fn2 [.ce 4 24] [a0, a1] H Q)

/-! wordhoard/prove.Sound -/
def ac_prove_Sound : AC := (.seq (.reg 0) (.seq (.seq (.reg 1) (.cond (.tmp 13) (.seq (.reg 2) .ret) .skip)) (.seq (.reg 3) (.seq (.seq (.reg 4) (.block 0 (.loop [6, 16] [(8, 9), (17, 26)] (.seq (.reg 5) (.seq (.cond (.tmp 17) .skip (.exit 0)) (.seq (.block 1 (.seq (.reg 6) (.reg 7))) (.reg 8))))))) (.seq (.seq (.reg 9) (.seq (.reg 10) (.cond (.tmp 30) (.seq (.reg 11) .ret) .skip))) (.seq (.seq (.reg 12) (.block 2 (.loop [34] [(4, 6), (10, 11), (35, 43)] (.seq (.reg 13) (.seq (.cond (.tmp 35) .skip (.exit 2)) (.seq (.block 3 (.seq (.reg 14) (.seq (.reg 15) (.cond (.tmp 41) (.seq (.reg 16) .ret) .skip)))) (.reg 17))))))) (.seq (.reg 18) .ret)))))))
def S_prove_Sound_L1 (a0 : AV) (a1 : AV) (Q : AV → AH → Prop) (H : AH) (v33 : AV) (vs_22 : List AV) (k_21 : List AV → AH → Prop) : AH → Prop :=
  Pu Try.prog (.bin .lss 3) [(vs_22.getD 0 .any), v33] fun v35 =>
  CdA v35
    (
    Ca Try.prog (.fn (.func 25) [] []) [a0, a1, (vs_22.getD 0 .any)] fun v40 =>
    Pu Try.prog (.un .not) [v40] fun v41 =>
    CdA v41
      (
      Rt Try.prog H.nx (.tup [(.p (.bool false)), (.p (.int .i64 0))]) Q
      ) (
      Pu Try.prog (.bin .add 3) [(vs_22.getD 0 .any), (.p (.int .i64 1))] fun v42 =>
      k_21 [v42]
      )
    ) (
    Rt Try.prog H.nx (.tup [(.p (.bool true)), (.p (.int .i64 0))]) Q
    )
def S_prove_Sound_L2 (a0 : AV) (a1 : AV) (Q : AV → AH → Prop) (H : AH) (v15 : AV) (vs : List AV) (k : List AV → AH → Prop) : AH → Prop :=
  Pu Try.prog (.bin .lss 3) [(vs.getD 1 .any), v15] fun v17 =>
  CdA v17
    (
    Rg 4 fun b =>
    Pu Try.prog (.idx 5) [a1, (vs.getD 1 .any)] fun v18 =>
    RdS Try.prog (.ld 5 true) [v18] fun v19 =>
    Al (b + 2) (.nw 36 [.p (.int .i64 0), .p (.bool false), .p (.int .i64 0), .p (.int .i64 0), .p (.slice none 0 0)]) [] fun v8 =>
    WrS Try.prog (b + 3) (.st 5) [v8, v19] fun _ =>
    Rg 6 fun b_12 =>
    Pu Try.prog (.addOff 1) [v8] fun v21 =>
    RdS Try.prog (.ld 3 true) [v21] fun v22 =>
    Al (b_12 + 3) (.bs 24 3 1 [.p (.bool false), .p (.int .i64 0), .p (.int .i64 0)] [(0, 3)]) [v22] fun v23 =>
    WrS Try.prog (b_12 + 4) (.app 24 3 24) [(vs.getD 0 .any), v23] fun v24 =>
    Pu Try.prog (.bin .add 3) [(vs.getD 1 .any), (.p (.int .i64 1))] fun v25 =>
    k [v24, v25]
    ) (
    Ca Try.prog (.fn (.func 24) [] []) [a0, (vs.getD 0 .any)] fun v28 =>
    Pu Try.prog (.bin .neq 25) [v28, (.p (.int .i64 0))] fun v30 =>
    CdA v30
      (
      Rt Try.prog H.nx (.tup [(.p (.bool false)), v28]) Q
      ) (
      Pu Try.prog .len [a1] fun v33 =>
      LoopA Try.prog 1 (S_prove_Sound_L1 a0 a1 Q H v33) [(.p (.int .i64 0))]
      )
    )
def S_prove_Sound (a0 a1 : AV) (Q : AV → AH → Prop) (H : AH) : Prop := (
    Pu Try.prog .len [a1] fun v12 =>
    Pu Try.prog (.bin .gtr 3) [v12, (.p (.int .i64 400))] fun v13 =>
    CdA v13
      (
      Rt Try.prog H.nx (.tup [(.p (.bool false)), (.p (.int .i64 7))]) Q
      ) (
      Pu Try.prog .len [a1] fun v15 =>
      LoopA Try.prog 2 (S_prove_Sound_L2 a0 a1 Q H v15) [(.p (.slice none 0 0)), (.p (.int .i64 0))]
      )
    ) H
theorem eq_prove_Sound (a0 a1 : AV) (Q : AV → AH → Prop) (H : AH) : FnA Try.prog 43 (regsF Try.f13) ac_prove_Sound [.tm 4, .tm 5] [a0, a1] H Q = S_prove_Sound a0 a1 Q H := by kernel_rfl
theorem tri_prove_Sound {a0 a1 : AV} {H : AH} {Q : AV → AH → Prop} (h : S_prove_Sound a0 a1 Q H) : Tri Try.prog 13 [a0, a1] H Q :=
  tri_of (Ms := [#[], #[], #[], #[], #[], #[], #[], #[], #[], #[], #[], #[], #[], #[], #[], #[], #[], #[], #[]]) mixed Try.func13 rfl (by kernel_rfl) (by kernel_rfl) rfl (of_decide_eq_true rfl : 2 ≤ 43) ((eq_prove_Sound a0 a1 Q H).symm ▸ h : FnA Try.prog 43 (regsF Try.f13) ac_prove_Sound [.tm 4, .tm 5] [a0, a1] H Q)
end Go.Proofs.Ytcmnjoepadjioaa
