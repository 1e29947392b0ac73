/- Texts that the proof rests on, part 13: what each holds stands at its head. -/
import Derived.Test.YtaepnmnoofigjaaKb12

/- Scores as they lie; their check. -/
namespace Go.Proofs.Ytaepnmnoofigjaa
open Go.RowKit Go.Maps
def iv (i : Int) : AV := .p (.int .i64 i)
def bv (b : Bool) : AV := .p (.bool b)
def iE (l : List Int) : List (List AV) := l.map fun x => [iv x]
theorem iE_len (l : List Int) : (iE l).length = l.length := List.length_map _
theorem iE_at {l : List Int} {i : Nat} {x : Int} (h : l[i]? = some x) : (iE l)[i]? = some [iv x] := by rw [iE, List.getElem?_map, h]; rfl
theorem dt_iE (l : List Int) : DtR (iE l) := fun e he a ha => by
  obtain ⟨s, _, rfl⟩ := List.mem_map.1 he
  rw [List.mem_singleton.1 ha]; exact Dt.p _
/-- numbers, wherever they lie -/
def UpAt (H : AH) (a : AV) (l : List Int) : Prop := elF H 1 a = some (iE l)
theorem UpAt.dsl {H : AH} (l : List Int) : UpAt H (.dsl 1 (iE l)) l := elF_dsl _ _
theorem UpAt.le {H H1 : AH} {a : AV} {l : List Int} (h : UpAt H a l) (hle : H.le H1) : UpAt H1 a l := elF_le h hle
theorem UpAt.len {H : AH} {a : AV} {l : List Int} (h : UpAt H a l) (P : Program) (k : AV → AH → Prop) (H' : AH) : Pu P .len [a] k H' = k (iv (l.length : Int)) H' := by rw [elF_len h, iE_len]; rfl
theorem UpAt.acc {H : AH} {a : AV} {l : List Int} (h : UpAt H a l) {i : Nat} {x : Int} (hx : l[i]? = some x) : ∃ q : Nat → AV, (∀ (P : Program) (kd : IntKind) (k : AV → AH → Prop) (H' : AH), Pu P (.idx 1) [a, .p (.int kd (i : Int))] k H' = k (q 0) H') ∧ atF H (q 0) = some [iv x] := by
  obtain ⟨q, q1, q2, q3⟩ := elF_acc (by decide) h (iE_at hx)
  exact ⟨q, q1, q3 0⟩
/-- scores, wherever they lie -/
def ScAt (H : AH) (a : AV) (s : List (List Int)) : Prop := ∃ bs : List AV, elF H 1 a = some (bs.map fun b => [b]) ∧ bs.length = s.length ∧ ∀ (i : Nat) (r : List Int), s[i]? = some r → ∃ b, bs[i]? = some b ∧ UpAt H b r
def scA (s : List (List Int)) : AV := .dsl 1 (s.map fun r => [.dsl 1 (iE r)])
theorem ScAt.dsl {H : AH} (s : List (List Int)) : ScAt H (scA s) s := by
  refine ⟨s.map fun r => .dsl 1 (iE r), ?_, by simp, fun i r hr => ⟨_, by rw [List.getElem?_map, hr]; rfl, .dsl _⟩⟩
  rw [scA, elF_dsl, List.map_map]; rfl
theorem ScAt.le {H H1 : AH} {a : AV} {s : List (List Int)} (h : ScAt H a s) (hle : H.le H1) : ScAt H1 a s := by
  obtain ⟨bs, h1, h2, h3⟩ := h
  exact ⟨bs, elF_le h1 hle, h2, fun i r hr => by obtain ⟨b, k1, k2⟩ := h3 i r hr; exact ⟨b, k1, k2.le hle⟩⟩
theorem ScAt.len {H : AH} {a : AV} {s : List (List Int)} (h : ScAt H a s) (P : Program) (k : AV → AH → Prop) (H' : AH) : Pu P .len [a] k H' = k (iv (s.length : Int)) H' := by
  obtain ⟨bs, h1, h2, _⟩ := h
  rw [elF_len h1, List.length_map, h2]; rfl
theorem ScAt.acc {H : AH} {a : AV} {s : List (List Int)} (h : ScAt H a s) {i : Nat} {r : List Int} (hr : s[i]? = some r) : ∃ (q : Nat → AV) (b : AV), (∀ (P : Program) (kd : IntKind) (k : AV → AH → Prop) (H' : AH), Pu P (.idx 1) [a, .p (.int kd (i : Int))] k H' = k (q 0) H') ∧ atF H (q 0) = some [b] ∧ UpAt H b r := by
  obtain ⟨bs, h1, h2, h3⟩ := h
  obtain ⟨b, k1, k2⟩ := h3 i r hr
  obtain ⟨q, q1, q2, q3⟩ := elF_acc (by decide) h1 (i := i) (e := [b]) (by rw [List.getElem?_map, k1]; rfl)
  exact ⟨q, b, q1, q3 0, k2⟩
theorem any_take {α : Type} {xs : List α} {p : α → Bool} {i : Nat} {x : α} (h : ∀ y ∈ xs.take i, p y = false) (hx : xs[i]? = some x) (hp : p x = false) : ∀ y ∈ xs.take (i + 1), p y = false := fun y hy => by
  rw [List.take_add_one, hx, List.mem_append] at hy
  rcases hy with hy | hy
  · exact h y hy
  · simp at hy; subst hy; exact hp
theorem any_done {α : Type} {xs : List α} {p : α → Bool} {i : Nat} (h : ∀ y ∈ xs.take i, p y = false) (hi : xs.length ≤ i) : xs.any p = false := by
  rw [List.any_eq_false]; intro y hy; rw [h y (by rw [List.take_of_length_le hi]; exact hy)]; simp
theorem any_hit {α : Type} {xs : List α} {p : α → Bool} {i : Nat} {x : α} (hx : xs[i]? = some x) (hp : p x = true) : xs.any p = true := List.any_eq_true.2 ⟨x, List.mem_of_getElem? hx, hp⟩
theorem c_IndexFunc {H : AH} {a : AV} {xs : List Int} {g : FuncId} {first cap : List AV} {p : Int → Bool} (ha : UpAt H a xs) (hl : xs.length < 1000000000) (hg : callable Try.prog g = true) (hp : ∀ x ∈ xs, Tri Try.prog g (first ++ [iv x] ++ cap) H (fun v H' => H' = H ∧ v = bv (p x))) :
    Tri Try.prog 33 [a, .fn (.func g) first cap] H (fun v H' => H' = H ∧ ∃ i : Int, v = iv i ∧ decide (0 ≤ i) = xs.any p) := tri_wf fun hw => tri_slices_IndexFunc_s_int_int (by
  unfold S_slices_IndexFunc_s_int_int
  simp [ha.len]
  refine loop_st (fun i : Nat => [iv i]) (fun i H' => H' = H ∧ i ≤ xs.length ∧ ∀ y ∈ xs.take i, p y = false) (fun i => xs.length - i) 0 (.refl (Nat.le_refl _)) ⟨rfl, Nat.zero_le _, by simp⟩ ?_
  rintro i _ _ ⟨rfl, hi, hno⟩ k hk
  unfold S_slices_IndexFunc_s_int_int_L1
  by_cases h : i < xs.length
  · obtain ⟨x, hx⟩ : ∃ x, xs[i]? = some x := ⟨_, List.getElem?_eq_getElem h⟩
    obtain ⟨q, q1, q3⟩ := ha.acc hx
    simp [iv, h, q1, q3]
    refine ca_pure hg (hp x (List.mem_of_getElem? hx)) ?_
    cases hq : p x
    · simp [bv]
      rw [ivn (by omega)]
      exact hk (i + 1) _ _ _ (.refl (Nat.le_refl _)) ⟨rfl, h, any_take hno hx hq⟩ (by omega)
    · simp [bv]
      exact rt_refl ⟨rfl, _, rfl, by rw [any_hit hx hq]; simp⟩ (Nat.le_refl _)
  · simp [iv, h]
    exact rt_refl ⟨rfl, _, rfl, by rw [any_done hno (by omega)]; rfl⟩ (Nat.le_refl _))
theorem c_ContainsFunc {H : AH} {a : AV} {xs : List Int} {g : FuncId} {first cap : List AV} {p : Int → Bool} (ha : UpAt H a xs) (hl : xs.length < 1000000000) (hg : callable Try.prog g = true) (hp : ∀ x ∈ xs, Tri Try.prog g (first ++ [iv x] ++ cap) H (fun v H' => H' = H ∧ v = bv (p x))) :
    Tri Try.prog 27 [a, .fn (.func g) first cap] H (fun v H' => H' = H ∧ v = bv (xs.any p)) := tri_wf fun hw => tri_slices_ContainsFunc_s_int_int (by
  unfold S_slices_ContainsFunc_s_int_int
  refine ca_of (by kernel_rfl) (c_IndexFunc ha hl hg hp) ?_
  rintro _ H1 ⟨rfl, i, rfl, hi⟩
  simp [iv, bv]
  exact rt_refl ⟨rfl, by rw [← hi]⟩ (Nat.le_refl _))
/-- too far -/
def farB (x : Int) : Bool := decide (x < -1000000) || decide (x > 1000000)
theorem c_Ck1 (x : Int) : PF Try.prog 28 [iv x] (bv (farB x)) := fun H => tri_wf fun hw => tri_heads_Check_fn1 (by
  unfold S_heads_Check_fn1 farB
  by_cases h : x < -1000000
  · simp [iv, h]
    exact rt_refl ⟨rfl, rfl⟩ (Nat.le_refl _)
  · simp [iv, h]
    exact rt_refl ⟨rfl, rfl⟩ (Nat.le_refl _))
/-- what a check says -/
def chk (s : List (List Int)) : Int := if s.length < 1 ∨ s.length > 13 then 7 else if s.any (fun r => decide (r.length ≠ s.length - 1)) then 1 else if s.any (fun r => r.any farB) then 3 else 0
theorem chk_7 {s : List (List Int)} (h : s.length < 1 ∨ s.length > 13) : chk s = 7 := by unfold chk; rw [if_pos h]
theorem chk_1 {s : List (List Int)} (h : ¬ (s.length < 1 ∨ s.length > 13)) {r : List Int} (hr : r ∈ s) (hq : r.length ≠ s.length - 1) : chk s = 1 := by
  unfold chk; rw [if_neg h, if_pos (List.any_eq_true.2 ⟨r, hr, by simpa using hq⟩)]
theorem chk_3 {s : List (List Int)} (h : ¬ (s.length < 1 ∨ s.length > 13)) (ha : ∀ r ∈ s, r.length = s.length - 1) {r : List Int} (hr : r ∈ s) (hf : r.any farB = true) : chk s = 3 := by
  unfold chk
  rw [if_neg h, if_neg, if_pos (List.any_eq_true.2 ⟨r, hr, hf⟩)]
  rw [Bool.not_eq_true, List.any_eq_false]
  intro x hx; simp [ha x hx]
theorem chk_0 {s : List (List Int)} (h : ¬ (s.length < 1 ∨ s.length > 13)) (ha : ∀ r ∈ s, r.length = s.length - 1) (hf : ∀ r ∈ s, r.any farB = false) : chk s = 0 := by
  unfold chk
  rw [if_neg h, if_neg, if_neg]
  · rw [Bool.not_eq_true, List.any_eq_false]
    intro x hx; simp [hf x hx]
  · rw [Bool.not_eq_true, List.any_eq_false]
    intro x hx; simp [ha x hx]
theorem chk_ok {s : List (List Int)} (h : chk s = 0) : 1 ≤ s.length ∧ s.length ≤ 13 ∧ (∀ r ∈ s, r.length = s.length - 1) ∧ ∀ r ∈ s, ∀ x ∈ r, -1000000 ≤ x ∧ x ≤ 1000000 := by
  unfold chk at h
  by_cases h1 : s.length < 1 ∨ s.length > 13
  · rw [if_pos h1] at h; cases h
  rw [if_neg h1] at h
  by_cases h2 : s.any (fun r => decide (r.length ≠ s.length - 1)) = true
  · rw [if_pos h2] at h; cases h
  rw [if_neg h2] at h
  by_cases h3 : s.any (fun r => r.any farB) = true
  · rw [if_pos h3] at h; cases h
  rw [Bool.not_eq_true] at h2 h3
  refine ⟨by omega, by omega, fun r hr => by simpa using List.any_eq_false.1 h2 r hr, fun r hr x hx => ?_⟩
  have := List.any_eq_false.1 h3 r hr
  rw [Bool.not_eq_true, List.any_eq_false] at this
  have := this x hx
  unfold farB at this
  simp at this
  omega
set_option maxHeartbeats 2000000 in
theorem c_Check {H : AH} {a : AV} {s : List (List Int)} (ha : ScAt H a s) : Tri Try.prog 12 [a] H (fun v H' => H' = H ∧ v = iv (chk s)) := tri_wf fun hw => tri_heads_Check (by
  unfold S_heads_Check
  have hle1 := ha.len
  by_cases h1 : s.length < 1
  · rw [chk_7 (.inl h1)]
    have h1' : ((s.length : Int) < 1) := by omega
    simp [hle1, iv, h1']
    exact rt_refl ⟨rfl, rfl⟩ (Nat.le_refl _)
  have h1' : ¬ ((s.length : Int) < 1) := by omega
  by_cases h2 : s.length > 13
  · rw [chk_7 (.inr h2)]
    have h2' : ((s.length : Int) > 13) := by omega
    simp [hle1, iv, h1', h2']
    exact rt_refl ⟨rfl, rfl⟩ (Nat.le_refl _)
  have h2' : ¬ ((s.length : Int) > 13) := by omega
  have hr0 : ¬ (s.length < 1 ∨ s.length > 13) := by omega
  simp [hle1, iv, h1', h2']
  refine loop_st (fun i : Nat => [iv i]) (fun i H' => H = H' ∧ i ≤ s.length ∧ ∀ r ∈ s.take i, decide (r.length ≠ s.length - 1) = false) (fun i => s.length - i) 0 (.refl (Nat.le_refl _)) ⟨rfl, Nat.zero_le _, by simp⟩ ?_
  rintro i _ _ ⟨rfl, hi, hno⟩ k hk
  unfold S_heads_Check_L2
  by_cases h : i < s.length
  · obtain ⟨r, hr⟩ : ∃ r, s[i]? = some r := ⟨_, List.getElem?_eq_getElem h⟩
    obtain ⟨q, b, q1, q3, hb⟩ := ha.acc hr
    have hsub : IntKind.i64.wrap ((s.length : Int) - 1) = ((s.length - 1 : Nat) : Int) := by rw [IntKind.wrap_i64]; omega
    simp [iv, h, q1, q3, hb.len, hle1, hsub]
    by_cases hq : r.length = s.length - 1
    · have hq' : ((r.length : Int)) = ((s.length - 1 : Nat) : Int) := by omega
      simp [hq]
      rw [ivn (by omega)]
      exact hk (i + 1) _ _ _ (.refl (Nat.le_refl _)) ⟨rfl, h, any_take hno hr (by simp [hq])⟩ (by omega)
    · have hq' : ¬ ((r.length : Int)) = ((s.length - 1 : Nat) : Int) := by omega
      simp [hq']
      exact rt_refl ⟨rfl, by rw [chk_1 hr0 (List.mem_of_getElem? hr) hq]⟩ (Nat.le_refl _)
  · have hany := any_done hno (by omega)
    have hall : ∀ r ∈ s, r.length = s.length - 1 := fun r hr => by
      have := List.any_eq_false.1 hany r hr
      simpa using this
    simp [iv, h, hle1]
    refine loop_st (fun i : Nat => [iv i]) (fun i H' => H = H' ∧ i ≤ s.length ∧ ∀ r ∈ s.take i, r.any farB = false) (fun i => s.length - i) 0 (.refl (Nat.le_refl _)) ⟨rfl, Nat.zero_le _, by simp⟩ ?_
    rintro j _ _ ⟨rfl, hj, hnj⟩ k2 hk2
    unfold S_heads_Check_L1
    by_cases hjl : j < s.length
    · obtain ⟨r, hr⟩ : ∃ r, s[j]? = some r := ⟨_, List.getElem?_eq_getElem hjl⟩
      obtain ⟨q, b, q1, q3, hb⟩ := ha.acc hr
      have hrl := hall r (List.mem_of_getElem? hr)
      simp [iv, hjl, q1, q3]
      refine ca_pure (by kernel_rfl) (c_ContainsFunc hb (by omega) (by kernel_rfl) fun x _ => c_Ck1 x _) ?_
      cases hf : r.any farB with
      | false =>
        simp [bv]
        rw [ivn (by omega)]
        exact hk2 (j + 1) _ _ _ (.refl (Nat.le_refl _)) ⟨rfl, hjl, any_take hnj hr hf⟩ (by omega)
      | true =>
        simp [bv]
        exact rt_refl ⟨rfl, by rw [chk_3 hr0 hall (List.mem_of_getElem? hr) hf]⟩ (Nat.le_refl _)
    · have hany2 := any_done hnj (by omega)
      simp [iv, hjl]
      refine rt_refl ⟨rfl, ?_⟩ (Nat.le_refl _)
      rw [chk_0 hr0 hall fun r hr => by have := List.any_eq_false.1 hany2 r hr; simpa using this])
end Go.Proofs.Ytaepnmnoofigjaa

/- Worth, roots, and who hangs on 0. -/
namespace Go.Proofs.Ytaepnmnoofigjaa
open Go.RowKit Go.Maps
/-- a score by nodes -/
def sco (s : List (List Int)) (h w : Nat) : Int := (s.getD h []).getD (w - 1) 0
/-- scores that a check lets by, n nodes -/
def ScOk (n : Nat) (s : List (List Int)) : Prop := s.length = n ∧ 1 ≤ n ∧ n ≤ 13 ∧ (∀ r ∈ s, r.length = n - 1) ∧ ∀ r ∈ s, ∀ x ∈ r, -1000000 ≤ x ∧ x ≤ 1000000
theorem ScOk.of {s : List (List Int)} (h : chk s = 0) : ScOk s.length s := ⟨rfl, (chk_ok h).1, (chk_ok h).2.1, (chk_ok h).2.2.1, (chk_ok h).2.2.2⟩
theorem ScOk.at_ {n : Nat} {s : List (List Int)} (h : ScOk n s) {i w : Nat} (hi : i < n) (h0 : 0 < w) (hw : w < n) : ∃ r, s[i]? = some r ∧ r[w - 1]? = some (sco s i w) ∧ -1000000 ≤ sco s i w ∧ sco s i w ≤ 1000000 := by
  obtain ⟨h1, h2, h3, h4, h5⟩ := h
  have hr : s[i]? = some s[i] := List.getElem?_eq_getElem (by omega)
  have hl := h4 _ (List.getElem_mem (by omega : i < s.length))
  have hx : (s[i]'(by omega))[w - 1]? = some ((s[i]'(by omega))[w - 1]'(by omega)) := List.getElem?_eq_getElem (by omega)
  have hs : sco s i w = (s[i]'(by omega))[w - 1]'(by omega) := by
    simp [sco, List.getD_eq_getElem?_getD, hr, hx]
  refine ⟨_, hr, by rw [hx, hs], ?_⟩
  rw [hs]
  exact h5 _ (List.getElem_mem _) _ (List.getElem_mem _)
theorem ScOk.rng {n : Nat} {s : List (List Int)} (h : ScOk n s) : ∀ i w, i < n → 0 < w → w < n → -1000000 ≤ sco s i w ∧ sco s i w ≤ 1000000 := fun i w hi h0 hw => (h.at_ hi h0 hw).elim fun r hr => hr.2.2
theorem c_worth {H : AH} {a b : AV} {n : Nat} {s : List (List Int)} {u : Nat → Nat} (ha : ScAt H a s) (hs : ScOk n s) (hb : UpAt H b (lst n u)) (hu : ∀ v, 0 < v → v < n → u v < n) : Tri Try.prog 23 [a, b] H (fun v H' => H' = H ∧ v = iv (Wt n (sco s) u)) := tri_wf fun hw => tri_heads_worth (by
  have hn := hs.2.2.1
  unfold S_heads_worth
  simp [hb.len, lst_len]
  refine loop_st (fun i : Nat => [iv (wtK (sco s) u i), iv i]) (fun i H' => H = H' ∧ i ≤ n - 1) (fun i => n - 1 - i) 0 (.refl (Nat.le_refl _)) ⟨rfl, Nat.zero_le _⟩ ?_
  rintro i _ _ ⟨rfl, hi⟩ k hk
  unfold S_heads_worth_L1
  by_cases h : i < n - 1
  · obtain ⟨q, q1, q3⟩ := hb.acc (lst_at (u := u) h)
    have huv := hu (i + 1) (by omega) (by omega)
    obtain ⟨r, hr, hx, hrg⟩ := hs.at_ huv (w := i + 1) (by omega) (by omega)
    obtain ⟨p, c, p1, p3, hc⟩ := ha.acc hr
    obtain ⟨z, z1, z3⟩ := hc.acc (i := i) hx
    have hbd := wtK_abs (M := 1000000) hu hs.rng i hi
    have hwr : IntKind.i64.wrap (wtK (sco s) u i + sco s (u (i + 1)) (i + 1)) = wtK (sco s) u (i + 1) := by rw [wtK_succ, IntKind.wrap_i64]; omega
    simp [iv, h, q1, q3, p1, p3, z1, z3, hwr]
    rw [ivn (by omega)]
    exact hk (i + 1) _ _ _ (.refl (Nat.le_refl _)) ⟨rfl, h⟩ (by omega)
  · have : i = n - 1 := by omega
    subst this
    simp [iv]
    exact rt_refl ⟨rfl, rfl⟩ (Nat.le_refl _))
theorem c_HangWorth {H : AH} {a b : AV} {n : Nat} {s : List (List Int)} {u : Nat → Nat} (ha : ScAt H a s) (hs : ScOk n s) (hb : UpAt H b (lst n u)) (hu : ∀ v, 0 < v → v < n → u v < n) : Tri Try.prog 10 [a, b] H (fun v H' => H' = H ∧ v = iv (Wt n (sco s) u)) := tri_wf fun hw => tri_wordhoardref_HangWorth (by
  have hn := hs.2.2.1
  unfold S_wordhoardref_HangWorth
  refine loop_st (fun i : Nat => [iv (wtK (sco s) u i), iv i]) (fun i H' => H = H' ∧ i ≤ n - 1) (fun i => n - 1 - i) 0 (.refl (Nat.le_refl _)) ⟨rfl, Nat.zero_le _⟩ ?_
  rintro i _ _ ⟨rfl, hi⟩ k hk
  unfold S_wordhoardref_HangWorth_L1
  by_cases h : i < n - 1
  · obtain ⟨q, q1, q3⟩ := hb.acc (lst_at (u := u) h)
    have huv := hu (i + 1) (by omega) (by omega)
    obtain ⟨r, hr, hx, hrg⟩ := hs.at_ huv (w := i + 1) (by omega) (by omega)
    obtain ⟨p, c, p1, p3, hc⟩ := ha.acc hr
    obtain ⟨z, z1, z3⟩ := hc.acc (i := i) hx
    have hbd := wtK_abs (M := 1000000) hu hs.rng i hi
    have hwr : IntKind.i64.wrap (wtK (sco s) u i + sco s (u (i + 1)) (i + 1)) = wtK (sco s) u (i + 1) := by rw [wtK_succ, IntKind.wrap_i64]; omega
    simp [hb.len, lst_len, iv, h, q1, q3, p1, p3, z1, z3, hwr]
    rw [ivn (by omega)]
    exact hk (i + 1) _ _ _ (.refl (Nat.le_refl _)) ⟨rfl, h⟩ (by omega)
  · have : i = n - 1 := by omega
    subst this
    simp [hb.len, lst_len, iv]
    exact rt_refl ⟨rfl, rfl⟩ (Nat.le_refl _))
theorem c_Roots {H : AH} {b : AV} {n : Nat} {u : Nat → Nat} (hn : n ≤ 13) (hb : UpAt H b (lst n u)) : Tri Try.prog 17 [b] H (fun v H' => H' = H ∧ v = iv (rts u (n - 1) : Nat)) := tri_wf fun hw => tri_wordhoardref_Roots (by
  unfold S_wordhoardref_Roots
  refine loop_st (fun i : Nat => [iv (rts u i : Nat), iv i]) (fun i H' => H = H' ∧ i ≤ n - 1 ∧ rts u i ≤ i) (fun i => n - 1 - i) 0 (.refl (Nat.le_refl _)) ⟨rfl, Nat.zero_le _, Nat.le_refl _⟩ ?_
  rintro i _ _ ⟨rfl, hi, hri⟩ k hk
  unfold S_wordhoardref_Roots_L1
  by_cases h : i < n - 1
  · obtain ⟨q, q1, q3⟩ := hb.acc (lst_at (u := u) h)
    have hr1 : rts u (i + 1) = rts u i + if u (i + 1) = 0 then 1 else 0 := rfl
    by_cases h0 : u (i + 1) = 0
    · rw [if_pos h0] at hr1
      simp [hb.len, lst_len, iv, h, q1, q3, h0]
      rw [ivn (by omega), ivn (by omega)]
      have := hk (i + 1) H _ _ (.refl (Nat.le_refl _)) ⟨rfl, h, by omega⟩ (by omega)
      rw [hr1] at this
      exact this
    · rw [if_neg h0] at hr1
      have h0' : ¬ ((u (i + 1) : Int) = 0) := by omega
      simp [hb.len, lst_len, iv, h, q1, q3, h0]
      rw [ivn (by omega)]
      have := hk (i + 1) H _ _ (.refl (Nat.le_refl _)) ⟨rfl, h, by omega⟩ (by omega)
      rw [hr1] at this
      exact this
  · have : i = n - 1 := by omega
    subst this
    simp [hb.len, lst_len, iv]
    exact rt_refl ⟨rfl, rfl⟩ (Nat.le_refl _))
theorem clm_zero (up : List Int) (f : Nat) : clm up f 0 = true := by cases f <;> simp [clm]
theorem clm_next {up : List Int} {f : Nat} {k : Nat} {x : Int} (h : up[k]? = some x) : clm up (f + 1) ((k + 1 : Nat) : Int) = clm up f x := by
  have hl := (List.getElem?_eq_some_iff.1 h).1
  have h1 : hgs up ((k + 1 : Nat) : Int) = x := by
    rw [hgs, show (((k + 1 : Nat) : Int) - 1).toNat = k by omega, List.getD_eq_getElem?_getD, h]; rfl
  rw [clm, h1]
  have h2 : (((k + 1 : Nat) : Int) == 0) = false := by rw [beq_eq_false_iff_ne]; omega
  have h3 : decide (0 ≤ ((k + 1 : Nat) : Int)) = true := by rw [decide_eq_true_eq]; omega
  have h4 : decide (((k + 1 : Nat) : Int) ≤ (up.length : Int)) = true := by rw [decide_eq_true_eq]; omega
  rw [h2, h3, h4]; rfl
theorem clm_bad {up : List Int} {f : Nat} {a : Int} (h0 : a ≠ 0) (h : a < 0 ∨ a > (up.length : Int)) : clm up f a = false := by
  have h2 : (a == 0) = false := by rw [beq_eq_false_iff_ne]; exact h0
  cases f with
  | zero => rw [clm, h2]
  | succ f =>
    rw [clm, h2]
    rcases h with h | h
    · have : decide (0 ≤ a) = false := by rw [decide_eq_false_iff_not]; omega
      rw [this]; rfl
    · have : decide (a ≤ (up.length : Int)) = false := by rw [decide_eq_false_iff_not]; omega
      rw [this]; simp
theorem clm_none {up : List Int} {a : Int} (h0 : a ≠ 0) : clm up 0 a = false := by rw [clm, beq_eq_false_iff_ne]; exact h0
theorem treeB_bad {up : List Int} {i : Nat} (hi : i < up.length) (h : clm up (up.length + 1) ((i : Int) + 1) = false) : treeB up = false := by
  rw [treeB, List.all_eq_false]
  exact ⟨i, by rw [List.mem_range]; exact hi, by rw [h]; simp⟩
theorem treeB_done {up : List Int} (h : ∀ j, j < up.length → clm up (up.length + 1) ((j : Int) + 1) = true) : treeB up = true := by
  rw [treeB, List.all_eq_true]
  intro j hj
  exact h j (List.mem_range.1 hj)
set_option maxHeartbeats 2000000 in
theorem c_Tree {H : AH} {b : AV} {up : List Int} (hb : UpAt H b up) (hl : up.length ≤ 1000000000) : Tri Try.prog 13 [b] H (fun v H' => H' = H ∧ v = bv (treeB up)) := tri_wf fun hw => tri_heads_Tree (by
  have hml : maxLen = 9223372036854775807 := by decide
  unfold S_heads_Tree
  simp [hb.len]
  refine loop_st (fun i : Nat => [iv i]) (fun i H' => H = H' ∧ i ≤ up.length ∧ ∀ j, j < i → clm up (up.length + 1) ((j : Int) + 1) = true) (fun i => up.length - i) 0 (.refl (Nat.le_refl _)) ⟨rfl, Nat.zero_le _, fun j hj => absurd hj (Nat.not_lt_zero _)⟩ ?_
  rintro i _ _ ⟨rfl, hi, hall⟩ k hk
  unfold S_heads_Tree_L2
  by_cases h : i < up.length
  · simp [iv, h]
    rw [ivn (by omega)]
    have hnext : clm up (up.length + 1) ((i : Int) + 1) = true → ∀ j, j < i + 1 → clm up (up.length + 1) ((j : Int) + 1) = true := fun h j hj => by
      by_cases e : j = i
      · subst e; exact h
      · exact hall j (by omega)
    refine loop_st (fun x : Int × Nat => [iv x.1, iv x.2]) (fun x H' => H = H' ∧ x.2 ≤ up.length + 1 ∧ clm up (up.length + 1) ((i : Int) + 1) = clm up (up.length + 1 - x.2) x.1) (fun x => up.length + 1 - x.2) (((i + 1 : Nat) : Int), 0) (.refl (Nat.le_refl _)) ⟨rfl, Nat.zero_le _, rfl⟩ ?_
    rintro ⟨at_, m⟩ _ _ ⟨rfl, hm, hc⟩ k2 hk2
    dsimp only at hm hc hk2
    unfold S_heads_Tree_L1
    by_cases h0 : at_ = 0
    · subst h0
      rw [clm_zero] at hc
      simp [iv]
      rw [ivn (by omega)]
      exact hk (i + 1) _ _ _ (.refl (Nat.le_refl _)) ⟨rfl, h, hnext hc⟩ (by omega)
    have hret : clm up (up.length + 1 - m) at_ = false → Rt Try.prog H.nx (.p (.bool false)) (fun v H' => H' = H ∧ v = bv (treeB up)) H := fun hf => by
      rw [hf] at hc
      exact rt_refl ⟨rfl, by rw [treeB_bad h hc]; rfl⟩ (Nat.le_refl _)
    by_cases h1 : at_ < 0
    · simp [iv, h0, h1, hb.len]
      exact hret (clm_bad h0 (.inl h1))
    by_cases h2 : at_ > (up.length : Int)
    · have h2' : (up.length : Int) < at_ := h2
      simp [iv, h0, h1, h2', hb.len]
      exact hret (clm_bad h0 (.inr h2))
    have h2' : ¬ (up.length : Int) < at_ := h2
    by_cases h3 : m = up.length + 1
    · subst h3
      have h3' : (up.length : Int) < (up.length : Int) + 1 := by omega
      simp [iv, h0, h1, h2', h3', hb.len]
      exact hret (by rw [Nat.sub_self]; exact clm_none h0)
    obtain ⟨j, hj⟩ : ∃ j : Nat, at_ = ((j + 1 : Nat) : Int) := ⟨(at_ - 1).toNat, by omega⟩
    subst hj
    obtain ⟨x, hx⟩ : ∃ x, up[j]? = some x := ⟨_, List.getElem?_eq_getElem (by omega)⟩
    obtain ⟨q, q1, q3⟩ := hb.acc hx
    have h3' : ¬ (up.length : Int) < (m : Int) := by omega
    have hsub : IntKind.i64.wrap (((j + 1 : Nat) : Int) - 1) = (j : Int) := by rw [IntKind.wrap_i64]; omega
    have hf : up.length + 1 - m = (up.length + 1 - (m + 1)) + 1 := by omega
    rw [hf, clm_next hx] at hc
    generalize hJ : ((j + 1 : Nat) : Int) = J at *
    simp [iv, h0, h1, h2', h3', hb.len, hsub, q1, q3]
    rw [ivn (by omega)]
    exact hk2 (x, m + 1) _ _ _ (.refl (Nat.le_refl _)) ⟨rfl, by omega, hc⟩ (by dsimp only; omega)
  · simp [iv, h]
    exact rt_refl ⟨rfl, by rw [treeB_done fun j hj => hall j (by omega)]; rfl⟩ (Nat.le_refl _))
end Go.Proofs.Ytaepnmnoofigjaa

/- Rounds of marks: a ring, or all leads to 0. -/
namespace Go.Proofs.Ytaepnmnoofigjaa
/-- a mark -/
def mrk (sn : List Nat) (x : Nat) : Nat := sn.getD x 0
theorem mrk_set {sn : List Nat} {i v : Nat} (hi : i < sn.length) (x : Nat) : mrk (sn.set i v) x = if x = i then v else mrk sn x := by
  unfold mrk
  rw [List.getD_eq_getElem?_getD, List.getD_eq_getElem?_getD, List.getElem?_set]
  by_cases e : x = i
  · subst e; simp [hi]
  · rw [if_neg (fun c => e c.symm), if_neg e]
theorem mrk_at {sn : List Nat} {i : Nat} (hi : i < sn.length) : sn[i]? = some (mrk sn i) := by
  unfold mrk
  rw [List.getD_eq_getElem?_getD, List.getElem?_eq_getElem hi]; rfl
theorem mrk_lt {sn : List Nat} {i : Nat} (h : 0 < mrk sn i) : i < sn.length := by
  rcases Nat.lt_or_ge i sn.length with q | q
  · exact q
  · unfold mrk at h
    rw [List.getD_eq_getElem?_getD, List.getElem?_eq_none q] at h
    exact absurd h (Nat.lt_irrefl 0)
/-- how many are not marked -/
def zc : List Nat → Nat
  | [] => 0
  | x :: r => (if x = 0 then 1 else 0) + zc r
theorem zc_set : ∀ {l : List Nat} {i v : Nat}, l[i]? = some 0 → v ≠ 0 → zc (l.set i v) < zc l
  | [], i, v, h, _ => by simp at h
  | x :: r, 0, v, h, hv => by simp at h; subst h; simp [zc, hv]
  | x :: r, i + 1, v, h, hv => by
    have := zc_set (l := r) (i := i) (by simpa using h) hv
    simp only [List.set_cons_succ, zc]; omega
def Zs (f : Nat → Nat) (x : Nat) : Prop := ∃ k, ToZ f k x
/-- before a round: all that is marked leads to 0; all below are marked -/
structure ROut (f : Nat → Nat) (n v : Nat) (sn : List Nat) : Prop where
  len : sn.length = n
  low : ∀ x, mrk sn x < v
  zero : mrk sn 0 = 0
  old : ∀ x, 0 < mrk sn x → Zs f x
  all : ∀ x, 0 < x → x < v → 0 < mrk sn x
/-- within a round -/
structure RInn (f : Nat → Nat) (n v a : Nat) (sn : List Nat) : Prop where
  len : sn.length = n
  pos : 0 < v
  low : ∀ x, mrk sn x ≤ v
  zero : mrk sn 0 = 0
  old : ∀ x, 0 < mrk sn x → mrk sn x < v → Zs f x
  imp : Zs f a → ∀ x, mrk sn x = v → Zs f x
  rch : ∀ x, mrk sn x = v → ∃ m, itr f (m + 1) x = a
  cls : ∀ x, mrk sn x = v → f x = a ∨ mrk sn (f x) = v
  all : ∀ x, 0 < x → x < v → 0 < mrk sn x
  own : mrk sn v = v ∨ a = v
theorem ROut.start (f : Nat → Nat) (n : Nat) : ROut f n 1 (List.replicate n 0) := by
  have h : ∀ x, mrk (List.replicate n 0) x = 0 := fun x => by
    unfold mrk
    rw [List.getD_eq_getElem?_getD, List.getElem?_replicate]; split <;> rfl
  exact ⟨by simp, fun x => by rw [h]; omega, h 0, fun x hx => by rw [h] at hx; omega, fun x h1 h2 => by omega⟩
theorem ROut.inn {f : Nat → Nat} {n v : Nat} {sn : List Nat} (h : ROut f n v sn) (h0 : 0 < v) : RInn f n v v sn := by
  have hno : ∀ x, mrk sn x ≠ v := fun x => by have := h.low x; omega
  exact ⟨h.len, h0, fun x => Nat.le_of_lt (h.low x), h.zero, fun x hx _ => h.old x hx, fun _ x hx => absurd hx (hno x), fun x hx => absurd hx (hno x), fun x hx => absurd hx (hno x), h.all, .inr rfl⟩
theorem RInn.done {f : Nat → Nat} {n v a : Nat} {sn : List Nat} (h : RInn f n v a sn) (ha : Zs f a) (ho : a = v → 0 < mrk sn v) : ROut f n (v + 1) sn := by
  refine ⟨h.len, fun x => by have := h.low x; omega, h.zero, fun x hx => ?_, fun x h1 h2 => ?_⟩
  · by_cases e : mrk sn x = v
    · exact h.imp ha x e
    · exact h.old x hx (by have := h.low x; omega)
  · by_cases e : x = v
    · subst e
      rcases h.own with q | q
      · have := h.pos; omega
      · exact ho q
    · exact h.all x h1 (by omega)
theorem RInn.zero_ {f : Nat → Nat} {n v : Nat} {sn : List Nat} (h : RInn f n v 0 sn) : ROut f n (v + 1) sn := h.done ⟨0, .zero⟩ fun e => by have := h.pos; omega
theorem RInn.met {f : Nat → Nat} {n v a : Nat} {sn : List Nat} (h : RInn f n v a sn) (h1 : 0 < mrk sn a) (h2 : mrk sn a ≠ v) : ROut f n (v + 1) sn := h.done (h.old a h1 (by have := h.low a; omega)) fun e => e ▸ h1
theorem RInn.step {f : Nat → Nat} {n v a : Nat} {sn : List Nat} (h : RInn f n v a sn) (ha : a < n) (h0 : a ≠ 0) (h1 : mrk sn a = 0) : RInn f n v (f a) (sn.set a v) ∧ zc (sn.set a v) < zc sn := by
  have hal : a < sn.length := by rw [h.len]; exact ha
  have hs := mrk_set (v := v) hal
  have hp := h.pos
  refine ⟨⟨by rw [List.length_set, h.len], hp, fun x => ?_, ?_, fun x hx hl => ?_, fun hz x hx => ?_, fun x hx => ?_, fun x hx => ?_, fun x hx hv => ?_, ?_⟩, zc_set (by rw [mrk_at hal, h1]) (by omega)⟩
  · rw [hs]; split
    · exact Nat.le_refl _
    · exact h.low x
  · rw [hs, if_neg (fun e => h0 e.symm)]; exact h.zero
  · rw [hs] at hx hl
    split at hl
    · omega
    · rename_i hne; rw [if_neg hne] at hx; exact h.old x hx hl
  · have hza : Zs f a := hz.elim fun k hk => ⟨k + 1, .step h0 hk⟩
    rw [hs] at hx
    split at hx
    · rename_i e; subst e; exact hza
    · exact h.imp hza x hx
  · rw [hs] at hx
    split at hx
    · rename_i e; subst e; exact ⟨0, rfl⟩
    · obtain ⟨m, hm⟩ := h.rch x hx
      exact ⟨m + 1, by rw [itr_succ, hm]⟩
  · rw [hs] at hx
    split at hx
    · rename_i e; subst e; exact .inl rfl
    · right
      rw [hs]
      rcases h.cls x hx with q | q
      · rw [if_pos q]
      · split
        · rfl
        · exact q
  · rw [hs]; split
    · exact hp
    · exact h.all x hx hv
  · rw [hs]
    split
    · exact .inl rfl
    · rename_i hne
      rcases h.own with q | q
      · exact .inl q
      · exact absurd q.symm hne
theorem least_of {p : Nat → Prop} : ∀ {m : Nat}, p m → ∃ k, p k ∧ ∀ j, j < k → ¬ p j
  | m, h => by
    induction m using Nat.strongRecOn with
    | ind m ih =>
      by_cases q : ∃ j, j < m ∧ p j
      · obtain ⟨j, hj, hp⟩ := q; exact ih j hj hp
      · exact ⟨m, h, fun j hj hp => q ⟨j, hj, hp⟩⟩
/-- one's own mark is met again: there is a ring -/
theorem RInn.ring {f : Nat → Nat} {n v a : Nat} {sn : List Nat} (h : RInn f n v a sn) (ha : mrk sn a = v) : ∃ M, 0 < M ∧ itr f M a = a ∧ (∀ i, 0 < i → i < M → itr f i a ≠ a) ∧ ∀ i, 0 < itr f i a ∧ itr f i a < n := by
  obtain ⟨m, hm⟩ := h.rch a ha
  obtain ⟨k, hk, hl⟩ := least_of (p := fun m => itr f (m + 1) a = a) hm
  have hv : ∀ i, mrk sn (itr f i a) = v := fun i => by
    induction i with
    | zero => exact ha
    | succ i ih =>
      rw [itr_succ]
      rcases h.cls _ ih with q | q
      · rw [q]; exact ha
      · exact q
  refine ⟨k + 1, by omega, hk, fun i h1 h2 => ?_, fun i => ⟨?_, ?_⟩⟩
  · have := hl (i - 1) (by omega)
    rwa [show i - 1 + 1 = i by omega] at this
  · rcases Nat.eq_zero_or_pos (itr f i a) with e | e
    · have := hv i; rw [e, h.zero] at this; have := h.pos; omega
    · exact e
  · have := mrk_lt (sn := sn) (i := itr f i a) (by rw [hv i]; exact h.pos)
    rw [h.len] at this; exact this
theorem ROut.rank {f : Nat → Nat} {n : Nat} {v : Nat} {sn : List Nat} (h : ROut f n v sn) (hv : n ≤ v) (hf : ∀ v, 0 < v → v < n → f v < n) : ∃ r : Nat → Nat, ∀ v, 0 < v → v < n → r (f v) < r v :=
  rank_of_ToZ (fun x h0 hx => h.old x (h.all x h0 (by omega))) hf
end Go.Proofs.Ytaepnmnoofigjaa

/- A ring of the best edges. -/
namespace Go.Proofs.Ytaepnmnoofigjaa
open Go.RowKit Go.Maps
/-- nodes as cells -/
def nE (l : List Nat) : List (List AV) := l.map fun (x : Nat) => [iv (x : Int)]
theorem nE_len (l : List Nat) : (nE l).length = l.length := List.length_map _
theorem nE_at {l : List Nat} {i x : Nat} (h : l[i]? = some x) : (nE l)[i]? = some [iv (x : Int)] := by rw [nE, List.getElem?_map, h]; rfl
theorem nE_app (a b : List Nat) : nE (a ++ b) = nE a ++ nE b := List.map_append
theorem nE_set (l : List Nat) (i x : Nat) : nE (l.set i x) = (nE l).set i [iv (x : Int)] := by rw [nE, nE, List.map_set]
theorem nE_zero (n : Nat) : nE (List.replicate n 0) = List.replicate n [iv 0] := by rw [nE, List.map_replicate]; rfl
theorem dt_nE (l : List Nat) : DtR (nE l) := fun e he a ha => by
  obtain ⟨s, _, rfl⟩ := List.mem_map.1 he
  rw [List.mem_singleton.1 ha]; exact Dt.p _
theorem nE_iE (l : List Nat) : nE l = iE (l.map fun (x : Nat) => (x : Int)) := by rw [nE, iE, List.map_map]; rfl
/-- an edge as cells -/
def Ed.cs (e : Ed) : List AV := [iv (e.fr : Int), iv (e.to : Int), iv e.w, iv e.id]
def edE (l : List Ed) : List (List AV) := l.map Ed.cs
theorem edE_len (l : List Ed) : (edE l).length = l.length := List.length_map _
theorem edE_at {l : List Ed} {i : Nat} {e : Ed} (h : l[i]? = some e) : (edE l)[i]? = some [iv (e.fr : Int), iv (e.to : Int), iv e.w, iv e.id] := by rw [edE, List.getElem?_map, h]; rfl
theorem edE_app (a b : List Ed) : edE (a ++ b) = edE a ++ edE b := List.map_append
theorem dt_edE (l : List Ed) : DtR (edE l) := fun e he a ha => by
  obtain ⟨s, _, rfl⟩ := List.mem_map.1 he
  simp only [Ed.cs, List.mem_cons, List.not_mem_nil, or_false] at ha
  rcases ha with h | h | h | h <;> (rw [h]; exact Dt.p _)
/-- where the best edges stand -/
def BsAt (n : Nat) (l : List Ed) (bl : List Int) (b : Nat → Ed) : Prop := ∀ v, 0 < v → v < n → ∃ i : Nat, bl[v]? = some (i : Int) ∧ l[i]? = some (b v)
set_option maxHeartbeats 4000000 in
theorem c_ringOf {H : AH} {a : AV} {n : Nat} {l : List Ed} {bl : List Int} {b : Nat → Ed} (hn : n ≤ 1000) (ha : UpAt H a bl) (hbl : BsAt n l bl b) (hf : ∀ v, 0 < v → v < n → (b v).fr < n ∧ (b v).fr ≠ v) :
    Tri Try.prog 34 [iv (n : Int), .dsl 4 (edE l), a] H (fun v H' => H' = H ∧ ((v = .p (.slice none 0 0) ∧ ∃ r : Nat → Nat, ∀ v, 0 < v → v < n → r (b v).fr < r v) ∨ ∃ ring, v = .dsl 1 (nE ring) ∧ Ring n b ring)) := tri_wf fun hw => tri_heads_ringOf (by
  have hml : maxLen = 9223372036854775807 := by decide
  let f : Nat → Nat := fun v => (b v).fr
  have hff : ∀ v, f v = (b v).fr := fun _ => rfl
  unfold S_heads_ringOf
  have hn1 : (n : Int) ≤ maxLen := by omega
  simp (disch := first | omega | simp) [iv, put_get_ne]
  refine ⟨by omega, by omega, ?_⟩
  have hz : List.replicate n [AV.p (.int .i64 0)] = nE (List.replicate n 0) := (nE_zero n).symm
  rw [hz]
  generalize hM : AH.put _ _ _ = M
  have hMl : H.le M := by rw [← hM]; exact (by repeat (first | with_reducible assumption | with_reducible exact AH.le.refl _ | with_reducible apply AH.le.up | (with_reducible refine AH.le.put hw ?_ ?_; · first | omega | (simp only [up_nx, put_nx, kill_nx]; done) | (simp only [up_nx, put_nx, kill_nx]; omega)) | (with_reducible refine AH.le.kill hw ?_ ?_; · first | omega | (simp only [up_nx, put_nx, kill_nx]; done) | (simp only [up_nx, put_nx, kill_nx]; omega))))
  have hMn : M.nx = H.nx + 3 := by rw [← hM]; rfl
  have hMr : M.get (H.nx + 1) = some (.row 3 1 (nE (List.replicate n 0))) := by rw [← hM, put_get]
  refine loop_wf (H0 := M) (fun v : Nat => [iv v]) (fun v H' => H.le H' ∧ H.nx + 3 ≤ H'.nx ∧ 0 < v ∧ (v ≤ n ∨ v = 1) ∧ ∃ sn, H'.get (H.nx + 1) = some (.row 3 1 (nE sn)) ∧ ROut f n v sn) (fun v => n + 1 - v) 1 (.refl (Nat.le_refl _)) ⟨hMl, by omega, by omega, .inr rfl, _, hMr, ROut.start f n⟩ ?_
  rintro v H1 hn1 hw1 ⟨hle, hnx, hv0, hvn, sn, hrow, ho⟩ k hk
  unfold S_heads_ringOf_L3
  by_cases hv : v < n
  · have hvi : (v : Int) < (n : Int) := by omega
    simp (disch := first | omega | simp) [iv, hvi]
    refine loop_wf (fun x : Nat × List Nat => [iv (x.1 : Int)]) (fun x H' => H.le H' ∧ H.nx + 3 ≤ H'.nx ∧ x.1 < n ∧ H'.get (H.nx + 1) = some (.row 3 1 (nE x.2)) ∧ RInn f n v x.1 x.2) (fun x => zc x.2) (v, sn) (.refl (Nat.le_refl _)) ⟨hle, hnx, hv, hrow, ho.inn hv0⟩ ?_
    rintro ⟨at_, s⟩ H2 hn2 hw2 ⟨hle2, hnx2, hat, hrow2, hi⟩ k2 hk2
    dsimp only at hat hrow2 hi hk2
    unfold S_heads_ringOf_L2
    have hsl : s.length = n := hi.len
    have hm := nE_at (mrk_at (sn := s) (i := at_) (by omega))
    have hat' : at_ < (nE s).length := by rw [nE_len]; omega
    have hmg : ∀ h, (nE s)[at_]'h = [iv (mrk s at_ : Nat)] := fun h => (List.getElem?_eq_some_iff.1 hm).2
    simp (disch := first | omega | simp) [iv, hrow2, nE_len, hsl, hat, hmg]
    by_cases hmv : mrk s at_ = v
    · -- a ring
      have h0 : at_ ≠ 0 := fun e => by subst e; rw [hi.zero] at hmv; omega
      obtain ⟨i, hb1, hb2⟩ := hbl at_ (by omega) hat
      have he := edE_at hb2
      have hil := (List.getElem?_eq_some_iff.1 hb2).1
      obtain ⟨M, hM0, hM1, hM2, hM3⟩ := hi.ring hmv
      have hring := ring_of_itr hff hM0 hM1 hM2 hM3 (hf at_ (by omega) hat).2
      have hMn2 := ring_len hring
      rw [List.length_map, List.length_range] at hMn2
      simp (disch := first | omega | simp) [iv, hmv, put_get_ne]
      generalize hX : AH.put (H2.up 3) (H2.nx + 1) _ = X
      have hXl : H.le X := by rw [← hX]; exact (by repeat (first | with_reducible assumption | with_reducible exact AH.le.refl _ | with_reducible apply AH.le.up | (with_reducible refine AH.le.put hw ?_ ?_; · first | omega | (simp only [up_nx, put_nx, kill_nx]; done) | (simp only [up_nx, put_nx, kill_nx]; omega)) | (with_reducible refine AH.le.kill hw ?_ ?_; · first | omega | (simp only [up_nx, put_nx, kill_nx]; done) | (simp only [up_nx, put_nx, kill_nx]; omega))))
      have hXn : X.nx = H2.nx + 3 := by rw [← hX]; rfl
      have hXr : X.get (H2.nx + 1) = some (.row 3 1 (nE ((List.range 1).map fun i => itr f i at_))) := by rw [← hX, put_get]; rfl
      obtain ⟨q, q1, q3⟩ := (ha.le hXl).acc hb1
      simp (disch := first | omega | simp) [iv, q1, q3, edE_len, hil, he]
      refine loop_wf (fun x : AV × Nat => [x.1, iv (itr f x.2 at_ : Nat)]) (fun x H' => H.le H' ∧ H.nx ≤ H'.nx ∧ 0 < x.2 ∧ x.2 ≤ M ∧ Grows 3 1 H H' x.1 (nE ((List.range x.2).map fun i => itr f i at_))) (fun x => M - x.2) (.osl (H2.nx + 1) 1 0 1, 1) (.refl (Nat.le_refl _)) ⟨hXl, by omega, by dsimp only; omega, by dsimp only; omega, .row (by omega) (by omega) hXr (dt_nE _) rfl⟩ ?_
      rintro ⟨w, j⟩ H3 hn3 hw3 ⟨hle3, hnx3, hj0, hjM, hgr⟩ k3 hk3
      dsimp only at hj0 hjM hgr hk3
      unfold S_heads_ringOf_L1
      by_cases hjm : j = M
      · subst hjm
        have : ((itr f j at_ : Nat) : Int) = (at_ : Int) := by rw [hM1]
        simp (disch := first | omega | simp) [iv, this]
        exact hgr.rt hw hle3 hnx3 ⟨rfl, .inr ⟨_, rfl, hring⟩⟩
      · have hne : ¬ ((itr f j at_ : Nat) : Int) = (at_ : Int) := fun e => hM2 j hj0 (by omega) (by omega)
        obtain ⟨hx0, hxn⟩ := hM3 j
        obtain ⟨i2, hc1, hc2⟩ := hbl _ hx0 hxn
        have he2 := edE_at hc2
        have hil2 := (List.getElem?_eq_some_iff.1 hc2).1
        simp (disch := first | omega | simp) [iv, hne]
        refine Grows.app (t := 3) hw (hgr.up_ (by first | omega | (simp only [up_nx, put_nx, kill_nx]; done) | (simp only [up_nx, put_nx, kill_nx]; omega)) fun j o hj _ ho => by simp (disch := first | omega | simp) [put_get_ne]; exact ho) (by repeat (first | with_reducible assumption | with_reducible exact AH.le.refl _ | with_reducible apply AH.le.up | (with_reducible refine AH.le.put hw ?_ ?_; · first | omega | (simp only [up_nx, put_nx, kill_nx]; done) | (simp only [up_nx, put_nx, kill_nx]; omega)) | (with_reducible refine AH.le.kill hw ?_ ?_; · first | omega | (simp only [up_nx, put_nx, kill_nx]; done) | (simp only [up_nx, put_nx, kill_nx]; omega)))) (by first | omega | (simp only [up_nx, put_nx, kill_nx]; done) | (simp only [up_nx, put_nx, kill_nx]; omega)) (by first | omega | (simp only [up_nx, put_nx, kill_nx]; done) | (simp only [up_nx, put_nx, kill_nx]; omega)) (ys := nE [itr f j at_]) ?_ (dt_nE _) ?_ ?_ fun v' H4 g2 l2 n2 k2 hfr => ?_
        · simp [iv, nE]
        · simp [nE_len]; omega
        · simp [nE_len]; omega
        obtain ⟨q', q1', q3'⟩ := (ha.le l2).acc hc1
        simp (disch := first | omega | simp) [iv, q1', q3', edE_len, hil2, he2]
        have n2' : H4.nx = H3.nx + 5 := by rw [n2]; rfl
        have hrg : (List.range (j + 1)).map (fun i => itr f i at_) = (List.range j).map (fun i => itr f i at_) ++ [itr f j at_] := by rw [List.range_succ, List.map_append]; rfl
        have := hk3 (v', j + 1) H4 [v', iv (((b (itr f j at_)).fr : Nat) : Int)] H4 (by dsimp only; rw [itr_succ]; exact .refl (by omega)) ⟨l2, by omega, by dsimp only; omega, by dsimp only; omega, by dsimp only; rw [hrg, nE_app]; exact g2⟩ (by dsimp only; omega)
        exact this
    · have hmv' : ¬ ((mrk s at_ : Nat) : Int) = (v : Int) := by omega
      by_cases h0 : at_ = 0
      · have h0' : (at_ = 0) = True := eq_true h0
        simp (disch := first | omega | simp) [iv, hmv', h0']
        rw [ivn (by omega)]
        exact hk (v + 1) _ _ _ (.refl (by omega)) ⟨hle2, hnx2, by omega, .inl hv, s, hrow2, (h0 ▸ hi).zero_⟩ (by omega)
      have h0' : (at_ = 0) = False := eq_false h0
      by_cases hpos : 0 < mrk s at_
      · have hpos' : (0 : Int) < ((mrk s at_ : Nat) : Int) := by omega
        simp (disch := first | omega | simp) [iv, hmv', h0', hrow2, nE_len, hsl, hat, hmg, hpos']
        refine ⟨fun _ => ?_, fun e => absurd e (by omega)⟩
        rw [ivn (by omega)]
        exact hk (v + 1) _ _ _ (.refl (by omega)) ⟨hle2, hnx2, by omega, .inl hv, s, hrow2, hi.met hpos hmv⟩ (by omega)
      have hz0 : mrk s at_ = 0 := by omega
      obtain ⟨i, hb1, hb2⟩ := hbl at_ (by omega) hat
      have he := edE_at hb2
      have hil := (List.getElem?_eq_some_iff.1 hb2).1
      have hfa := (hf at_ (by omega) hat).1
      obtain ⟨hst1, hst2⟩ := hi.step hat h0 hz0
      have hmz : ¬ (0 : Int) = (v : Int) := by omega
      simp (disch := first | omega | simp) [iv, hmv', hz0, hmz, h0', hrow2, nE_len, hsl, hat, hmg, put_get_ne]
      generalize hX : AH.put _ _ _ = X
      have hXl : H.le X := by rw [← hX]; exact (by repeat (first | with_reducible assumption | with_reducible exact AH.le.refl _ | with_reducible apply AH.le.up | (with_reducible refine AH.le.put hw ?_ ?_; · first | omega | (simp only [up_nx, put_nx, kill_nx]; done) | (simp only [up_nx, put_nx, kill_nx]; omega)) | (with_reducible refine AH.le.kill hw ?_ ?_; · first | omega | (simp only [up_nx, put_nx, kill_nx]; done) | (simp only [up_nx, put_nx, kill_nx]; omega))))
      have hXn : X.nx = H2.nx + 5 := by rw [← hX]; rfl
      have hXr : X.get (H.nx + 1) = some (.row 3 1 (nE (s.set at_ v))) := by rw [← hX, put_get, nE_set]; rfl
      obtain ⟨q, q1, q3⟩ := (ha.le hXl).acc hb1
      simp (disch := first | omega | simp) [iv, q1, q3, edE_len, hil, he]
      exact hk2 (f at_, s.set at_ v) _ _ _ (.refl (by omega)) ⟨hXl, by omega, hfa, hXr, hst1⟩ hst2
  · have hvi : ¬ (v : Int) < (n : Int) := by omega
    simp (disch := first | omega | simp) [iv, hvi]
    exact rt_sub (v' := .p (.slice none 0 0)) hw hle (by omega) (.refl _) (Cl.p _) ⟨rfl, .inl ⟨rfl, ho.rank (by omega) fun v h1 h2 => (hf v h1 h2).1⟩⟩)
end Go.Proofs.Ytaepnmnoofigjaa

/- The best edges, one by one; the ring's names. -/
namespace Go.Proofs.Ytaepnmnoofigjaa
/-- of the first i edges: where the best one to a node stands -/
def BI (l : List Ed) (i v : Nat) (x : Int) : Prop := (x = -1 ∧ (v = 0 ∨ ∀ j e, j < i → l[j]? = some e → e.to = v → e.fr = v)) ∨ (v ≠ 0 ∧ ∃ j e, j < i ∧ x = (j : Int) ∧ l[j]? = some e ∧ e.to = v ∧ e.fr ≠ v ∧ ∀ j' e', j' < i → l[j']? = some e' → e'.to = v → e'.fr ≠ v → e'.w ≤ e.w)
theorem BI.start (l : List Ed) (v : Nat) : BI l 0 v (-1) := .inl ⟨rfl, .inr fun j e hj => absurd hj (Nat.not_lt_zero _)⟩
theorem lt_succ_cases {j i : Nat} (h : j < i + 1) : j < i ∨ j = i := by omega
/-- an edge that is not looked at -/
theorem BI.skip {l : List Ed} {i v : Nat} {x : Int} {e : Ed} (h : BI l i v x) (he : l[i]? = some e) (hn : e.to = v → v = 0 ∨ e.fr = v) : BI l (i + 1) v x := by
  rcases h with ⟨h1, h2⟩ | ⟨h0, j, e1, h1, h2, h3, h4, h5, h6⟩
  · refine .inl ⟨h1, ?_⟩
    rcases h2 with h2 | h2
    · exact .inl h2
    · by_cases hv : v = 0
      · exact .inl hv
      · right
        intro j e' hj hje hto
        rcases lt_succ_cases hj with q | q
        · exact h2 j e' q hje hto
        · subst q; rw [he] at hje; injection hje with hje; subst hje
          exact (hn hto).resolve_left hv
  · refine .inr ⟨h0, j, e1, by omega, h2, h3, h4, h5, fun j' e' hj hje hto hfr => ?_⟩
    rcases lt_succ_cases hj with q | q
    · exact h6 j' e' q hje hto hfr
    · subst q; rw [he] at hje; injection hje with hje; subst hje
      exact absurd ((hn hto).resolve_left h0) hfr
/-- an edge that is no better -/
theorem BI.worse {l : List Ed} {i v j : Nat} {x : Int} {e e1 : Ed} (h : BI l i v x) (he : l[i]? = some e) (hx : x = (j : Int)) (hj : l[j]? = some e1) (hw : e.w ≤ e1.w) : BI l (i + 1) v x := by
  rcases h with ⟨h1, _⟩ | ⟨h0, j1, e2, h1, h2, h3, h4, h5, h6⟩
  · omega
  · have : j1 = j := by omega
    subst this
    rw [hj] at h3; injection h3 with h3; subst h3
    refine .inr ⟨h0, j1, e1, by omega, h2, hj, h4, h5, fun j' e' hj' hje hto hfr => ?_⟩
    rcases lt_succ_cases hj' with q | q
    · exact h6 j' e' q hje hto hfr
    · subst q; rw [he] at hje; injection hje with hje; subst hje; exact hw
/-- an edge that is better, or the first one -/
theorem BI.better {l : List Ed} {i v : Nat} {x : Int} {e : Ed} (h : BI l i v x) (he : l[i]? = some e) (hto : e.to = v) (hv : v ≠ 0) (hfr : e.fr ≠ v) (hb : x < 0 ∨ ∃ (j : Nat) (e1 : Ed), x = (j : Int) ∧ l[j]? = some e1 ∧ e1.w < e.w) : BI l (i + 1) v (i : Int) := by
  refine .inr ⟨hv, i, e, by omega, rfl, he, hto, hfr, fun j' e' hj hje hto' hfr' => ?_⟩
  rcases lt_succ_cases hj with q | q
  · rcases h with ⟨h1, h2⟩ | ⟨h0, j1, e2, h1, h2, h3, h4, h5, h6⟩
    · exact absurd ((h2.resolve_left hv) j' e' q hje hto') hfr'
    · rcases hb with hb | ⟨j, e1, hx, hj1, hlt⟩
      · omega
      · have : j1 = j := by omega
        subst this
        rw [hj1] at h3; injection h3 with h3; subst h3
        have := h6 j' e' q hje hto' hfr'
        omega
  · subst q; rw [he] at hje; injection hje with hje; subst hje; exact Int.le_refl _
theorem BI.neg {l : List Ed} {i v : Nat} {x : Int} (h : BI l i v x) (hx : ¬ x < 0) : ∃ (j : Nat) (e : Ed), x = (j : Int) ∧ l[j]? = some e := by
  rcases h with ⟨h1, _⟩ | ⟨h0, j, e, h1, h2, h3, _⟩
  · omega
  · exact ⟨j, e, h2, h3⟩
/-- all edges are looked at: the best ones -/
theorem BI.best {n : Nat} {l : List Ed} {bl : List Int} (hz : HasZ n l) (h : ∀ v, v < n → ∃ x, bl[v]? = some x ∧ BI l l.length v x) : ∃ b : Nat → Ed, Bst n l b ∧ ∀ v, 0 < v → v < n → ∃ i : Nat, bl[v]? = some (i : Int) ∧ l[i]? = some (b v) := by
  have key : ∀ v, ∃ e : Ed, 0 < v → v < n → (∃ i : Nat, bl[v]? = some (i : Int) ∧ l[i]? = some e) ∧ e.to = v ∧ e.fr ≠ v ∧ ∀ e' ∈ l, e'.to = v → e'.fr ≠ v → e'.w ≤ e.w := fun v => by
    by_cases hv : 0 < v ∧ v < n
    · obtain ⟨v0, vn⟩ := hv
      obtain ⟨x, hx, hb⟩ := h v vn
      obtain ⟨e0, he0, hf0, ht0⟩ := hz.1 v v0 vn
      obtain ⟨j0, hj0⟩ := List.getElem?_of_mem he0
      have hjl := (List.getElem?_eq_some_iff.1 hj0).1
      rcases hb with ⟨_, h2⟩ | ⟨h0, j, e, h1, h2, h3, h4, h5, h6⟩
      · have := (h2.resolve_left (by omega)) j0 e0 hjl hj0 ht0
        omega
      · refine ⟨e, fun _ _ => ⟨⟨j, by rw [hx, h2], h3⟩, h4, h5, fun e' he' ht hf => ?_⟩⟩
        obtain ⟨j', hj'⟩ := List.getElem?_of_mem he'
        exact h6 j' e' (List.getElem?_eq_some_iff.1 hj').1 hj' ht hf
    · exact ⟨⟨0, 0, 0, 0⟩, fun a c => absurd ⟨a, c⟩ hv⟩
  refine ⟨fun v => (key v).choose, fun v v0 vn => ?_, fun v v0 vn => ((key v).choose_spec v0 vn).1⟩
  obtain ⟨⟨i, _, h1⟩, h2, h3, h4⟩ := (key v).choose_spec v0 vn
  exact ⟨List.mem_of_getElem? h1, h2, h3, h4⟩
/-- what an id stands for -/
def idOf (l : List Ed) (i : Int) : Int := ((l[i.toNat]?).map Ed.id).getD 0
theorem idOf_at {l : List Ed} {k : Nat} {e : Ed} (h : l[k]? = some e) : idOf l (k : Int) = e.id := by
  unfold idOf; rw [Int.toNat_natCast, h]; rfl
/-- the ring's names, one by one -/
def nmL (ring : List Nat) (n v : Nat) : List Nat := (List.range v).map (nm ring n) ++ List.replicate (n - v) 0
theorem nmL_len {ring : List Nat} {n v : Nat} (h : v ≤ n) : (nmL ring n v).length = n := by simp [nmL]; omega
theorem nmL_zero (ring : List Nat) (n : Nat) : nmL ring n 0 = List.replicate n 0 := by simp [nmL]
theorem nmL_set {ring : List Nat} {n v : Nat} (h : v < n) : (nmL ring n v).set v (nm ring n v) = nmL ring n (v + 1) := by
  unfold nmL
  rw [List.set_append_right _ _ (by simp), List.range_succ, List.map_append, List.append_assoc]
  congr 1
  simp only [List.length_map, List.length_range, Nat.sub_self]
  obtain ⟨m, hm⟩ : ∃ m, n - v = m + 1 := ⟨n - v - 1, by omega⟩
  rw [hm, List.replicate_succ, List.set_cons_zero, show n - (v + 1) = m by omega]; rfl
theorem nmL_at {ring : List Nat} {n v : Nat} (h : v < n) : (nmL ring n n)[v]? = some (nm ring n v) := by
  simp [nmL, h]
theorem con_len {ring : List Nat} {n : Nat} {b : Nat → Ed} : ∀ (l : List Ed) (k : Nat), (con ring n b k l).length ≤ l.length
  | [], _ => Nat.le_refl _
  | e :: r, k => by
    have := con_len (ring := ring) (n := n) (b := b) r (k + 1)
    rw [con, List.length_append, List.length_cons]
    have : (conF ring n b k e).toList.length ≤ 1 := by cases conF ring n b k e <;> simp
    omega
theorem con_w {ring : List Nat} {n : Nat} {b : Nat → Ed} {l : List Ed} {B : Nat} (hb : ∀ v ∈ ring, b v ∈ l) (hr : ∀ e ∈ l, nm ring n e.to = n - ring.length → e.to ∈ ring) (h : ∀ e ∈ l, -(B : Int) ≤ e.w ∧ e.w ≤ (B : Int)) : ∀ e ∈ con ring n b 0 l, -((2 * B : Nat) : Int) ≤ e.w ∧ e.w ≤ ((2 * B : Nat) : Int) := fun e' he' => by
  obtain ⟨i, e, h1, h2⟩ := con_mem.1 he'
  have hel := List.mem_of_getElem? h1
  have hw := h e hel
  rw [conF] at h2
  split at h2
  · cases h2
  · injection h2 with h2
    subst h2
    dsimp only
    split
    · rename_i hq
      have := h _ (hb _ (hr e hel hq))
      omega
    · omega
theorem nodup_le {os : List Nat} {n : Nat} (h : os.Nodup) (hm : ∀ v ∈ os, v < n) : os.length ≤ n := by have := cnt_all h hm; omega
theorem Grown.len {n : Nat} {l : List Ed} {ids : List Int} (h : Grown n l ids) : ids.length ≤ n := by
  obtain ⟨T, os, _, hd, hm, hi, _⟩ := h
  rw [hi, List.length_map]
  exact nodup_le hd fun v hv => ((hm v).1 hv).2
theorem filter_take_next {α : Type} {xs : List α} {p : α → Bool} {j : Nat} {x : α} (h : xs[j]? = some x) : (xs.take (j + 1)).filter p = (xs.take j).filter p ++ if p x then [x] else [] := by
  rw [List.take_add_one, h, List.filter_append]
  congr 1
  simp [List.filter_cons]
theorem filter_len_le {α : Type} (xs : List α) (p : α → Bool) (j : Nat) : ((xs.take j).filter p).length ≤ j := Nat.le_trans (List.length_filter_le _ _) (by rw [List.length_take]; omega)
theorem pow_two_step {B n m : Nat} (h : B * 2 ^ n ≤ 2 ^ 60) (hm : m + 1 ≤ n) : 2 * B * 2 ^ m ≤ 2 ^ 60 := by
  have h1 : 2 * B * 2 ^ m = B * 2 ^ (m + 1) := by rw [Nat.pow_succ, Nat.mul_comm 2 B, Nat.mul_assoc, Nat.mul_comm 2]
  have h2 : 2 ^ (m + 1) ≤ 2 ^ n := Nat.pow_le_pow_right (by omega) hm
  have h3 := Nat.mul_le_mul_left B h2
  omega
theorem pow_two_low {B n : Nat} (h : B * 2 ^ n ≤ 2 ^ 60) : B ≤ 2 ^ 60 := by
  have h2 : 1 ≤ 2 ^ n := Nat.one_le_two_pow
  have h3 := Nat.mul_le_mul_left B h2
  omega
end Go.Proofs.Ytaepnmnoofigjaa
