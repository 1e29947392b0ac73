/- Whole bodies on abstract memory: what is told holds of the model. Nothing of the program is named here. -/
import Derived.Test.YtcmnjoepadjioaaAwD
namespace Go.Proofs.Ytcmnjoepadjioaa
open Go.RowKit Go.Maps

section
variable {P : Program} {w : World} {S : Nat → Prop} {σ : Nat → Option Value} {H V : AH} {n b : Nat} {ops : Array Oper} {rs : List Reg} {ok : Tmp → Bool}
def Same (ok : Tmp → Bool) (env env' : Env) : Prop := ∀ t, ok t = false → env' t = env t
theorem Same.refl (env : Env) : Same ok env env := fun _ _ => rfl
theorem Same.trans {a b c : Env} (h : Same ok a b) (k : Same ok b c) : Same ok a c := fun t ht => (k t ht).trans (h t ht)
theorem Same.set {env : Env} {dst : Option Tmp} {a : AV} (h : ∀ d, dst = some d → ok d = true) : Same ok env (setE n env dst a) := by
  intro t ht
  cases dst with
  | none => rfl
  | some d =>
    have hne : t ≠ d := fun e => by subst e; rw [h t rfl] at ht; cases ht
    simp only [setE]
    cases Nat.blt d n
    · rfl
    · simp only [cond_true]
      rw [show Nat.beq t d = false from by rw [Bool.eq_false_iff]; exact fun e => hne (Nat.eq_of_beq_eq_true e)]
      rfl
theorem coreS_mono {id : Nat} {o : Op} {env : Env} {k k' : AV → AH → Prop} (h : coreS P id o env k H) (hk : ∀ x H, k x H → k' x H) : coreS P id o env k' H := by
  unfold coreS at h ⊢
  cases hc : cls P o <;> rw [hc] at h <;> dsimp only at h ⊢
  · exact hk _ _ h
  · obtain ⟨a, h1, h2⟩ := h; exact ⟨a, h1, hk _ _ h2⟩
  · obtain ⟨a, h1, h2⟩ := h; exact ⟨a, h1, hk _ _ h2⟩
  · obtain ⟨a, o', h1, h2⟩ := h; exact ⟨a, o', h1, hk _ _ h2⟩
  · obtain ⟨a, H', h1, h2⟩ := h; exact ⟨a, H', h1, hk _ _ h2⟩
  · obtain ⟨g, first, cap, Q, h1, h2, h3, h4⟩ := h; exact ⟨g, first, cap, Q, h1, h2, h3, fun r H' hq => hk _ _ (h4 r H' hq)⟩
theorem seqA_frame : ∀ (l : List Oper) (i : Nat) (env : Env) (k : Env → AH → Prop) (H : AH), (∀ o ∈ l, ∀ d, o.dst = some d → ok d = true) → seqA P n b ops l i env k H → seqA P n b ops l i env (fun env' H' => k env' H' ∧ Same ok env env') H
  | [], i, env, k, H, _, h => ⟨h, .refl _⟩
  | o :: rest, i, env, k, H, ho, h => by
    have step : ∀ x H, seqA P n b ops rest (i + 1) (setE n env o.dst x) k H → seqA P n b ops rest (i + 1) (setE n env o.dst x) (fun env' H' => k env' H' ∧ Same ok env env') H := by
      intro x H h
      have h1 := seqA_frame rest (i + 1) _ k H (fun o' ho' => ho o' (by simp [ho'])) h
      have h2 : Same ok env (setE n env o.dst x) := .set (ho o (by simp))
      exact seqA_mono rest (i + 1) _ _ _ H h1 (fun e H ⟨q1, q2⟩ => ⟨q1, h2.trans q2⟩)
    simp only [seqA] at h ⊢
    cases hg : o.guard with
    | none => rw [hg] at h; exact coreS_mono h step
    | some g =>
      obtain ⟨j, want⟩ := g
      rw [hg] at h
      obtain ⟨c, hc, h1, h2⟩ := h
      exact ⟨c, hc, fun hw => coreS_mono (h1 hw) step, fun hw => step _ _ (h2 hw)⟩
where
  seqA_mono : ∀ (l : List Oper) (i : Nat) (env : Env) (k k' : Env → AH → Prop) (H : AH), seqA P n b ops l i env k H → (∀ e H, k e H → k' e H) → seqA P n b ops l i env k' H
  | [], i, env, k, k', H, h, hk => hk _ _ h
  | o :: rest, i, env, k, k', H, h, hk => by
    simp only [seqA] at h ⊢
    cases hg : o.guard with
    | none => rw [hg] at h; exact coreS_mono h fun x H h => seqA_mono rest (i + 1) _ k k' H h hk
    | some g =>
      obtain ⟨j, want⟩ := g
      rw [hg] at h
      obtain ⟨c, hc, h1, h2⟩ := h
      exact ⟨c, hc, fun hw => coreS_mono (h1 hw) fun x H h => seqA_mono rest (i + 1) _ k k' H h hk, fun hw => seqA_mono rest (i + 1) _ k k' H (h2 hw) hk⟩
theorem seqV_mono : ∀ (l : List Oper) (i : Nat) (env : Env) (k k' : Env → AH → Prop) (V H : AH), seqV P n b ops l i env k V H → (∀ e H, k e H → k' e H) → seqV P n b ops l i env k' V H
  | [], i, env, k, k', V, H, h, hk => hk _ _ h
  | o :: rest, i, env, k, k', V, H, h, hk => by
    simp only [seqV] at h ⊢
    exact stepV_mono h fun e V H h => seqV_mono rest (i + 1) _ k k' V H h hk
theorem seqV_frame : ∀ (l : List Oper) (i : Nat) (env : Env) (k : Env → AH → Prop) (V H : AH), (∀ o ∈ l, ∀ d, o.dst = some d → ok d = true) → seqV P n b ops l i env k V H → seqV P n b ops l i env (fun env' H' => k env' H' ∧ Same ok env env') V H
  | [], i, env, k, V, H, _, h => ⟨h, .refl _⟩
  | o :: rest, i, env, k, V, H, ho, h => by
    simp only [seqV] at h ⊢
    rw [stepV_iff] at h ⊢
    obtain ⟨x, V', H', h1, h2⟩ := h
    have h3 := seqV_frame rest (i + 1) _ k V' H' (fun o' ho' => ho o' (by simp [ho'])) h2
    have h4 : Same ok env (setE n env o.dst x) := .set (ho o (by simp))
    exact ⟨x, V', H', h1, seqV_mono rest (i + 1) _ _ _ V' H' h3 (fun e H ⟨q1, q2⟩ => ⟨q1, h4.trans q2⟩)⟩
theorem regB_frame {r : Reg} {env : Env} {k : Env → AH → Prop} (ho : ∀ o ∈ r.ops.toList, ∀ d, o.dst = some d → ok d = true) (h : regB P n b r env k H) : regB P n b r env (fun env' H' => k env' H' ∧ Same ok env env') H := by
  unfold regB at h ⊢
  cases hd : r.draw <;> rw [hd] at h
  · exact seqA_frame _ _ _ _ _ ho h
  · exact seqV_frame _ _ _ _ _ _ ho h
theorem regB_mono {r : Reg} {env : Env} {k k' : Env → AH → Prop} (h : regB P n b r env k H) (hk : ∀ e H, k e H → k' e H) : regB P n b r env k' H := by
  unfold regB at h ⊢
  cases hd : r.draw <;> rw [hd] at h
  · exact seqA_frame.seqA_mono _ _ _ _ _ _ h hk
  · exact seqV_mono _ _ _ _ _ _ _ h hk
theorem regA_mono {r : Reg} {env : Env} {k k' : Env → AH → Prop} (h : regA P n r env k H) (hk : ∀ e H, k e H → k' e H) : regA P n r env k' H := by
  unfold regA at h ⊢
  cases hd : needsR P r.ops <;> rw [hd] at h
  · exact regB_mono h hk
  · exact regB_mono (H := H.up r.ops.size) h hk
theorem regA_frame {r : Reg} {env : Env} {k : Env → AH → Prop} (ho : ∀ o ∈ r.ops.toList, ∀ d, o.dst = some d → ok d = true) (h : regA P n r env k H) : regA P n r env (fun env' H' => k env' H' ∧ Same ok env env') H := by
  unfold regA at h ⊢
  cases hd : needsR P r.ops <;> rw [hd] at h
  · exact regB_frame ho h
  · exact regB_frame (H := H.up r.ops.size) ho h
theorem Gh_mono {B : Nat} {vs : List AV} {J J' : List AV → AH → Prop} (h : Gh P B vs H J) (hj : ∀ vs H, J vs H → J' vs H) : Gh P B vs H J' := by
  obtain ⟨vs', H2, h1, h2⟩ := h; exact ⟨vs', H2, h1, hj _ _ h2⟩
theorem wpA_mono : ∀ (c : AC) (env : Env) (K K' : Knt) (H : AH), wpA P n rs c env K H → (∀ e env H, K e env H → K' e env H) → wpA P n rs c env K' H := by
  intro c
  induction c with
  | skip => exact fun env K K' H h hk => hk _ _ _ h
  | ret => exact fun env K K' H h hk => hk _ _ _ h
  | exit id => exact fun env K K' H h hk => hk _ _ _ h
  | label l => exact fun env K K' H h hk => hk _ _ _ h
  | reg k =>
    intro env K K' H h hk
    simp only [wpA] at h ⊢
    cases hr : rs[k]? with
    | none => rw [hr] at h; exact hk _ _ _ h
    | some r => rw [hr] at h; exact regA_mono h fun e H h => hk _ _ _ h
  | seq a b iha ihb =>
    intro env K K' H h hk
    exact iha env _ _ H h fun e env H h => by cases e <;> first | exact ihb _ _ _ _ h hk | exact hk _ _ _ h
  | cut ws ks a b iha ihb =>
    intro env K K' H h hk
    obtain ⟨J, h1, h2⟩ := h
    exact ⟨J, iha env _ _ H h1 fun e env H h => by cases e <;> first | exact h | exact hk _ _ _ h, fun vs H' hl hn hj => ihb _ _ _ _ (h2 vs H' hl hn hj) hk⟩
  | cond c a b iha ihb =>
    intro env K K' H h hk
    obtain ⟨c, h1, h2, h3⟩ := h
    exact ⟨c, h1, fun hc => iha _ _ _ _ (h2 hc) hk, fun hc => ihb _ _ _ _ (h3 hc) hk⟩
  | block id a iha =>
    intro env K K' H h hk
    refine iha env _ _ H h fun e env H h => ?_
    cases e <;> first | exact hk _ _ _ h | skip
    simp only [blockK] at h ⊢
    split at h
    · rename_i hi; rw [if_pos hi]; exact hk _ _ _ h
    · rename_i hi; rw [if_neg hi]; exact hk _ _ _ h
  | loop ws ks a iha =>
    intro env K K' H h hk
    obtain ⟨I, μ, h1, h2⟩ := h
    exact ⟨I, μ, h1, fun vs H1 hl hn hi => iha _ _ _ _ (h2 vs H1 hl hn hi) fun e env H h => by cases e <;> first | exact h | exact hk _ _ _ h⟩
  | scope a iha =>
    intro env K K' H h hk
    exact iha env _ _ H h fun e env H h => by cases e <;> first | exact h.elim | exact hk _ _ _ h
  | gh a iha =>
    intro env K K' H h hk
    obtain ⟨H2, h1, h2⟩ := h
    exact ⟨H2, h1, iha _ _ _ _ h2 hk⟩
theorem idx_mem : ∀ {l : List Nat} {t i j : Nat}, idxOf t l i = some j → i ≤ j ∧ l[j - i]? = some t
  | [], t, i, j, h => by cases h
  | x :: r, t, i, j, h => by
    unfold idxOf at h
    cases hb : Nat.beq t x <;> rw [hb] at h <;> simp only [cond_true, cond_false] at h
    · obtain ⟨h1, h2⟩ := idx_mem h
      refine ⟨by omega, ?_⟩
      rw [show j - i = (j - (i + 1)) + 1 by omega, List.getElem?_cons_succ]; exact h2
    · injection h with h
      subst h
      have := Nat.eq_of_beq_eq_true hb
      subst this
      exact ⟨Nat.le_refl _, by simp⟩
theorem ovr_same {env : Env} {ws : List Tmp} {ks : List (Nat × Nat)} {vs : List AV} (h1 : ws.all ok = true) (h2 : ks.all (fun p => (List.range (p.2 - p.1)).all fun k => ok (p.1 + k)) = true) : Same ok env (ovr env ws ks vs) := by
  intro t ht
  unfold ovr
  cases hi' : idxOf t ws 0 with
  | some i =>
    obtain ⟨_, h3⟩ := idx_mem hi'
    have := List.all_eq_true.1 h1 t (List.mem_of_getElem? h3)
    rw [this] at ht; cases ht
  | none =>
    dsimp only
    cases hb : inIv ks t with
    | false => rfl
    | true =>
      unfold inIv at hb
      obtain ⟨p, hp, hb⟩ := List.any_eq_true.1 hb
      simp only [Bool.and_eq_true, Nat.ble_eq, Nat.blt_eq] at hb
      have := List.all_eq_true.1 (List.all_eq_true.1 h2 p hp) (t - p.1) (List.mem_range.2 (by omega))
      rw [show p.1 + (t - p.1) = t by omega, ht] at this
      cases this
theorem wpA_frame : ∀ (c : AC) (env : Env) (K : Knt) (H : AH), wrIn rs ok c = true → wpA P n rs c env K H → wpA P n rs c env (fun e env' H' => K e env' H' ∧ Same ok env env') H := by
  intro c
  induction c with
  | skip => exact fun env K H _ h => ⟨h, .refl _⟩
  | ret => exact fun env K H _ h => ⟨h, .refl _⟩
  | exit id => exact fun env K H _ h => ⟨h, .refl _⟩
  | label l => exact fun env K H _ h => ⟨h, .refl _⟩
  | reg k =>
    intro env K H hw h
    simp only [wpA, wrIn] at h hw ⊢
    cases hr : rs[k]? with
    | none => rw [hr] at h; exact ⟨h, .refl _⟩
    | some r =>
      rw [hr] at h hw
      refine regA_frame (fun o ho d hd => ?_) h
      have := List.all_eq_true.1 hw o ho
      rw [hd] at this
      exact this
  | seq a b iha ihb =>
    intro env K H hw h
    simp only [wrIn, Bool.and_eq_true] at hw
    refine wpA_mono a env _ _ H (iha env _ H hw.1 h) fun e env1 H1 ⟨h1, h2⟩ => ?_
    cases e <;> first | exact wpA_mono b env1 _ _ H1 (ihb env1 _ H1 hw.2 h1) (fun e2 env2 H2 ⟨q1, q2⟩ => ⟨q1, h2.trans q2⟩) | exact ⟨h1, h2⟩
  | cut ws ks a b iha ihb =>
    intro env K H hw h
    simp only [wrIn, Bool.and_eq_true] at hw
    obtain ⟨⟨⟨w1, w2⟩, w3⟩, w4⟩ := hw
    obtain ⟨J, h1, h2⟩ := h
    refine ⟨J, wpA_mono a env _ _ H (iha env _ H w1 h1) (fun e env1 H1 ⟨h1, h2⟩ => by cases e <;> first | exact h1 | exact ⟨h1, h2⟩), fun vs H' hl hn hj => ?_⟩
    exact wpA_mono b _ _ _ H' (ihb _ _ H' w2 (h2 vs H' hl hn hj)) fun e2 env2 H2 ⟨q1, q2⟩ => ⟨q1, (ovr_same w3 w4).trans q2⟩
  | cond c a b iha ihb =>
    intro env K H hw h
    simp only [wrIn, Bool.and_eq_true] at hw
    obtain ⟨c, h1, h2, h3⟩ := h
    exact ⟨c, h1, fun hc => iha _ _ _ hw.1 (h2 hc), fun hc => ihb _ _ _ hw.2 (h3 hc)⟩
  | block id a iha =>
    intro env K H hw h
    refine wpA_mono a env _ _ H (iha env _ H hw h) fun e env1 H1 ⟨h1, h2⟩ => ?_
    cases e <;> first | exact ⟨h1, h2⟩ | skip
    simp only [blockK] at h1 ⊢
    split at h1
    · rename_i hi; rw [if_pos hi]; exact ⟨h1, h2⟩
    · rename_i hi; rw [if_neg hi]; exact ⟨h1, h2⟩
  | loop ws ks a iha =>
    intro env K H hw h
    simp only [wrIn, Bool.and_eq_true] at hw
    obtain ⟨⟨w1, w3⟩, w4⟩ := hw
    obtain ⟨I, μ, h1, h2⟩ := h
    refine ⟨I, μ, h1, fun vs H1 hl hn hi => wpA_mono a _ _ _ H1 (iha _ _ H1 w1 (h2 vs H1 hl hn hi)) fun e env1 H1 ⟨q1, q2⟩ => ?_⟩
    cases e <;> first | exact q1 | exact ⟨q1, (ovr_same w3 w4).trans q2⟩
  | scope a iha =>
    intro env K H hw h
    exact wpA_mono a env _ _ H (iha env _ H hw h) fun e env H ⟨h1, h2⟩ => by cases e <;> first | exact h1.elim | exact ⟨h1, h2⟩
  | gh a iha =>
    intro env K H hw h
    obtain ⟨H2, h1, h2⟩ := h
    exact ⟨H2, h1, iha _ _ _ hw h2⟩
end
end Go.Proofs.Ytcmnjoepadjioaa
