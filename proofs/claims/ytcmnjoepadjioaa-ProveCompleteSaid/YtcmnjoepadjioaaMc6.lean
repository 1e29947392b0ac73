/- Texts that the proof rests on, part 6: what each holds stands at its head. -/
import Derived.Test.YtcmnjoepadjioaaMc5

/- Whole bodies on abstract memory: what is told holds of the model. Nothing of the program is named here. -/
namespace Go.Proofs.Ytcmnjoepadjioaa
open Go.RowKit Go.Maps

section
variable {P : Program} {w : World} {S : Nat → Prop} {σ : Nat → Option Value} {H V : AH} {n b : Nat} {ops : Array Oper} {rs : List Reg} {ok : Tmp → Bool}
def Same (ok : Tmp → Bool) (env env' : Env) : Prop := ∀ t, ok t = false → env' t = env t
theorem Same.refl (env : Env) : Same ok env env := fun _ _ => rfl
theorem Same.trans {a b c : Env} (h : Same ok a b) (k : Same ok b c) : Same ok a c := fun t ht => (k t ht).trans (h t ht)
theorem Same.set {env : Env} {dst : Option Tmp} {a : AV} (h : ∀ d, dst = some d → ok d = true) : Same ok env (setE n env dst a) := by
  intro t ht
  cases dst with
  | none => rfl
  | some d =>
    have hne : t ≠ d := fun e => by subst e; rw [h t rfl] at ht; cases ht
    simp only [setE]
    cases Nat.blt d n
    · rfl
    · simp only [cond_true]
      rw [show Nat.beq t d = false from by rw [Bool.eq_false_iff]; exact fun e => hne (Nat.eq_of_beq_eq_true e)]
      rfl
theorem coreS_mono {id : Nat} {o : Op} {env : Env} {k k' : AV → AH → Prop} (h : coreS P id o env k H) (hk : ∀ x H, k x H → k' x H) : coreS P id o env k' H := by
  unfold coreS at h ⊢
  cases hc : cls P o <;> rw [hc] at h <;> dsimp only at h ⊢
  · exact hk _ _ h
  · obtain ⟨a, h1, h2⟩ := h; exact ⟨a, h1, hk _ _ h2⟩
  · obtain ⟨a, h1, h2⟩ := h; exact ⟨a, h1, hk _ _ h2⟩
  · obtain ⟨a, o', h1, h2⟩ := h; exact ⟨a, o', h1, hk _ _ h2⟩
  · obtain ⟨a, H', h1, h2⟩ := h; exact ⟨a, H', h1, hk _ _ h2⟩
  · obtain ⟨g, first, cap, Q, h1, h2, h3, h4⟩ := h; exact ⟨g, first, cap, Q, h1, h2, h3, fun r H' hs hq => hk _ _ (h4 r H' hs hq)⟩
theorem seqA_frame : ∀ (l : List Oper) (i : Nat) (env : Env) (k : Env → AH → Prop) (H : AH), (∀ o ∈ l, ∀ d, o.dst = some d → ok d = true) → seqA P n b ops l i env k H → seqA P n b ops l i env (fun env' H' => k env' H' ∧ Same ok env env') H
  | [], i, env, k, H, _, h => ⟨h, .refl _⟩
  | o :: rest, i, env, k, H, ho, h => by
    have step : ∀ x H, seqA P n b ops rest (i + 1) (setE n env o.dst x) k H → seqA P n b ops rest (i + 1) (setE n env o.dst x) (fun env' H' => k env' H' ∧ Same ok env env') H := by
      intro x H h
      have h1 := seqA_frame rest (i + 1) _ k H (fun o' ho' => ho o' (by simp [ho'])) h
      have h2 : Same ok env (setE n env o.dst x) := .set (ho o (by simp))
      exact seqA_mono rest (i + 1) _ _ _ H h1 (fun e H ⟨q1, q2⟩ => ⟨q1, h2.trans q2⟩)
    simp only [seqA] at h ⊢
    cases hg : o.guard with
    | none => rw [hg] at h; exact coreS_mono h step
    | some g =>
      obtain ⟨j, want⟩ := g
      rw [hg] at h
      obtain ⟨c, hc, h1, h2⟩ := h
      exact ⟨c, hc, fun hw => coreS_mono (h1 hw) step, fun hw => step _ _ (h2 hw)⟩
where
  seqA_mono : ∀ (l : List Oper) (i : Nat) (env : Env) (k k' : Env → AH → Prop) (H : AH), seqA P n b ops l i env k H → (∀ e H, k e H → k' e H) → seqA P n b ops l i env k' H
  | [], i, env, k, k', H, h, hk => hk _ _ h
  | o :: rest, i, env, k, k', H, h, hk => by
    simp only [seqA] at h ⊢
    cases hg : o.guard with
    | none => rw [hg] at h; exact coreS_mono h fun x H h => seqA_mono rest (i + 1) _ k k' H h hk
    | some g =>
      obtain ⟨j, want⟩ := g
      rw [hg] at h
      obtain ⟨c, hc, h1, h2⟩ := h
      exact ⟨c, hc, fun hw => coreS_mono (h1 hw) fun x H h => seqA_mono rest (i + 1) _ k k' H h hk, fun hw => seqA_mono rest (i + 1) _ k k' H (h2 hw) hk⟩
theorem seqV_mono : ∀ (l : List Oper) (i : Nat) (env : Env) (k k' : Env → AH → Prop) (V H : AH), seqV P n b ops l i env k V H → (∀ e H, k e H → k' e H) → seqV P n b ops l i env k' V H
  | [], i, env, k, k', V, H, h, hk => hk _ _ h
  | o :: rest, i, env, k, k', V, H, h, hk => by
    simp only [seqV] at h ⊢
    exact stepV_mono h fun e V H h => seqV_mono rest (i + 1) _ k k' V H h hk
theorem seqV_frame : ∀ (l : List Oper) (i : Nat) (env : Env) (k : Env → AH → Prop) (V H : AH), (∀ o ∈ l, ∀ d, o.dst = some d → ok d = true) → seqV P n b ops l i env k V H → seqV P n b ops l i env (fun env' H' => k env' H' ∧ Same ok env env') V H
  | [], i, env, k, V, H, _, h => ⟨h, .refl _⟩
  | o :: rest, i, env, k, V, H, ho, h => by
    simp only [seqV] at h ⊢
    rw [stepV_iff] at h ⊢
    obtain ⟨x, V', H', h1, h2⟩ := h
    have h3 := seqV_frame rest (i + 1) _ k V' H' (fun o' ho' => ho o' (by simp [ho'])) h2
    have h4 : Same ok env (setE n env o.dst x) := .set (ho o (by simp))
    exact ⟨x, V', H', h1, seqV_mono rest (i + 1) _ _ _ V' H' h3 (fun e H ⟨q1, q2⟩ => ⟨q1, h4.trans q2⟩)⟩
theorem regB_frame {r : Reg} {env : Env} {k : Env → AH → Prop} (ho : ∀ o ∈ r.ops.toList, ∀ d, o.dst = some d → ok d = true) (h : regB P n b r env k H) : regB P n b r env (fun env' H' => k env' H' ∧ Same ok env env') H := by
  unfold regB at h ⊢
  cases hd : r.draw <;> rw [hd] at h
  · exact seqA_frame _ _ _ _ _ ho h
  · exact seqV_frame _ _ _ _ _ _ ho h
theorem regB_mono {r : Reg} {env : Env} {k k' : Env → AH → Prop} (h : regB P n b r env k H) (hk : ∀ e H, k e H → k' e H) : regB P n b r env k' H := by
  unfold regB at h ⊢
  cases hd : r.draw <;> rw [hd] at h
  · exact seqA_frame.seqA_mono _ _ _ _ _ _ h hk
  · exact seqV_mono _ _ _ _ _ _ _ h hk
theorem regA_mono {r : Reg} {env : Env} {k k' : Env → AH → Prop} (h : regA P n r env k H) (hk : ∀ e H, k e H → k' e H) : regA P n r env k' H := by
  unfold regA at h ⊢
  cases hd : needsR P r.ops <;> rw [hd] at h
  · exact regB_mono h hk
  · exact regB_mono (H := H.up r.ops.size) h hk
theorem regA_frame {r : Reg} {env : Env} {k : Env → AH → Prop} (ho : ∀ o ∈ r.ops.toList, ∀ d, o.dst = some d → ok d = true) (h : regA P n r env k H) : regA P n r env (fun env' H' => k env' H' ∧ Same ok env env') H := by
  unfold regA at h ⊢
  cases hd : needsR P r.ops <;> rw [hd] at h
  · exact regB_frame ho h
  · exact regB_frame (H := H.up r.ops.size) ho h
theorem Gh_mono {B : Nat} {vs : List AV} {J J' : List AV → AH → Prop} (h : Gh P B vs H J) (hj : ∀ vs H, J vs H → J' vs H) : Gh P B vs H J' := by
  obtain ⟨vs', H2, h1, h2⟩ := h; exact ⟨vs', H2, h1, hj _ _ h2⟩
theorem wpA_mono : ∀ (c : AC) (env : Env) (K K' : Knt) (H : AH), wpA P n rs c env K H → (∀ e env H, K e env H → K' e env H) → wpA P n rs c env K' H := by
  intro c
  induction c with
  | skip => exact fun env K K' H h hk => hk _ _ _ h
  | ret => exact fun env K K' H h hk => hk _ _ _ h
  | exit id => exact fun env K K' H h hk => hk _ _ _ h
  | label l => exact fun env K K' H h hk => hk _ _ _ h
  | reg k =>
    intro env K K' H h hk
    simp only [wpA] at h ⊢
    cases hr : rs[k]? with
    | none => rw [hr] at h; exact hk _ _ _ h
    | some r => rw [hr] at h; exact regA_mono h fun e H h => hk _ _ _ h
  | seq a b iha ihb =>
    intro env K K' H h hk
    exact iha env _ _ H h fun e env H h => by cases e <;> first | exact ihb _ _ _ _ h hk | exact hk _ _ _ h
  | cut ws ks a b iha ihb =>
    intro env K K' H h hk
    obtain ⟨J, h1, h2⟩ := h
    exact ⟨J, iha env _ _ H h1 fun e env H h => by cases e <;> first | exact h | exact hk _ _ _ h, fun vs H' hl hn hs hj => ihb _ _ _ _ (h2 vs H' hl hn hs hj) hk⟩
  | cond c a b iha ihb =>
    intro env K K' H h hk
    obtain ⟨c, h1, h2, h3⟩ := h
    exact ⟨c, h1, fun hc => iha _ _ _ _ (h2 hc) hk, fun hc => ihb _ _ _ _ (h3 hc) hk⟩
  | block id a iha =>
    intro env K K' H h hk
    refine iha env _ _ H h fun e env H h => ?_
    cases e <;> first | exact hk _ _ _ h | skip
    simp only [blockK] at h ⊢
    split at h
    · rename_i hi; rw [if_pos hi]; exact hk _ _ _ h
    · rename_i hi; rw [if_neg hi]; exact hk _ _ _ h
  | loop ws ks a iha =>
    intro env K K' H h hk
    obtain ⟨I, μ, h1, h2⟩ := h
    exact ⟨I, μ, h1, fun vs H1 hl hn hs hi => iha _ _ _ _ (h2 vs H1 hl hn hs hi) fun e env H h => by cases e <;> first | exact h | exact hk _ _ _ h⟩
  | scope a iha =>
    intro env K K' H h hk
    exact iha env _ _ H h fun e env H h => by cases e <;> first | exact h.elim | exact hk _ _ _ h
  | gh a iha =>
    intro env K K' H h hk
    obtain ⟨H2, h1, h2⟩ := h
    exact ⟨H2, h1, iha _ _ _ _ h2 hk⟩
theorem idx_mem : ∀ {l : List Nat} {t i j : Nat}, idxOf t l i = some j → i ≤ j ∧ l[j - i]? = some t
  | [], t, i, j, h => by cases h
  | x :: r, t, i, j, h => by
    unfold idxOf at h
    cases hb : Nat.beq t x <;> rw [hb] at h <;> simp only [cond_true, cond_false] at h
    · obtain ⟨h1, h2⟩ := idx_mem h
      refine ⟨by omega, ?_⟩
      rw [show j - i = (j - (i + 1)) + 1 by omega, List.getElem?_cons_succ]; exact h2
    · injection h with h
      subst h
      have := Nat.eq_of_beq_eq_true hb
      subst this
      exact ⟨Nat.le_refl _, by simp⟩
theorem ovr_same {env : Env} {ws : List Tmp} {ks : List (Nat × Nat)} {vs : List AV} (h1 : ws.all ok = true) (h2 : ks.all (fun p => (List.range (p.2 - p.1)).all fun k => ok (p.1 + k)) = true) : Same ok env (ovr env ws ks vs) := by
  intro t ht
  unfold ovr
  cases hi' : idxOf t ws 0 with
  | some i =>
    obtain ⟨_, h3⟩ := idx_mem hi'
    have := List.all_eq_true.1 h1 t (List.mem_of_getElem? h3)
    rw [this] at ht; cases ht
  | none =>
    dsimp only
    cases hb : inIv ks t with
    | false => rfl
    | true =>
      unfold inIv at hb
      obtain ⟨p, hp, hb⟩ := List.any_eq_true.1 hb
      simp only [Bool.and_eq_true, Nat.ble_eq, Nat.blt_eq] at hb
      have := List.all_eq_true.1 (List.all_eq_true.1 h2 p hp) (t - p.1) (List.mem_range.2 (by omega))
      rw [show p.1 + (t - p.1) = t by omega, ht] at this
      cases this
theorem wpA_frame : ∀ (c : AC) (env : Env) (K : Knt) (H : AH), wrIn rs ok c = true → wpA P n rs c env K H → wpA P n rs c env (fun e env' H' => K e env' H' ∧ Same ok env env') H := by
  intro c
  induction c with
  | skip => exact fun env K H _ h => ⟨h, .refl _⟩
  | ret => exact fun env K H _ h => ⟨h, .refl _⟩
  | exit id => exact fun env K H _ h => ⟨h, .refl _⟩
  | label l => exact fun env K H _ h => ⟨h, .refl _⟩
  | reg k =>
    intro env K H hw h
    simp only [wpA, wrIn] at h hw ⊢
    cases hr : rs[k]? with
    | none => rw [hr] at h; exact ⟨h, .refl _⟩
    | some r =>
      rw [hr] at h hw
      refine regA_frame (fun o ho d hd => ?_) h
      have := List.all_eq_true.1 hw o ho
      rw [hd] at this
      exact this
  | seq a b iha ihb =>
    intro env K H hw h
    simp only [wrIn, Bool.and_eq_true] at hw
    refine wpA_mono a env _ _ H (iha env _ H hw.1 h) fun e env1 H1 ⟨h1, h2⟩ => ?_
    cases e <;> first | exact wpA_mono b env1 _ _ H1 (ihb env1 _ H1 hw.2 h1) (fun e2 env2 H2 ⟨q1, q2⟩ => ⟨q1, h2.trans q2⟩) | exact ⟨h1, h2⟩
  | cut ws ks a b iha ihb =>
    intro env K H hw h
    simp only [wrIn, Bool.and_eq_true] at hw
    obtain ⟨⟨⟨w1, w2⟩, w3⟩, w4⟩ := hw
    obtain ⟨J, h1, h2⟩ := h
    refine ⟨J, wpA_mono a env _ _ H (iha env _ H w1 h1) (fun e env1 H1 ⟨h1, h2⟩ => by cases e <;> first | exact h1 | exact ⟨h1, h2⟩), fun vs H' hl hn hs hj => ?_⟩
    exact wpA_mono b _ _ _ H' (ihb _ _ H' w2 (h2 vs H' hl hn hs hj)) fun e2 env2 H2 ⟨q1, q2⟩ => ⟨q1, (ovr_same w3 w4).trans q2⟩
  | cond c a b iha ihb =>
    intro env K H hw h
    simp only [wrIn, Bool.and_eq_true] at hw
    obtain ⟨c, h1, h2, h3⟩ := h
    exact ⟨c, h1, fun hc => iha _ _ _ hw.1 (h2 hc), fun hc => ihb _ _ _ hw.2 (h3 hc)⟩
  | block id a iha =>
    intro env K H hw h
    refine wpA_mono a env _ _ H (iha env _ H hw h) fun e env1 H1 ⟨h1, h2⟩ => ?_
    cases e <;> first | exact ⟨h1, h2⟩ | skip
    simp only [blockK] at h1 ⊢
    split at h1
    · rename_i hi; rw [if_pos hi]; exact ⟨h1, h2⟩
    · rename_i hi; rw [if_neg hi]; exact ⟨h1, h2⟩
  | loop ws ks a iha =>
    intro env K H hw h
    simp only [wrIn, Bool.and_eq_true] at hw
    obtain ⟨⟨w1, w3⟩, w4⟩ := hw
    obtain ⟨I, μ, h1, h2⟩ := h
    refine ⟨I, μ, h1, fun vs H1 hl hn hs hi => wpA_mono a _ _ _ H1 (iha _ _ H1 w1 (h2 vs H1 hl hn hs hi)) fun e env1 H1 ⟨q1, q2⟩ => ?_⟩
    cases e <;> first | exact q1 | exact ⟨q1, (ovr_same w3 w4).trans q2⟩
  | scope a iha =>
    intro env K H hw h
    exact wpA_mono a env _ _ H (iha env _ H hw h) fun e env H ⟨h1, h2⟩ => by cases e <;> first | exact h1.elim | exact ⟨h1, h2⟩
  | gh a iha =>
    intro env K H hw h
    obtain ⟨H2, h1, h2⟩ := h
    exact ⟨H2, h1, iha _ _ _ hw h2⟩
end
end Go.Proofs.Ytcmnjoepadjioaa

/- Whole bodies on abstract memory: what is told holds of the model; the contract of a function. Nothing of the program is named here. -/
namespace Go.Proofs.Ytcmnjoepadjioaa
open Go.RowKit Go.Maps

section
variable {P : Program} {w : World} {S : Nat → Prop} {σ : Nat → Option Value} {H V : AH} {n b : Nat} {ops : Array Oper} {rs : List Reg} {Ms : List (Array Nat)}
/-- what is named lies below -/
def Scp (B : Nat) (a : AV) : Prop := ∃ w S σ v, Rp w S σ a v ∧ ∀ id u, σ id = some u → id < B
theorem Scp.comps {B : Nat} {cs : List AV} {w : World} {S : Nat → Prop} {σ : Nat → Option Value} {vs : List Value} (h : Rps w S σ cs vs) (hb : ∀ id u, σ id = some u → id < B) : ∀ a ∈ cs, Scp B a := by
  intro a ha
  obtain ⟨i, hi⟩ := List.getElem?_of_mem ha
  obtain ⟨v, _, hr⟩ := h.at_ hi
  exact ⟨w, S, σ, v, hr, hb⟩
theorem Rp.re {S2 : Nat → Prop} {σ2 : Nat → Option Value} {B : Nat} {a : AV} {v : Value} (h : Rp w S σ a v) (hS : ∀ b, S b → S2 b) (hσ : ∀ id, id < B → σ2 id = σ id) : Scp B a → Rp w S2 σ2 a v := by
  induction h with
  | any v => exact fun _ => .any v
  | data a v h => exact fun _ => .data _ _ (h.mono hS (fun _ _ => rfl))
  | agg cs vs hl _ h1 ih =>
    rintro ⟨w0, S0, σ0, v0, hr, hb⟩
    obtain ⟨us, _, q, _⟩ := hr.agg_inv
    exact .agg cs vs hl (fun i a v ha hv => ih i a v ha hv (Scp.comps q hb a (List.mem_of_getElem? ha))) h1
  | tup cs vs hl _ ih =>
    rintro ⟨w0, S0, σ0, v0, hr, hb⟩
    obtain ⟨us, _, q⟩ := hr.tup_inv
    exact .tup cs vs hl (fun i a v ha hv => ih i a v ha hv (Scp.comps q hb a (List.mem_of_getElem? ha)))
  | dptr sz xs i j g o c h hi => exact fun _ => .dptr sz xs i j g o c (h.mono hS (fun _ _ => rfl)) hi
  | ptr id off g h =>
    rintro ⟨w0, S0, σ0, v0, hr, hb⟩
    obtain ⟨_, _, q⟩ := hr.ptr_inv
    exact .ptr id off g ((hσ id (hb _ _ q)).trans h)
  | eptr id sz i j g o n c h =>
    rintro ⟨w0, S0, σ0, v0, hr, hb⟩
    obtain ⟨_, _, _, _, _, q⟩ := hr.eptr_inv
    exact .eptr id sz i j g o n c ((hσ id (hb _ _ q)).trans h)
  | osl id sz off n A B' N c cc h h1 h2 h3 =>
    rintro ⟨w0, S0, σ0, v0, hr, hb⟩
    obtain ⟨_, _, _, _, _, _, q, _⟩ := hr.osl_inv
    exact .osl id sz off n A B' N c cc ((hσ id (hb _ _ q)).trans h) h1 h2 h3
  | mp id g h =>
    rintro ⟨w0, S0, σ0, v0, hr, hb⟩
    obtain ⟨_, _, q⟩ := hr.mp_inv
    exact .mp id g ((hσ id (hb _ _ q)).trans h)
  | fn f first captured fs cs h1 h2 _ _ ih1 ih2 =>
    rintro ⟨w0, S0, σ0, v0, hr, hb⟩
    obtain ⟨_, _, _, q1, q2⟩ := hr.fn_inv
    exact .fn f first captured fs cs h1 h2 (fun i a v ha hv => ih1 i a v ha hv (Scp.comps q1 hb a (List.mem_of_getElem? ha))) (fun i a v ha hv => ih2 i a v ha hv (Scp.comps q2 hb a (List.mem_of_getElem? ha)))
/-- how things stand, told -/
def St (P : Program) (n : Nat) (w0 : World) (S0 : Nat → Prop) (σ0 : Nat → Option Value) (H0 : AH) (K : Env → AH → Prop) (a' : Act) (w' : World) : Prop :=
  ∃ env' H' S' σ', K env' H' ∧ RepE n a' w' S' σ' env' ∧ Sat P w' S' σ' H' ∧ Ext w0 S0 σ0 H0 w' S' σ' H' ∧ H0.nx ≤ H'.nx ∧ ∀ j, j < H0.nx → σ' j = σ0 j
theorem Sat.up (hs : Sat P w S σ H) (m : Nat) : Sat P w S σ (H.up m) := hs.congr (fun _ => rfl) (Nat.le_add_right _ _)
theorem Ext.ofUp {w' : World} {S' : Nat → Prop} {σ' : Nat → Option Value} {H' : AH} {m : Nat} (h : Ext w S σ (H.up m) w' S' σ' H') : Ext w S σ H w' S' σ' H' := ⟨h.os, h.tape, h.output, h.size, h.keep, h.sup, h.sub, h.foot, h.sig⟩
theorem RepE.world {a : Act} {env : Env} {w1 : World} (h : RepE n a w S σ env) (hw : w1.heap = w.heap) : RepE n a w1 S σ env := ⟨h.size, h.defers, fun t => (h.at_ t).world hw⟩
theorem regB_sound {r : Reg} {nd : Bool} {B0 : Nat} (hm : P.follows .mixedOrders = true) {M : Array Nat} (hM : r.draw = true → maskOk r.ops M = true ∧ freeOk P r.ops M = true) (hnd : ∀ o ∈ r.ops.toList, needC (cls P o.op) = true → nd = true)
    {Q : Exit → Act → World → Prop} {env : Env} {k : Env → AH → Prop} {a : Act} (hr : RepE n a w S σ env) (hs : Sat P w S σ H) (hres : nd = true → ∀ j, j < r.ops.size → b + j < H.nx ∧ σ (b + j) = none) (hB : B0 ≤ H.nx) (hBb : nd = true → B0 ≤ b)
    (hQ : ∀ a' w' S' σ' env' H', k env' H' → RepE n a' w' S' σ' env' → Sat P w' S' σ' H' → Ext w S σ H w' S' σ' H' → H.nx ≤ H'.nx → (∀ j, j < B0 → σ' j = σ j) → Q .normal a' w') (h : regB P n b r env k H) : (Code.region r.id r.ops r.draw).wp P Q a w := by
  unfold regB at h
  cases hd : r.draw with
  | false =>
    rw [hd] at h
    simp only [cond_false] at h
    exact wp_region_list (seqA_sound (nd := nd) _ 0 env k a w S σ H hr hs hnd (fun hn j _ hj => hres hn j (by simpa using hj)) hB hBb hQ h)
  | true =>
    rw [hd] at h
    simp only [cond_true, Vw] at h
    obtain ⟨m1, m2⟩ := hM hd
    have e1 : Ext w S σ H { w with drawn := w.drawn + 1 } S σ H := Ext.draw w S σ H 1
    refine wp_region_any hm (anyA_sound (nd := nd) (K := k) (V := H) (fun j o ho => hnd o (by rw [← Array.getElem?_toList] at ho; exact List.mem_of_getElem? ho)) _ _ env a _ S σ H (hr.world rfl) (hs.world rfl) (AH.le_refl H)
      (fun hn j hj => hres hn j ?_) hB hBb (fun a' w' S' σ' env' H' q1 q2 q3 q4 q5 q6 => hQ a' w' S' σ' env' H' q1 q2 q3 (e1.trans q4) q5 q6) ?_)
    · exact ((firstK_zero r.ops.size).2 j).1 hj |>.2
    · have := anyA_lex m1 m2 r.ops.toList 0 (Array.replicate r.ops.size false) env H H (fun j => by simp) (by simp) (firstK_zero _) h
      simpa using this
theorem regA_sound {r : Reg} (hm : P.follows .mixedOrders = true) {M : Array Nat} (hM : r.draw = true → maskOk r.ops M = true ∧ freeOk P r.ops M = true)
    {Q : Exit → Act → World → Prop} {env : Env} {k : Env → AH → Prop} {a : Act} (hr : RepE n a w S σ env) (hs : Sat P w S σ H)
    (hQ : ∀ a' w' S' σ' env' H', k env' H' → RepE n a' w' S' σ' env' → Sat P w' S' σ' H' → Ext w S σ H w' S' σ' H' → H.nx ≤ H'.nx → (∀ j, j < H.nx → σ' j = σ j) → Q .normal a' w') (h : regA P n r env k H) : (Code.region r.id r.ops r.draw).wp P Q a w := by
  unfold regA at h
  cases hn : needsR P r.ops with
  | false =>
    rw [hn] at h
    refine regB_sound (nd := false) (B0 := H.nx) hm hM (fun o ho hc => ?_) hr hs (fun h => by cases h) (Nat.le_refl _) (fun h => by cases h) hQ h
    unfold needsR at hn
    rw [List.any_eq_false] at hn
    exact absurd hc (hn o ho)
  | true =>
    rw [hn] at h
    simp only [cond_true, Rg] at h
    refine regB_sound (nd := true) (B0 := H.nx) (H := H.up r.ops.size) hm hM (fun _ _ _ => rfl) hr (hs.up _) (fun _ j hj => ⟨by show H.nx + j < H.nx + r.ops.size; omega, ?_⟩) (Nat.le_add_right _ _) (fun _ => Nat.le_refl _) (fun a' w' S' σ' env' H' q1 q2 q3 q4 q5 q6 => hQ a' w' S' σ' env' H' q1 q2 q3 q4.ofUp (Nat.le_trans (Nat.le_add_right _ _) q5) q6) h
    cases hσ : σ (H.nx + j) with
    | none => rfl
    | some u => have := hs.dom _ _ hσ; omega
theorem marks_reg {k : Nat} {r : Reg} (hk : rs[k]? = some r) (h : marksOk P rs Ms (.reg k) = true) : r.draw = true → maskOk r.ops (Ms.getD k #[]) = true ∧ freeOk P r.ops (Ms.getD k #[]) = true := by
  intro hd
  simp only [marksOk, hk, hd, Bool.not_true, Bool.false_or, Bool.and_eq_true] at h
  exact h
theorem tmps_rps {a : Act} {env : Env} (hr : RepE n a w S σ env) (ws : List Tmp) : Rps w S σ (ws.map env) (ws.map fun t => a.tmps.getD t undef) := by
  induction ws with
  | nil => exact .nil
  | cons t ws ih => exact .cons (hr.at_ t) ih
/-- behind a new telling -/
theorem gw_step {B : AH} {w0 : World} {S0 : Nat → Prop} {σ0 : Nat → Option Value} {a0 a' : Act} {env env' : Env} {ws : List Tmp} {ks : List (Nat × Nat)} {vs' : List AV} {H' H2 : AH} (hs0 : Sat P w0 S0 σ0 B) (hr0 : RepE n a0 w0 S0 σ0 env)
    (hr : RepE n a' w S σ env') (hs : Sat P w S σ H') (hx : Ext w0 S0 σ0 B w S σ H') (hsame : Same (inW ws ks) env env') (hg : GW P B.nx (ws.map env') H' vs' H2) :
    ∃ S2 σ2, RepE n a' w S2 σ2 (ovr env ws ks vs') ∧ Sat P w S2 σ2 H2 ∧ Ext w0 S0 σ0 B w S2 σ2 H2 ∧ B.nx ≤ H2.nx ∧ vs'.length = ws.length ∧ ∀ j, j < B.nx → σ2 j = σ j := by
  obtain ⟨S2, σ2, g1, g2, g3, g4, g5, g6, g7⟩ := hg w S σ _ hs (tmps_rps hr ws)
  refine ⟨S2, σ2, ⟨hr.size, hr.defers, fun t => ?_⟩, g1, ⟨hx.os, hx.tape, hx.output, hx.size, hx.keep, fun b hb => g3 b (hx.sup b hb), fun b hb => ?_, fun b hb => hx.foot b (g5 b hb), fun id u hu => ?_⟩, g7, by rw [g2.1]; simp, g6⟩
  · unfold ovr
    cases hi' : idxOf t ws 0 with
    | some i =>
      obtain ⟨_, h3⟩ := idx_mem hi'
      rw [Nat.sub_zero] at h3
      have hlt : i < vs'.length := by rw [g2.1, List.length_map]; exact (List.getElem?_eq_some_iff.1 h3).1
      dsimp only
      rw [List.getD_eq_getElem?_getD, List.getElem?_eq_getElem hlt, Option.getD_some]
      exact g2.2 i _ _ (List.getElem?_eq_getElem hlt) (by rw [List.getElem?_map, h3]; rfl)
    | none =>
      dsimp only
      cases hb : inIv ks t with
      | true => exact .any _
      | false =>
        have hin : inW ws ks t = false := by unfold inW; rw [hi', hb]; rfl
        have hse := hsame t hin
        have h1 := hr.at_ t
        rw [hse] at h1
        exact h1.re g3 g6 ⟨w0, S0, σ0, _, hr0.at_ t, hs0.dom⟩
  · rcases g4 b hb with h | h
    · exact hx.sub b h
    · exact .inr (hx.foot b h)
  · rw [g6 id (hs0.dom _ _ hu)]; exact hx.sig _ _ hu
theorem least_ex {p : Nat → Prop} : ∀ m, p m → ∃ m, p m ∧ ∀ k, p k → m ≤ k := by
  intro m
  induction m using Nat.strongRecOn with
  | _ m ih =>
    intro hm
    by_cases h : ∃ k, k < m ∧ p k
    · obtain ⟨k, hk, hp⟩ := h; exact ih k hk hp
    · exact ⟨m, hm, fun k hk => Nat.le_of_not_lt fun hlt => h ⟨k, hlt, hk⟩⟩
noncomputable def leastN (p : Nat → Prop) : Nat := Classical.epsilon fun m => p m ∧ ∀ k, p k → m ≤ k
theorem least_spec {p : Nat → Prop} (h : ∃ m, p m) : p (leastN p) ∧ ∀ k, p k → leastN p ≤ k := by
  obtain ⟨m, hm⟩ := h
  exact Classical.epsilon_spec (least_ex m hm)
theorem wpA_sound (hm : P.follows .mixedOrders = true) : ∀ (c : AC) (env : Env) (K : Knt) (a : Act) (w : World) (S : Nat → Prop) (σ : Nat → Option Value) (H : AH), marksOk P rs Ms c = true → RepE n a w S σ env → Sat P w S σ H → wpA P n rs c env K H →
    (erase rs c).wp P (fun e => St P n w S σ H (K e)) a w := by
  intro c
  induction c with
  | skip => exact fun env K a w S σ H _ hr hs h => wp_skip ⟨env, H, S, σ, h, hr, hs, .refl _ _ _ _, Nat.le_refl _, fun _ _ => rfl⟩
  | ret => exact fun env K a w S σ H _ hr hs h => wp_ret ⟨env, H, S, σ, h, hr, hs, .refl _ _ _ _, Nat.le_refl _, fun _ _ => rfl⟩
  | exit id => exact fun env K a w S σ H _ hr hs h => wp_exit ⟨env, H, S, σ, h, hr, hs, .refl _ _ _ _, Nat.le_refl _, fun _ _ => rfl⟩
  | label l => exact fun env K a w S σ H _ hr hs h => wp_label ⟨env, H, S, σ, h, hr, hs, .refl _ _ _ _, Nat.le_refl _, fun _ _ => rfl⟩
  | reg k =>
    intro env K a w S σ H hmk hr hs h
    simp only [wpA] at h
    cases hk : rs[k]? with
    | none => rw [hk] at h; simp only [erase, hk]; exact wp_skip ⟨env, H, S, σ, h, hr, hs, .refl _ _ _ _, Nat.le_refl _, fun _ _ => rfl⟩
    | some r =>
      rw [hk] at h
      simp only [erase, hk]
      exact regA_sound hm (marks_reg hk hmk) hr hs (fun a' w' S' σ' env' H' q1 q2 q3 q4 q5 q6 => ⟨env', H', S', σ', q1, q2, q3, q4, q5, q6⟩) h
  | seq x y ihx ihy =>
    intro env K a w S σ H hmk hr hs h
    simp only [marksOk, Bool.and_eq_true] at hmk
    refine wp_seq (wp_mono (ihx env _ a w S σ H hmk.1 hr hs h) fun e a' w' hst => ?_)
    obtain ⟨env', H', S', σ', q1, q2, q3, q4, q5, q6⟩ := hst
    cases e <;> first
      | (refine wp_mono (ihy env' K a' w' S' σ' H' hmk.2 q2 q3 q1) ?_
         rintro e2 a2 w2 ⟨env2, H2, S2, σ2, r1, r2, r3, r4, r5, r6⟩
         exact ⟨env2, H2, S2, σ2, r1, r2, r3, q4.trans r4, Nat.le_trans q5 r5, fun j hj => (r6 j (by omega)).trans (q6 j hj)⟩)
      | exact ⟨env', H', S', σ', q1, q2, q3, q4, q5, q6⟩
  | cut ws ks x y ihx ihy =>
    intro env K a w S σ H hmk hr hs h
    simp only [marksOk, Bool.and_eq_true] at hmk
    obtain ⟨⟨hw, hmx⟩, hmy⟩ := hmk
    obtain ⟨J, h1, h2⟩ := h
    refine wp_seq (wp_mono (ihx env _ a w S σ H hmx hr hs (wpA_frame x env _ H hw h1)) fun e a' w' hst => ?_)
    obtain ⟨env', H', S', σ', ⟨q1, qs⟩, q2, q3, q4, q5, q6⟩ := hst
    cases e <;> first
      | (obtain ⟨vs', H2, hg, hj⟩ := q1
         obtain ⟨S2, σ2, g1, g2, g3, g4, g5, g6⟩ := gw_step hs hr q2 q3 q4 qs hg
         refine wp_mono (ihy _ K a' w' S2 σ2 H2 hmy g1 g2 (h2 vs' H2 g5 g4 ⟨_, _, _, g2⟩ hj)) ?_
         rintro e2 a2 w2 ⟨env2, H3, S3, σ3, r1, r2, r3, r4, r5, r6⟩
         exact ⟨env2, H3, S3, σ3, r1, r2, r3, g3.trans r4, Nat.le_trans g4 r5, fun j hj => (r6 j (by omega)).trans ((g6 j hj).trans (q6 j hj))⟩)
      | exact ⟨env', H', S', σ', q1, q2, q3, q4, q5, q6⟩
  | cond c x y ihx ihy =>
    intro env K a w S σ H hmk hr hs h
    simp only [marksOk, Bool.and_eq_true] at hmk
    obtain ⟨t, h1, h2, h3⟩ := h
    have hc := hr.ev c
    rw [h1] at hc
    have hv := hc.p_inv.1
    cases t with
    | true => exact wp_cond_true hv (ihx env K a w S σ H hmk.1 hr hs (h2 rfl))
    | false => exact wp_cond_false hv (ihy env K a w S σ H hmk.2 hr hs (h3 rfl))
  | block id x ihx =>
    intro env K a w S σ H hmk hr hs h
    refine wp_block (wp_mono (ihx env _ a w S σ H hmk hr hs h) fun e a' w' hst => ?_)
    obtain ⟨env', H', S', σ', q1, q2, q3, q4, q5, q6⟩ := hst
    cases e <;> first | exact ⟨env', H', S', σ', q1, q2, q3, q4, q5, q6⟩ | skip
    rename_i id'
    simp only [blockK] at q1
    simp only [Exit.inBlock]
    split at q1
    · rename_i hi; rw [if_pos hi]; exact ⟨env', H', S', σ', q1, q2, q3, q4, q5, q6⟩
    · rename_i hi; rw [if_neg hi]; exact ⟨env', H', S', σ', q1, q2, q3, q4, q5, q6⟩
  | loop ws ks x ihx =>
    intro env K a w S σ H hmk hr hs h
    simp only [marksOk, Bool.and_eq_true] at hmk
    obtain ⟨hw, hmx⟩ := hmk
    obtain ⟨I, μ, h0, hround⟩ := h
    -- the state at the loop's head, with its measure
    let At (m : Nat) (a' : Act) (w' : World) : Prop := ∃ vs H1 S1 σ1, vs.length = ws.length ∧ H.nx ≤ H1.nx ∧ I vs H1 ∧ μ vs H1 = m ∧ RepE n a' w' S1 σ1 (ovr env ws ks vs) ∧ Sat P w' S1 σ1 H1 ∧ Ext w S σ H w' S1 σ1 H1 ∧ ∀ j, j < H.nx → σ1 j = σ j
    refine wp_loop (fun a' w' => ∃ m, At m a' w') (fun a' w' => leastN fun m => At m a' w') ?_ ?_
    · obtain ⟨vs', H2, hg, hj⟩ := h0
      obtain ⟨S2, σ2, g1, g2, g3, g4, g5, g6⟩ := gw_step hs hr hr hs (.refl _ _ _ _) (.refl _) hg
      exact ⟨_, vs', H2, S2, σ2, g5, g4, hj, rfl, g1, g2, g3, g6⟩
    · intro a' w' hex
      obtain ⟨vs, H1, S1, σ1, k1, k2, k3, k4, k5, k6, k7, k8⟩ := (least_spec hex).1
      refine wp_mono (ihx (ovr env ws ks vs) _ a' w' S1 σ1 H1 hmx k5 k6 (wpA_frame x _ _ H1 hw (hround vs H1 k1 k2 ⟨_, _, _, k6⟩ k3))) fun e a2 w2 hst => ?_
      obtain ⟨env', H', S', σ', ⟨q1, qs⟩, q2, q3, q4, q5, q6⟩ := hst
      cases e <;> first
        | (obtain ⟨vs', H2, hg, hj, hlt⟩ := q1
           have qs' : Same (inW ws ks) env env' := fun t ht => by
             rw [qs t ht]
             unfold ovr
             unfold inW at ht
             simp only [Bool.or_eq_false_iff] at ht
             obtain ⟨t1, t2⟩ := ht
             cases hx : idxOf t ws 0 with
             | some i => rw [hx] at t1; cases t1
             | none => dsimp only; rw [t2]; rfl
           obtain ⟨S2, σ2, g1, g2, g3, g4, g5, g6⟩ := gw_step hs hr q2 q3 (k7.trans q4) qs' hg
           have hat : At (μ vs' H2) a2 w2 := ⟨vs', H2, S2, σ2, g5, g4, hj, rfl, g1, g2, g3, fun j hj => (g6 j hj).trans ((q6 j (by omega)).trans (k8 j hj))⟩
           refine ⟨⟨_, hat⟩, ?_⟩
           have h5 := (least_spec (p := fun m => At m a2 w2) ⟨_, hat⟩).2 _ hat
           rw [k4] at hlt
           exact Nat.lt_of_le_of_lt h5 hlt)
        | exact ⟨env', H', S', σ', q1, q2, q3, k7.trans q4, Nat.le_trans k2 q5, fun j hj => (q6 j (by omega)).trans (k8 j hj)⟩
  | scope x ihx =>
    intro env K a w S σ H hmk hr hs h
    refine wp_scope_straight (wp_mono (ihx env _ a w S σ H hmk hr hs h) fun e a' w' hst => ?_)
    obtain ⟨env', H', S', σ', q1, q2, q3, q4, q5, q6⟩ := hst
    cases e <;> first | exact q1.elim | exact ⟨env', H', S', σ', q1, q2, q3, q4, q5, q6⟩
  | gh x ihx =>
    intro env K a w S σ H hmk hr hs h
    obtain ⟨H2, ⟨g1, g2⟩, h2⟩ := h
    obtain ⟨S2, k1, k2, k3, k4⟩ := g2 w S σ hs
    have e1 : Ext w S σ H w S2 σ H2 := ⟨rfl, rfl, rfl, Nat.le_refl _, fun _ _ _ => rfl, k2, fun b hb => (k3 b hb).elim .inl (fun h => .inr (.inl h)), fun b hb => .inl (k4 b hb), fun _ _ h => h⟩
    refine wp_mono (ihx env K a w S2 σ H2 hmk (hr.ext hs e1) k1 h2) ?_
    rintro e a' w' ⟨env', H', S', σ', q1, q2, q3, q4, q5, q6⟩
    exact ⟨env', H', S', σ', q1, q2, q3, e1.trans q4, Nat.le_trans g1 q5, fun j hj => q6 j (by omega)⟩
def regsF (f : Func) : List Reg := match f.body with
  | some c => regsOf c
  | none => []
def env0 (args : List AV) : Env := fun t => args.getD t .any
/-- a result: a variable, or what lies at an address -/
inductive RV where
  | tm (x : Tmp)
  | ce (x : Tmp) (ty : TypeId)
def RV.var : RV → ResultVar
  | .tm x => .tmp x
  | .ce x ty => .cell x ty
def mkR : List AV → AV
  | [a] => a
  | l => .tup l
def mkV : List Value → Value
  | [a] => a
  | l => .tuple l.toArray
def retL (P : Program) : List RV → Env → List AV → (List AV → AH → Prop) → AH → Prop
  | [], _, acc, k => k acc
  | .tm t :: r, env, acc, k => retL P r env (acc ++ [env t]) k
  | .ce a ty :: r, env, acc, k => match aggB P ty, P.info? ty with
    | some b, some i => RdS P (.ld i.size b) [env a] (fun v => retL P r env (acc ++ [v]) k)
    | _, _ => fun _ => False
def runRV (tmps : Array Value) : ResultVar → Sem Value
  | .tmp t => pure (tmps.getD t undef)
  | .cell a t => do loadVar t (← asAddr (tmps.getD a undef))
theorem Rps.mk {ps : List AV} {vs : List Value} (h : Rps w S σ ps vs) : Rp w S σ (mkR ps) (mkV vs) := by
  obtain ⟨hl, h⟩ := h
  match ps, vs, hl with
  | [], [], _ => exact Rps.tup (by simpa using Rps.nil)
  | [a], [v], _ => exact h 0 a v rfl rfl
  | a :: b :: r, v :: u :: q, hl => exact Rps.tup (by exact ⟨hl, h⟩)
theorem retL_sound {a : Act} {env : Env} (hr : RepE n a w S σ env) (hs : Sat P w S σ H) : ∀ (res : List RV) (acc : List AV) (k : List AV → AH → Prop), retL P res env acc k H →
    ∃ ps vs, k (acc ++ ps) H ∧ Rps w S σ ps vs ∧ ((res.map RV.var).mapM (runRV a.tmps)).run P w = .ok vs w
  | [], acc, k, h => ⟨[], [], by simpa [retL] using h, .nil, rfl⟩
  | .tm t :: r, acc, k, h => by
    obtain ⟨ps, vs, h1, h2, h3⟩ := retL_sound hr hs r _ k h
    exact ⟨env t :: ps, _ :: vs, by simpa using h1, .cons (hr.at_ t) h2, by simp only [List.map_cons, RV.var, List.mapM_cons, runRV, Sem.run_bind, Sem.run_pure, Result.andThen_ok, h3]⟩
  | .ce x ty :: r, acc, k, h => by
    simp only [retL] at h
    cases hb : aggB P ty with
    | none => rw [hb] at h; exact h.elim
    | some b =>
      cases hi : P.info? ty with
      | none => rw [hb, hi] at h; exact h.elim
      | some i =>
        rw [hb, hi] at h
        obtain ⟨v, hv, hk⟩ := h
        obtain ⟨ps, vs, h1, h2, h3⟩ := retL_sound hr hs r _ k hk
        have ho : Val1 P w S σ a.eval { dst := none, op := .load ty (.tmp x), type := ty, pos := "", after := #[], guard := none } v := rd_load hs rfl hb hi hv (hr.evs [.tmp x])
        obtain ⟨u, hu, hru⟩ := ho
        have hl : (do loadVar ty (← asAddr (a.tmps.getD x undef)) : Sem Value).run P w = .ok u w := by
          have hp : ∃ ad, a.tmps.getD x undef = .pointer (some ad) := by
            have hx := hr.at_ x
            cases hv with
            | ld_agg _ _ _ hat _ => obtain ⟨g, off, e, _⟩ := at_sound hs hat hx; exact ⟨_, e⟩
            | ld_one _ _ _ _ hat _ => obtain ⟨g, off, e, _⟩ := at_sound hs hat hx; exact ⟨_, e⟩
          obtain ⟨ad, hp⟩ := hp
          rw [hp]
          have hev : a.eval (.tmp x) = .pointer (some ad) := hp
          simp only [execOp, hev, Instr.loadAt, Instr.sureAddr, Sem.run_bind, Sem.run_pure, Result.andThen_ok] at hu
          simp only [asAddr, Sem.run_bind, Sem.run_pure, Result.andThen_ok]
          cases hq : (loadVar ty ad).run P w with
          | ok q w2 => rw [hq] at hu; simp only [Result.andThen_ok, Result.ok.injEq, Next.value.injEq] at hu; obtain ⟨rfl, rfl⟩ := hu; rfl
          | halt q w2 => rw [hq] at hu; cases hu
        refine ⟨v :: ps, u :: vs, by simpa using h1, .cons hru h2, ?_⟩
        simp only [List.map_cons, RV.var, List.mapM_cons, runRV, Sem.run_bind, hl, Result.andThen_ok, h3, Sem.run_pure]
theorem results_run {fn : Func} {tmps : Array Value} {l : List ResultVar} (h : fn.results = l.toArray) {vs : List Value} (hv : (l.mapM (runRV tmps)).run P w = .ok vs w) : (results fn tmps).run P w = .ok (mkV vs) w := by
  have hf : results fn tmps = (fn.results.mapM (runRV tmps) >>= fun us => pure (if h : us.size = 1 then us[0] else .tuple us)) := by
    unfold results
    congr 2
  rw [hf, h, Array.mapM_eq_mapM_toList, List.toList_toArray]
  simp only [Sem.run_bind, Sem.run_map, hv, Result.andThen_ok, Sem.run_pure]
  match vs with
  | [] => rfl
  | [v] => rfl
  | v :: u :: r => simp [mkV]
def Rt (P : Program) (B : Nat) (r : AV) (Q : AV → AH → Prop) (H : AH) : Prop := Gh P B [r] H (fun vs H2 => ∃ r', vs = [r'] ∧ Q r' H2)
def retK (P : Program) (B : Nat) (res : List RV) (Q : AV → AH → Prop) : Knt
  | .ret, env, H => retL P res env [] (fun l => Rt P B (mkR l) Q) H
  | .normal, env, H => retL P res env [] (fun l => Rt P B (mkR l) Q) H
  | _, _, _ => False
def FnA (P : Program) (n : Nat) (rs : List Reg) (c : AC) (res : List RV) (args : List AV) (H : AH) (Q : AV → AH → Prop) : Prop := wpA P n rs c (env0 args) (retK P H.nx res Q) H
/-- the contract of a function -/
theorem tri_of (hm : P.follows .mixedOrders = true) {f : FuncId} {fn : Func} {body : Code} {c : AC} {res : List RV} {args : List AV} {Q : AV → AH → Prop} (hf : P.funcs[f]? = some fn) (hb : fn.body = some body) (he : erase rs c = body) (hmk : marksOk P rs Ms c = true)
    (hres : fn.results.toList = res.map RV.var) (hn : args.length ≤ fn.ntmps) (h : FnA P fn.ntmps rs c res args H Q) : Tri P f args H Q := by
  intro w S σ us hs hr
  refine calls_of_wp hf hb ?_
  rw [← he]
  have hul : us.length = args.length := hr.1.symm
  have hrep : RepE fn.ntmps { tmps := us.toArray ++ Array.replicate (fn.ntmps - us.toArray.size) undef, defers := [] } w S σ (env0 args) := by
    refine ⟨by simp; omega, rfl, fun t => ?_⟩
    unfold env0
    by_cases ht : t < args.length
    · rw [List.getD_eq_getElem?_getD, List.getElem?_eq_getElem ht, Option.getD_some, Array.getD_eq_getD_getElem?, Array.getElem?_append_left (by simp; omega)]
      have htu : t < us.length := by omega
      rw [List.getElem?_toArray, List.getElem?_eq_getElem htu, Option.getD_some]
      exact hr.2 t _ _ (List.getElem?_eq_getElem ht) (List.getElem?_eq_getElem htu)
    · rw [List.getD_eq_getElem?_getD, List.getElem?_eq_none (by omega), Option.getD_none]
      exact .any _
  refine wp_mono (wpA_sound (Ms := Ms) hm c _ _ _ w S σ H hmk hrep hs h) ?_
  rintro e a' w' ⟨env', H', S', σ', q1, q2, q3, q4, q5, q6⟩
  have fin : ∀ (_ : retL P res env' [] (fun l => Rt P H.nx (mkR l) Q) H'), bodyPost P fn (fun e w' => ∃ v S' σ' r H', e = .returned v ∧ Q r H' ∧ Sat P w' S' σ' H' ∧ Rp w' S' σ' r v ∧ Ext w S σ H w' S' σ' H' ∧ H.nx ≤ H'.nx ∧ ∀ id, id < H.nx → σ' id = σ id) .ret a' w' := by
    intro hret
    obtain ⟨ps, vs, ⟨_, H2, hg, r, rfl, hq⟩, hps, hrun⟩ := retL_sound q2 q3 res [] _ hret
    have hrv := results_run (P := P) (w := w') (tmps := a'.tmps) (Array.toList_inj.1 (by rw [hres]) : fn.results = (res.map RV.var).toArray) hrun
    have hrp : Rps w' S' σ' [mkR ([] ++ ps)] [mkV vs] := .cons (by simpa using hps.mk) .nil
    obtain ⟨S2, σ2, g1, g2, g3, g4, g5, g6, g7⟩ := hg w' S' σ' _ q3 hrp
    refine ⟨q2.defers, _, hrv, _, S2, σ2, r, H2, rfl, hq, g1, g2.2 0 _ _ rfl rfl, ⟨q4.os, q4.tape, q4.output, q4.size, q4.keep, fun b hb => g3 b (q4.sup b hb), fun b hb => ?_, fun b hb => q4.foot b (g5 b hb), fun id u hu => ?_⟩, g7, fun id hid => ?_⟩
    · rcases g4 b hb with h | h
      · exact q4.sub b h
      · exact .inr (q4.foot b h)
    · rw [g6 id (hs.dom _ _ hu)]; exact q4.sig _ _ hu
    · rw [g6 id hid]; exact q6 id hid
  cases e <;> first | exact fin q1 | exact q1.elim
end
end Go.Proofs.Ytcmnjoepadjioaa

/- Abstract walks at this translation. -/
namespace Go.Proofs.Ytcmnjoepadjioaa
open Go.RowKit
theorem mixed : Try.prog.follows .mixedOrders = true := by kernel_rfl
end Go.Proofs.Ytcmnjoepadjioaa

/- Abstract walks of functions, written by a program (wip/aw/aw.py): each equation is checked by the kernel. -/
namespace Go.Proofs.Ytcmnjoepadjioaa
open Go.RowKit

/-! (*wordhoard/prove.arguer).put -/
def ac_arguer_put : AC := (.seq (.reg 0) (.seq (.reg 1) (.seq (.reg 2) (.cond (.tmp 20) (.seq (.reg 3) (.reg 4)) .skip))))
def S_arguer_put (a0 a1 a2 a3 : AV) (Q : AV → AH → Prop) (H : AH) : Prop := (
    Rg 1 fun b =>
    Al (b + 0) (.bx 24) [a2] fun v6 =>
    Vw fun V =>
    Pu Try.prog .nilck [a0] fun v12 =>
    Pu Try.prog (.addOff 1) [v12] fun v13 =>
    Rd Try.prog V (.ld 1 false) [v13] fun v14 =>
    Rd Try.prog V (.ld 3 true) [v6] fun v15 =>
    Rd Try.prog V (.look 24 (.p (.int .i64 0)) true) [v14, v15] fun v16 =>
    Pu Try.prog (.ext 0) [v16] fun _ =>
    Pu Try.prog (.ext 1) [v16] fun v18 =>
    Pu Try.prog (.un .not) [v18] fun v20 =>
    CdA v20
      (
      Rg 11 fun b_12 =>
      Vw fun V_13 =>
      Pu Try.prog .nilck [a0] fun v22 =>
      Pu Try.prog (.addOff 1) [v22] fun v23 =>
      Rd Try.prog V_13 (.ld 1 false) [v23] fun v24 =>
      Rd Try.prog V_13 (.ld 3 true) [v6] fun v25 =>
      Pu Try.prog .nilck [a0] fun v27 =>
      Pu Try.prog (.addOff 0) [v27] fun v28 =>
      Rd Try.prog V_13 (.ld 1 false) [v28] fun v29 =>
      Pu Try.prog .len [v29] fun v30 =>
      Wr Try.prog (b_12 + 10) (.mset 24) [v24, v25, v30] fun _ _ =>
      Rg 14 fun b_24 =>
      Vw fun V_25 =>
      Pu Try.prog .nilck [a0] fun v33 =>
      Pu Try.prog (.addOff 0) [v33] fun v34 =>
      Rd Try.prog V_25 (.ld 1 false) [v34] fun v35 =>
      Rd Try.prog V_25 (.ld 3 true) [v6] fun v37 =>
      Pu Try.prog (.bld [.p (.int .i64 0), .p (.bool false), .p (.int .i64 0), .p (.int .i64 0), .p (.slice none 0 0)] [(0, 1), (1, 3), (4, 1)]) [a1, v37, a3] fun v39 =>
      Al (b_24 + 9) (.bs 36 5 1 [.p (.int .i64 0), .p (.bool false), .p (.int .i64 0), .p (.int .i64 0), .p (.slice none 0 0)] [(0, 5)]) [v39] fun v40 =>
      Wr Try.prog (b_24 + 10) (.app 36 5 56) [v35, v40] fun v41 _ =>
      Pu Try.prog .nilck [a0] fun v42 =>
      Pu Try.prog (.addOff 0) [v42] fun v43 =>
      Wr Try.prog (b_24 + 13) (.st 1) [v43, v41] fun _ _ =>
      Rt Try.prog H.nx (.tup []) Q
      ) (
      Rt Try.prog H.nx (.tup []) Q
      )
    ) H
theorem eq_arguer_put (a0 a1 a2 a3 : AV) (Q : AV → AH → Prop) (H : AH) : FnA Try.prog 44 (regsF Try.f26) ac_arguer_put [] [a0, a1, a2, a3] H Q = S_arguer_put a0 a1 a2 a3 Q H := by kernel_rfl
theorem tri_arguer_put {a0 a1 a2 a3 : AV} {H : AH} {Q : AV → AH → Prop} (h : S_arguer_put a0 a1 a2 a3 Q H) : Tri Try.prog 26 [a0, a1, a2, a3] H Q :=
  tri_of (Ms := [#[], #[0, 1, 3, 7, 0, 31, 63, 127, 127, 255, 1023], #[], #[0, 1, 3, 7, 0, 0, 32, 96, 224, 480, 1023], #[0, 0, 2, 6, 14, 0, 0, 0, 224, 480, 1022, 2047, 4095, 8191]]) mixed Try.func26 rfl (by kernel_rfl) (by kernel_rfl) rfl (of_decide_eq_true rfl : 4 ≤ 44) ((eq_arguer_put a0 a1 a2 a3 Q H).symm ▸ h : FnA Try.prog 44 (regsF Try.f26) ac_arguer_put [] [a0, a1, a2, a3] H Q)

/-! (*wordhoard/prove.arguer).one -/
def ac_arguer_one : AC := (.seq (.reg 0) (.block 0 (.seq (.reg 1) (.cond (.tmp 55) (.seq (.reg 2) (.reg 3)) (.seq (.reg 4) (.seq (.seq (.reg 5) (.cond (.tmp 32) .ret .skip)) (.seq (.reg 6) (.block 1 (.loop [5] [(7, 8), (33, 55)] (.seq (.seq (.reg 7) (.cond (.tmp 34) .skip (.exit 1))) (.seq (.block 2 (.seq (.reg 8) (.block 3 (.loop [42] [(7, 8), (43, 55)] (.seq (.reg 9) (.seq (.cond (.tmp 43) .skip (.exit 3)) (.seq (.block 4 (.seq (.reg 10) (.reg 11))) (.reg 12)))))))) (.reg 13))))))))))))
def S_arguer_one (a0 a1 : AV) (Q : AV → AH → Prop) (H : AH) : Prop := (
    Rg 10 fun b =>
    Pu Try.prog .nilck [a0] fun v9 =>
    Pu Try.prog (.addOff 0) [v9] fun v10 =>
    RdS Try.prog (.ld 1 false) [v10] fun v11 =>
    Pu Try.prog (.idx 5) [v11, a1] fun v13 =>
    Pu Try.prog (.addOff 1) [v13] fun v14 =>
    RdS Try.prog (.ld 3 true) [v14] fun v15 =>
    Al (b + 8) (.nw 24 [.p (.bool false), .p (.int .i64 0), .p (.int .i64 0)]) [] fun v4 =>
    WrS Try.prog (b + 9) (.st 3) [v4, v15] fun _ =>
    Pu Try.prog (.addOff 0) [v4] fun v56 =>
    RdS Try.prog (.ld 1 false) [v56] fun v57 =>
    CdA v57
      (
      Rg 9 fun b_12 =>
      Pu Try.prog (.addOff 2) [v4] fun v59 =>
      RdS Try.prog (.ld 1 false) [v59] fun v60 =>
      Pu Try.prog (.addOff 1) [v4] fun v61 =>
      RdS Try.prog (.ld 1 false) [v61] fun v62 =>
      Pu Try.prog (.bld [.p (.bool false), .p (.int .i64 0), .p (.int .i64 0)] [(0, 1), (1, 1), (2, 1)]) [(.p (.bool true)), v60, v62] fun v63 =>
      Al (b_12 + 7) (.bs 3 1 1 [.p (.int .i64 0)] [(0, 1)]) [a1] fun v65 =>
      Ca Try.prog (.fn (.func 26) [] []) [a0, (.p (.int .i64 7)), v63, v65] fun _ =>
      Rg 9 fun b_20 =>
      Pu Try.prog (.addOff 1) [v4] fun v68 =>
      RdS Try.prog (.ld 1 false) [v68] fun v69 =>
      Pu Try.prog (.addOff 1) [v4] fun v70 =>
      RdS Try.prog (.ld 1 false) [v70] fun v71 =>
      Pu Try.prog (.bld [.p (.bool false), .p (.int .i64 0), .p (.int .i64 0)] [(0, 1), (1, 1), (2, 1)]) [(.p (.bool true)), v69, v71] fun v72 =>
      Al (b_20 + 7) (.bs 3 1 1 [.p (.int .i64 0)] [(0, 1)]) [a1] fun v74 =>
      Ca Try.prog (.fn (.func 26) [] []) [a0, (.p (.int .i64 8)), v72, v74] fun _ =>
      Rt Try.prog H.nx (.tup []) Q
      ) (
      Rg 11 fun b_28 =>
      Pu Try.prog (.addOff 2) [v4] fun v17 =>
      RdS Try.prog (.ld 1 false) [v17] fun v18 =>
      Pu Try.prog (.un .neg) [v18] fun v19 =>
      Pu Try.prog (.addOff 1) [v4] fun v20 =>
      RdS Try.prog (.ld 1 false) [v20] fun v21 =>
      Pu Try.prog (.un .neg) [v21] fun v22 =>
      Pu Try.prog (.bld [.p (.bool false), .p (.int .i64 0), .p (.int .i64 0)] [(1, 1), (2, 1)]) [v19, v22] fun v23 =>
      Al (b_28 + 9) (.bs 3 1 1 [.p (.int .i64 0)] [(0, 1)]) [a1] fun v25 =>
      Ca Try.prog (.fn (.func 26) [] []) [a0, (.p (.int .i64 4)), v23, v25] fun _ =>
      Pu Try.prog (.addOff 2) [v4] fun v27 =>
      RdS Try.prog (.ld 1 false) [v27] fun v28 =>
      Pu Try.prog (.addOff 1) [v4] fun v29 =>
      RdS Try.prog (.ld 1 false) [v29] fun v30 =>
      Pu Try.prog (.un .neg) [v30] fun v31 =>
      Pu Try.prog (.bin .neq 3) [v28, v31] fun v32 =>
      CdA v32
        (
        Rt Try.prog H.nx (.tup []) Q
        ) (
        LoopA Try.prog 1 (fun vs k =>
          Pu Try.prog (.bin .leq 3) [(vs.getD 0 .any), (.p (.int .i64 6))] fun v34 =>
          CdA v34
            (
            Rg 6 fun b_47 =>
            Pu Try.prog (.un .neg) [(vs.getD 0 .any)] fun v39 =>
            Al (b_47 + 3) (.bs 3 1 2 [.p (.int .i64 0)] [(0, 1), (1, 1)]) [(vs.getD 0 .any), v39] fun v40 =>
            Pu Try.prog .len [v40] fun v41 =>
            LoopA Try.prog 1 (fun vs_52 k_51 =>
              Pu Try.prog (.bin .lss 3) [(vs_52.getD 0 .any), v41] fun v43 =>
              CdA v43
                (
                Pu Try.prog (.idx 1) [v40, (vs_52.getD 0 .any)] fun v44 =>
                RdS Try.prog (.ld 1 false) [v44] fun v45 =>
                Rg 8 fun b_56 =>
                Pu Try.prog (.addOff 1) [v4] fun v47 =>
                RdS Try.prog (.ld 1 false) [v47] fun v48 =>
                Pu Try.prog (.bld [.p (.bool false), .p (.int .i64 0), .p (.int .i64 0)] [(1, 1), (2, 1)]) [v48, v45] fun v50 =>
                Al (b_56 + 6) (.bs 3 1 1 [.p (.int .i64 0)] [(0, 1)]) [a1] fun v52 =>
                Ca Try.prog (.fn (.func 26) [] []) [a0, (.p (.int .i64 5)), v50, v52] fun _ =>
                Pu Try.prog (.bin .add 3) [(vs_52.getD 0 .any), (.p (.int .i64 1))] fun v54 =>
                k_51 [v54]
                ) (
                Pu Try.prog (.bin .add 3) [(vs.getD 0 .any), (.p (.int .i64 1))] fun v36 =>
                k [v36]
                )
              ) [(.p (.int .i64 0))]
            ) (
            Rt Try.prog H.nx (.tup []) Q
            )
          ) [(.p (.int .i64 1))]
        )
      )
    ) H
theorem eq_arguer_one (a0 a1 : AV) (Q : AV → AH → Prop) (H : AH) : FnA Try.prog 76 (regsF Try.f27) ac_arguer_one [] [a0, a1] H Q = S_arguer_one a0 a1 Q H := by kernel_rfl
theorem tri_arguer_one {a0 a1 : AV} {H : AH} {Q : AV → AH → Prop} (h : S_arguer_one a0 a1 Q H) : Tri Try.prog 27 [a0, a1] H Q :=
  tri_of (Ms := [#[], #[], #[], #[], #[], #[], #[], #[], #[], #[], #[], #[], #[], #[]]) mixed Try.func27 rfl (by kernel_rfl) (by kernel_rfl) rfl (of_decide_eq_true rfl : 2 ≤ 76) ((eq_arguer_one a0 a1 Q H).symm ▸ h : FnA Try.prog 76 (regsF Try.f27) ac_arguer_one [] [a0, a1] H Q)

/-! (*wordhoard/prove.arguer).two -/
def ac_arguer_two : AC := (.seq (.reg 0) (.block 0 (.seq (.reg 1) (.cond (.tmp 24) .skip (.seq (.reg 2) (.cond (.tmp 27) (.reg 3) (.seq (.reg 4) (.cond (.tmp 48) (.reg 5) .skip))))))))
def S_arguer_two (a0 a1 a2 : AV) (Q : AV → AH → Prop) (H : AH) : Prop := (
    Rg 20 fun b =>
    Vw fun V =>
    Pu Try.prog .nilck [a0] fun v9 =>
    Pu Try.prog (.addOff 0) [v9] fun v10 =>
    Rd Try.prog V (.ld 1 false) [v10] fun v11 =>
    Pu Try.prog (.idx 5) [v11, a1] fun v13 =>
    Pu Try.prog (.addOff 1) [v13] fun v14 =>
    Rd Try.prog V (.ld 3 true) [v14] fun v15 =>
    Pu Try.prog .nilck [a0] fun v17 =>
    Pu Try.prog (.addOff 0) [v17] fun v18 =>
    Rd Try.prog V (.ld 1 false) [v18] fun v19 =>
    Pu Try.prog (.idx 5) [v19, a2] fun v21 =>
    Pu Try.prog (.addOff 1) [v21] fun v22 =>
    Rd Try.prog V (.ld 3 true) [v22] fun v23 =>
    Al (b + 16) (.nw 24 [.p (.bool false), .p (.int .i64 0), .p (.int .i64 0)]) [] fun v6 =>
    Al (b + 17) (.nw 24 [.p (.bool false), .p (.int .i64 0), .p (.int .i64 0)]) [] fun v7 =>
    WrF V (some (b + 16)) none (b + 18) (.st 3) [v6, v15] fun _ =>
    WrF V (some (b + 17)) none (b + 19) (.st 3) [v7, v23] fun _ =>
    Pu Try.prog (.addOff 0) [v7] fun v25 =>
    RdS Try.prog (.ld 1 false) [v25] fun v26 =>
    CdA v26
      (
      Rt Try.prog H.nx (.tup []) Q
      ) (
      Pu Try.prog (.addOff 0) [v6] fun v28 =>
      RdS Try.prog (.ld 1 false) [v28] fun v29 =>
      Pu Try.prog (.un .not) [v29] fun v30 =>
      Gd v30 true (fun k => Pu Try.prog (.addOff 2) [v6] k) fun v32 =>
      Gd v30 true (fun k_27 => RdS Try.prog (.ld 1 false) [v32] k_27) fun v33 =>
      Gd v30 true (fun k_29 => Pu Try.prog (.addOff 1) [v7] k_29) fun v34 =>
      Gd v30 true (fun k_31 => RdS Try.prog (.ld 1 false) [v34] k_31) fun v35 =>
      Gd v30 true (fun k_33 => Pu Try.prog (.bin .eql 3) [v33, v35] k_33) fun v36 =>
      Pu Try.prog .pick [v30, v36, (.p (.bool false))] fun v37 =>
      CdA v37
        (
        Rg 10 fun b_35 =>
        Pu Try.prog (.addOff 1) [v6] fun v39 =>
        RdS Try.prog (.ld 1 false) [v39] fun v40 =>
        Pu Try.prog (.addOff 2) [v7] fun v41 =>
        RdS Try.prog (.ld 1 false) [v41] fun v42 =>
        Pu Try.prog (.bld [.p (.bool false), .p (.int .i64 0), .p (.int .i64 0)] [(1, 1), (2, 1)]) [v40, v42] fun v43 =>
        Al (b_35 + 8) (.bs 3 1 2 [.p (.int .i64 0)] [(0, 1), (1, 1)]) [a1, a2] fun v46 =>
        Ca Try.prog (.fn (.func 26) [] []) [a0, (.p (.int .i64 3)), v43, v46] fun _ =>
        Rt Try.prog H.nx (.tup []) Q
        ) (
        Pu Try.prog (.addOff 0) [v6] fun v49 =>
        RdS Try.prog (.ld 1 false) [v49] fun v50 =>
        Gd v50 true (fun k_46 => Pu Try.prog (.addOff 2) [v6] k_46) fun v52 =>
        Gd v50 true (fun k_48 => RdS Try.prog (.ld 1 false) [v52] k_48) fun v53 =>
        Gd v50 true (fun k_50 => Pu Try.prog (.addOff 1) [v7] k_50) fun v54 =>
        Gd v50 true (fun k_52 => RdS Try.prog (.ld 1 false) [v54] k_52) fun v55 =>
        Gd v50 true (fun k_54 => Pu Try.prog (.bin .eql 3) [v53, v55] k_54) fun v56 =>
        Pu Try.prog .pick [v50, v56, (.p (.bool false))] fun v57 =>
        CdA v57
          (
          Rg 10 fun b_56 =>
          Pu Try.prog (.addOff 1) [v6] fun v59 =>
          RdS Try.prog (.ld 1 false) [v59] fun v60 =>
          Pu Try.prog (.addOff 2) [v7] fun v61 =>
          RdS Try.prog (.ld 1 false) [v61] fun v62 =>
          Pu Try.prog (.bld [.p (.bool false), .p (.int .i64 0), .p (.int .i64 0)] [(0, 1), (1, 1), (2, 1)]) [(.p (.bool true)), v60, v62] fun v63 =>
          Al (b_56 + 8) (.bs 3 1 2 [.p (.int .i64 0)] [(0, 1), (1, 1)]) [a1, a2] fun v66 =>
          Ca Try.prog (.fn (.func 26) [] []) [a0, (.p (.int .i64 9)), v63, v66] fun _ =>
          Rt Try.prog H.nx (.tup []) Q
          ) (
          Rt Try.prog H.nx (.tup []) Q
          )
        )
      )
    ) H
theorem eq_arguer_two (a0 a1 a2 : AV) (Q : AV → AH → Prop) (H : AH) : FnA Try.prog 68 (regsF Try.f28) ac_arguer_two [] [a0, a1, a2] H Q = S_arguer_two a0 a1 a2 Q H := by kernel_rfl
theorem tri_arguer_two {a0 a1 a2 : AV} {H : AH} {Q : AV → AH → Prop} (h : S_arguer_two a0 a1 a2 Q H) : Tri Try.prog 28 [a0, a1, a2] H Q :=
  tri_of (Ms := [#[0, 1, 3, 7, 0, 31, 63, 127, 0, 256, 768, 1792, 0, 7936, 16128, 32512, 0, 0, 196863, 524287], #[], #[], #[], #[], #[]]) mixed Try.func28 rfl (by kernel_rfl) (by kernel_rfl) rfl (of_decide_eq_true rfl : 3 ≤ 68) ((eq_arguer_two a0 a1 a2 Q H).symm ▸ h : FnA Try.prog 68 (regsF Try.f28) ac_arguer_two [] [a0, a1, a2] H Q)

/-! (*wordhoard/prove.arguer).needed -/
def ac_arguer_needed : AC := (.seq (.reg 0) (.seq (.reg 1) (.seq (.reg 2) (.seq (.seq (.reg 3) (.block 0 (.loop [6] [(8, 9), (24, 60)] (.seq (.seq (.reg 4) (.cond (.tmp 25) .skip (.exit 0))) (.seq (.block 1 (.seq (.reg 5) (.cond (.tmp 42) (.seq (.reg 6) (.block 2 (.loop [52] [(8, 9), (53, 60)] (.seq (.reg 7) (.seq (.cond (.tmp 53) .skip (.exit 2)) (.seq (.block 3 (.seq (.reg 8) (.reg 9))) (.reg 10))))))) .skip))) (.reg 11)))))) (.seq (.reg 12) (.seq (.reg 13) (.seq (.seq (.reg 14) (.block 4 (.loop [10, 68] [(11, 14), (69, 119)] (.seq (.reg 15) (.seq (.cond (.tmp 69) .skip (.exit 4)) (.seq (.block 5 (.seq (.reg 16) (.seq (.seq (.reg 17) (.cond (.tmp 75) (.exit 5) .skip)) (.seq (.reg 18) (.seq (.reg 19) (.seq (.reg 20) (.seq (.seq (.reg 21) (.cond (.tmp 94) (.seq (.reg 22) (.block 6 (.loop [98] [(13, 14), (99, 114)] (.seq (.reg 23) (.seq (.cond (.tmp 99) .skip (.exit 6)) (.seq (.block 7 (.seq (.reg 24) (.reg 25))) (.reg 26))))))) .skip)) (.gh (.reg 27))))))))) (.reg 28))))))) (.seq (.reg 29) .ret))))))))
def S_arguer_needed (a0 a1 : AV) (Q : AV → AH → Prop) (H : AH) : Prop := (
    Rg 7 fun b =>
    Pu Try.prog .nilck [a0] fun v15 =>
    Pu Try.prog (.addOff 0) [v15] fun v16 =>
    RdS Try.prog (.ld 1 false) [v16] fun v17 =>
    Pu Try.prog .len [v17] fun v18 =>
    Al (b + 5) (.ms 4 1 1 [.p (.bool false)]) [v18, v18] fun v19 =>
    Rg 4 fun b_7 =>
    Pu Try.prog (.idx 1) [v19, a1] fun v22 =>
    WrS Try.prog (b_7 + 3) (.st 1) [v22, (.p (.bool true))] fun _ =>
    LoopA Try.prog 1 (fun vs k =>
      Pu Try.prog (.bin .geq 3) [(vs.getD 0 .any), (.p (.int .i64 0))] fun v25 =>
      CdA v25
        (
        Pu Try.prog (.idx 1) [v19, (vs.getD 0 .any)] fun v30 =>
        RdS Try.prog (.ld 1 false) [v30] fun v31 =>
        Gd v31 true (fun k_16 => k_16 a0) fun v33 =>
        Gd v31 true (fun k_18 => Pu Try.prog .nilck [v33] k_18) fun v34 =>
        Gd v31 true (fun k_20 => Pu Try.prog (.addOff 0) [v34] k_20) fun v35 =>
        Gd v31 true (fun k_22 => RdS Try.prog (.ld 1 false) [v35] k_22) fun v36 =>
        Gd v31 true (fun k_24 => k_24 (vs.getD 0 .any)) fun v37 =>
        Gd v31 true (fun k_26 => Pu Try.prog (.idx 5) [v36, v37] k_26) fun v38 =>
        Gd v31 true (fun k_28 => Pu Try.prog (.addOff 0) [v38] k_28) fun v39 =>
        Gd v31 true (fun k_30 => RdS Try.prog (.ld 1 false) [v39] k_30) fun v40 =>
        Gd v31 true (fun k_32 => Pu Try.prog (.bin .neq 3) [v40, (.p (.int .i64 1))] k_32) fun v41 =>
        Pu Try.prog .pick [v31, v41, (.p (.bool false))] fun v42 =>
        CdA v42
          (
          Pu Try.prog .nilck [a0] fun v44 =>
          Pu Try.prog (.addOff 0) [v44] fun v45 =>
          RdS Try.prog (.ld 1 false) [v45] fun v46 =>
          Pu Try.prog (.idx 5) [v46, (vs.getD 0 .any)] fun v48 =>
          Pu Try.prog (.addOff 4) [v48] fun v49 =>
          RdS Try.prog (.ld 1 false) [v49] fun v50 =>
          Pu Try.prog .len [v50] fun v51 =>
          LoopA Try.prog 1 (fun vs_42 k_41 =>
            Pu Try.prog (.bin .lss 3) [(vs_42.getD 0 .any), v51] fun v53 =>
            CdA v53
              (
              Pu Try.prog (.idx 1) [v50, (vs_42.getD 0 .any)] fun v54 =>
              RdS Try.prog (.ld 1 false) [v54] fun v55 =>
              Rg 4 fun b_46 =>
              Pu Try.prog (.idx 1) [v19, v55] fun v58 =>
              WrS Try.prog (b_46 + 3) (.st 1) [v58, (.p (.bool true))] fun _ =>
              Pu Try.prog (.bin .add 3) [(vs_42.getD 0 .any), (.p (.int .i64 1))] fun v59 =>
              k_41 [v59]
              ) (
              Pu Try.prog (.bin .sub 3) [(vs.getD 0 .any), (.p (.int .i64 1))] fun v27 =>
              k [v27]
              )
            ) [(.p (.int .i64 0))]
          ) (
          Pu Try.prog (.bin .sub 3) [(vs.getD 0 .any), (.p (.int .i64 1))] fun v27_51 =>
          k [v27_51]
          )
        ) (
        Rg 7 fun b_52 =>
        Pu Try.prog .nilck [a0] fun v61 =>
        Pu Try.prog (.addOff 0) [v61] fun v62 =>
        RdS Try.prog (.ld 1 false) [v62] fun v63 =>
        Pu Try.prog .len [v63] fun v64 =>
        Al (b_52 + 5) (.ms 3 1 8 [.p (.int .i64 0)]) [v64, v64] fun v65 =>
        Pu Try.prog (.bin .add 3) [a1, (.p (.int .i64 1))] fun v67 =>
        LoopA Try.prog 2 (fun vs_60 k_59 =>
          Pu Try.prog (.bin .lss 3) [(vs_60.getD 1 .any), v67] fun v69 =>
          CdA v69
            (
            Pu Try.prog (.idx 1) [v19, (vs_60.getD 1 .any)] fun v73 =>
            RdS Try.prog (.ld 1 false) [v73] fun v74 =>
            Pu Try.prog (.un .not) [v74] fun v75 =>
            CdA v75
              (
              Pu Try.prog (.bin .add 3) [(vs_60.getD 1 .any), (.p (.int .i64 1))] fun v118 =>
              k_59 [(vs_60.getD 0 .any), v118]
              ) (
              Rg 6 fun b_66 =>
              Pu Try.prog .len [(vs_60.getD 0 .any)] fun v79 =>
              Pu Try.prog (.idx 1) [v65, (vs_60.getD 1 .any)] fun v80 =>
              WrS Try.prog (b_66 + 5) (.st 1) [v80, v79] fun _ =>
              Rg 9 fun b_70 =>
              Pu Try.prog .nilck [a0] fun v82 =>
              Pu Try.prog (.addOff 0) [v82] fun v83 =>
              RdS Try.prog (.ld 1 false) [v83] fun v84 =>
              Pu Try.prog (.idx 5) [v84, (vs_60.getD 1 .any)] fun v86 =>
              RdS Try.prog (.ld 5 true) [v86] fun v87 =>
              Al (b_70 + 7) (.nw 36 [.p (.int .i64 0), .p (.bool false), .p (.int .i64 0), .p (.int .i64 0), .p (.slice none 0 0)]) [] fun v12 =>
              WrS Try.prog (b_70 + 8) (.st 5) [v12, v87] fun _ =>
              Rg 5 fun b_78 =>
              Pu Try.prog (.addOff 4) [v12] fun v88 =>
              RdS Try.prog (.ld 1 false) [v88] fun v89 =>
              Ca Try.prog (.fn (.func 43) [] []) [v89] fun v90 =>
              Pu Try.prog (.addOff 4) [v12] fun v91 =>
              WrS Try.prog (b_78 + 4) (.st 1) [v91, v90] fun _ =>
              Pu Try.prog (.addOff 0) [v12] fun v92 =>
              RdS Try.prog (.ld 1 false) [v92] fun v93 =>
              Pu Try.prog (.bin .neq 3) [v93, (.p (.int .i64 1))] fun v94 =>
              CdA v94
                (
                Pu Try.prog (.addOff 4) [v12] fun v95 =>
                RdS Try.prog (.ld 1 false) [v95] fun v96 =>
                Pu Try.prog .len [v96] fun v97 =>
                LoopA Try.prog 1 (fun vs_91 k_90 =>
                  Pu Try.prog (.bin .lss 3) [(vs_91.getD 0 .any), v97] fun v99 =>
                  CdA v99
                    (
                    Rg 13 fun b_93 =>
                    Vw fun V =>
                    Pu Try.prog (.addOff 4) [v12] fun v101 =>
                    Rd Try.prog V (.ld 1 false) [v101] fun v102 =>
                    Pu Try.prog (.addOff 4) [v12] fun v105 =>
                    Rd Try.prog V (.ld 1 false) [v105] fun v106 =>
                    Pu Try.prog (.idx 1) [v106, (vs_91.getD 0 .any)] fun v108 =>
                    Rd Try.prog V (.ld 1 false) [v108] fun v109 =>
                    Pu Try.prog (.idx 1) [v65, v109] fun v110 =>
                    Rd Try.prog V (.ld 1 false) [v110] fun v111 =>
                    Pu Try.prog (.idx 1) [v102, (vs_91.getD 0 .any)] fun v112 =>
                    Wr Try.prog (b_93 + 12) (.st 1) [v112, v111] fun _ _ =>
                    Pu Try.prog (.bin .add 3) [(vs_91.getD 0 .any), (.p (.int .i64 1))] fun v113 =>
                    k_90 [v113]
                    ) (
                    Gq Try.prog <|
                    Rg 5 fun b_107 =>
                    RdS Try.prog (.ld 5 true) [v12] fun v115 =>
                    Al (b_107 + 2) (.bs 36 5 1 [.p (.int .i64 0), .p (.bool false), .p (.int .i64 0), .p (.int .i64 0), .p (.slice none 0 0)] [(0, 5)]) [v115] fun v116 =>
                    WrS Try.prog (b_107 + 3) (.app 36 5 56) [(vs_60.getD 0 .any), v116] fun v117 =>
                    Pu Try.prog (.bin .add 3) [(vs_60.getD 1 .any), (.p (.int .i64 1))] fun v118_111 =>
                    k_59 [v117, v118_111]
                    )
                  ) [(.p (.int .i64 0))]
                ) (
                Gq Try.prog <|
                Rg 5 fun b_112 =>
                RdS Try.prog (.ld 5 true) [v12] fun v115_113 =>
                Al (b_112 + 2) (.bs 36 5 1 [.p (.int .i64 0), .p (.bool false), .p (.int .i64 0), .p (.int .i64 0), .p (.slice none 0 0)] [(0, 5)]) [v115_113] fun v116_114 =>
                WrS Try.prog (b_112 + 3) (.app 36 5 56) [(vs_60.getD 0 .any), v116_114] fun v117_115 =>
                Pu Try.prog (.bin .add 3) [(vs_60.getD 1 .any), (.p (.int .i64 1))] fun v118_116 =>
                k_59 [v117_115, v118_116]
                )
              )
            ) (
            Rt Try.prog H.nx (vs_60.getD 0 .any) Q
            )
          ) [(.p (.slice none 0 0)), (.p (.int .i64 0))]
        )
      ) [a1]
    ) H
theorem eq_arguer_needed (a0 a1 : AV) (Q : AV → AH → Prop) (H : AH) : FnA Try.prog 120 (regsF Try.f29) ac_arguer_needed [.tm 4] [a0, a1] H Q = S_arguer_needed a0 a1 Q H := by kernel_rfl
theorem tri_arguer_needed {a0 a1 : AV} {H : AH} {Q : AV → AH → Prop} (h : S_arguer_needed a0 a1 Q H) : Tri Try.prog 29 [a0, a1] H Q :=
  tri_of (Ms := [#[], #[], #[], #[], #[], #[], #[], #[], #[], #[], #[], #[], #[], #[], #[], #[], #[], #[], #[], #[], #[], #[], #[], #[], #[], #[0, 1, 0, 0, 0, 16, 0, 112, 240, 504, 1016, 2047, 4095], #[], #[], #[], #[]]) mixed Try.func29 rfl (by kernel_rfl) (by kernel_rfl) rfl (of_decide_eq_true rfl : 2 ≤ 120) ((eq_arguer_needed a0 a1 Q H).symm ▸ h : FnA Try.prog 120 (regsF Try.f29) ac_arguer_needed [.tm 4] [a0, a1] H Q)

/-! (*wordhoard/prove.arguer).clash -/
def ac_arguer_clash : AC := (.seq (.reg 0) (.seq (.seq (.reg 1) (.block 0 (.loop [15] [(2, 10), (16, 45)] (.seq (.reg 2) (.seq (.cond (.tmp 16) .skip (.exit 0)) (.seq (.block 1 (.seq (.reg 3) (.seq (.reg 4) (.seq (.reg 5) (.seq (.reg 6) (.cond (.tmp 41) (.seq (.reg 7) .ret) .skip)))))) (.reg 8))))))) (.seq (.reg 9) .ret)))
def S_arguer_clash (a0 : AV) (Q : AV → AH → Prop) (H : AH) : Prop := (
    Pu Try.prog .nilck [a0] fun v11 =>
    Pu Try.prog (.addOff 0) [v11] fun v12 =>
    RdS Try.prog (.ld 1 false) [v12] fun v13 =>
    Pu Try.prog .len [v13] fun v14 =>
    LoopA Try.prog 1 (fun vs k =>
      Pu Try.prog (.bin .lss 3) [(vs.getD 0 .any), v14] fun v16 =>
      CdA v16
        (
        Rg 6 fun b =>
        Pu Try.prog (.idx 5) [v13, (vs.getD 0 .any)] fun v18 =>
        RdS Try.prog (.ld 5 true) [v18] fun v19 =>
        Al (b + 3) (.nw 36 [.p (.int .i64 0), .p (.bool false), .p (.int .i64 0), .p (.int .i64 0), .p (.slice none 0 0)]) [] fun v6 =>
        WrS Try.prog (b + 5) (.st 5) [v6, v19] fun _ =>
        Rg 4 fun b_13 =>
        Pu Try.prog (.addOff 1) [v6] fun v20 =>
        RdS Try.prog (.ld 3 true) [v20] fun v21 =>
        Al (b_13 + 2) (.nw 24 [.p (.bool false), .p (.int .i64 0), .p (.int .i64 0)]) [] fun v7 =>
        WrS Try.prog (b_13 + 3) (.st 3) [v7, v21] fun _ =>
        Vw fun V =>
        Pu Try.prog .nilck [a0] fun v24 =>
        Pu Try.prog (.addOff 1) [v24] fun v25 =>
        Rd Try.prog V (.ld 1 false) [v25] fun v26 =>
        Pu Try.prog (.addOff 1) [v7] fun v27 =>
        Rd Try.prog V (.ld 1 false) [v27] fun v28 =>
        Pu Try.prog (.addOff 2) [v7] fun v29 =>
        Rd Try.prog V (.ld 1 false) [v29] fun v30 =>
        Pu Try.prog (.un .neg) [v30] fun v31 =>
        Pu Try.prog (.bld [.p (.bool false), .p (.int .i64 0), .p (.int .i64 0)] [(0, 1), (1, 1), (2, 1)]) [(.p (.bool true)), v28, v31] fun v32 =>
        Rd Try.prog V (.look 24 (.p (.int .i64 0)) true) [v26, v32] fun v33 =>
        Pu Try.prog (.ext 0) [v33] fun v34 =>
        Pu Try.prog (.ext 1) [v33] fun v35 =>
        Pu Try.prog (.addOff 0) [v7] fun v36 =>
        RdS Try.prog (.ld 1 false) [v36] fun v37 =>
        Pu Try.prog (.un .not) [v37] fun v38 =>
        Gd v38 true (fun k_35 => k_35 v35) fun v40 =>
        Pu Try.prog .pick [v38, v40, (.p (.bool false))] fun v41 =>
        CdA v41
          (
          Rt Try.prog H.nx (.tup [(vs.getD 0 .any), v34, (.p (.bool true))]) Q
          ) (
          Pu Try.prog (.bin .add 3) [(vs.getD 0 .any), (.p (.int .i64 1))] fun v44 =>
          k [v44]
          )
        ) (
        Rt Try.prog H.nx (.tup [(.p (.int .i64 0)), (.p (.int .i64 0)), (.p (.bool false))]) Q
        )
      ) [(.p (.int .i64 0))]
    ) H
theorem eq_arguer_clash (a0 : AV) (Q : AV → AH → Prop) (H : AH) : FnA Try.prog 45 (regsF Try.f30) ac_arguer_clash [.tm 2, .tm 3, .tm 4] [a0] H Q = S_arguer_clash a0 Q H := by kernel_rfl
theorem tri_arguer_clash {a0 : AV} {H : AH} {Q : AV → AH → Prop} (h : S_arguer_clash a0 Q H) : Tri Try.prog 30 [a0] H Q :=
  tri_of (Ms := [#[], #[], #[], #[], #[], #[0, 1, 3, 7, 0, 16, 0, 64, 192, 496, 1023, 2047, 4095, 4095, 8191, 32767], #[], #[], #[], #[]]) mixed Try.func30 rfl (by kernel_rfl) (by kernel_rfl) rfl (of_decide_eq_true rfl : 1 ≤ 45) ((eq_arguer_clash a0 Q H).symm ▸ h : FnA Try.prog 45 (regsF Try.f30) ac_arguer_clash [.tm 2, .tm 3, .tm 4] [a0] H Q)

/-! wordhoard/prove.Argue -/
def ac_prove_Argue : AC := (.seq (.reg 0) (.seq (.seq (.reg 1) (.seq (.reg 2) (.cond (.tmp 24) (.seq (.reg 3) .ret) .skip))) (.seq (.reg 4) (.seq (.seq (.reg 5) (.block 0 (.loop [31] [(9, 11), (32, 42)] (.seq (.reg 6) (.seq (.cond (.tmp 32) .skip (.exit 0)) (.seq (.block 1 (.seq (.reg 7) (.reg 8))) (.reg 9))))))) (.seq (.seq (.reg 10) (.block 2 (.loop [11] [(42, 58)] (.seq (.seq (.reg 11) (.cond (.tmp 43) .skip (.exit 2))) (.seq (.block 3 (.seq (.reg 12) (.reg 13))) (.reg 14)))))) (.seq (.seq (.reg 15) (.block 4 (.loop [12] [(13, 14), (58, 84)] (.seq (.seq (.reg 16) (.cond (.tmp 64) .skip (.exit 4))) (.seq (.block 5 (.seq (.reg 17) (.seq (.reg 18) (.block 6 (.loop [72] [(13, 14), (73, 84)] (.seq (.reg 19) (.seq (.cond (.tmp 73) .skip (.exit 6)) (.seq (.block 7 (.seq (.reg 20) (.seq (.reg 21) (.reg 22)))) (.reg 23))))))))) (.reg 24)))))) (.seq (.seq (.reg 25) (.seq (.reg 26) (.cond (.tmp 93) (.seq (.reg 27) .ret) .skip))) (.seq (.seq (.reg 28) (.seq (.reg 29) (.cond (.tmp 103) (.seq (.reg 30) (.seq (.reg 31) .ret)) .skip))) (.seq (.reg 32) .ret)))))))))
def S_prove_Argue (a0 a1 : AV) (Q : AV → AH → Prop) (H : AH) : Prop := (
    Rg 4 fun b =>
    Al (b + 0) (.bx 24) [a1] fun v3 =>
    Rg 5 fun b_3 =>
    RdS Try.prog (.ld 3 true) [v3] fun v20 =>
    Al (b_3 + 2) (.bs 24 3 1 [.p (.bool false), .p (.int .i64 0), .p (.int .i64 0)] [(0, 3)]) [v20] fun v21 =>
    Ca Try.prog (.fn (.func 24) [] []) [a0, v21] fun v22 =>
    Pu Try.prog (.bin .neq 25) [v22, (.p (.int .i64 0))] fun v24 =>
    CdA v24
      (
      Rt Try.prog H.nx (.tup [(.p (.slice none 0 0)), (.p (.bool false)), v22]) Q
      ) (
      Rg 4 fun b_8 =>
      Al (b_8 + 0) (.mm 24) [] fun v26 =>
      Pu Try.prog (.bld [.p (.slice none 0 0), .p (.map none)] [(1, 1)]) [v26] fun v27 =>
      Al (b_8 + 2) (.bx 52) [v27] fun v28 =>
      Pu Try.prog .len [a0] fun v30 =>
      LoopA Try.prog 1 (fun vs k =>
        Pu Try.prog (.bin .lss 3) [(vs.getD 0 .any), v30] fun v32 =>
        CdA v32
          (
          Rg 6 fun b_16 =>
          Pu Try.prog (.idx 3) [a0, (vs.getD 0 .any)] fun v34 =>
          RdS Try.prog (.ld 3 true) [v34] fun v35 =>
          Al (b_16 + 3) (.nw 24 [.p (.bool false), .p (.int .i64 0), .p (.int .i64 0)]) [] fun v10 =>
          WrS Try.prog (b_16 + 5) (.st 3) [v10, v35] fun _ =>
          Rg 5 fun b_21 =>
          RdS Try.prog (.ld 3 true) [v10] fun v37 =>
          Al (b_21 + 3) (.bs 3 1 1 [.p (.int .i64 0)] [(0, 1)]) [(vs.getD 0 .any)] fun v39 =>
          Ca Try.prog (.fn (.func 26) [] []) [v28, (.p (.int .i64 1)), v37, v39] fun _ =>
          Pu Try.prog (.bin .add 3) [(vs.getD 0 .any), (.p (.int .i64 1))] fun v41 =>
          k [v41]
          ) (
          LoopA Try.prog 1 (fun vs_27 k_26 =>
            Pu Try.prog (.bin .leq 3) [(vs_27.getD 0 .any), (.p (.int .i64 6))] fun v43 =>
            CdA v43
              (
              Pu Try.prog (.bld [.p (.bool false), .p (.int .i64 0), .p (.int .i64 0)] [(1, 1), (2, 1)]) [(vs_27.getD 0 .any), (vs_27.getD 0 .any)] fun v49 =>
              Ca Try.prog (.fn (.func 26) [] []) [v28, (.p (.int .i64 2)), v49, (.p (.slice none 0 0))] fun _ =>
              Pu Try.prog (.un .neg) [(vs_27.getD 0 .any)] fun v53 =>
              Pu Try.prog (.un .neg) [(vs_27.getD 0 .any)] fun v55 =>
              Pu Try.prog (.bld [.p (.bool false), .p (.int .i64 0), .p (.int .i64 0)] [(1, 1), (2, 1)]) [v53, v55] fun v56 =>
              Ca Try.prog (.fn (.func 26) [] []) [v28, (.p (.int .i64 2)), v56, (.p (.slice none 0 0))] fun _ =>
              Pu Try.prog (.bin .add 3) [(vs_27.getD 0 .any), (.p (.int .i64 1))] fun v45 =>
              k_26 [v45]
              ) (
              LoopA Try.prog 1 (fun vs_37 k_36 =>
                Pu Try.prog .nilck [v28] fun v60 =>
                Pu Try.prog (.addOff 0) [v60] fun v61 =>
                RdS Try.prog (.ld 1 false) [v61] fun v62 =>
                Pu Try.prog .len [v62] fun v63 =>
                Pu Try.prog (.bin .lss 3) [(vs_37.getD 0 .any), v63] fun v64 =>
                CdA v64
                  (
                  Ca Try.prog (.fn (.func 27) [] []) [v28, (vs_37.getD 0 .any)] fun _ =>
                  Pu Try.prog (.bin .add 3) [(vs_37.getD 0 .any), (.p (.int .i64 1))] fun v71 =>
                  LoopA Try.prog 1 (fun vs_46 k_45 =>
                    Pu Try.prog (.bin .lss 3) [(vs_46.getD 0 .any), v71] fun v73 =>
                    CdA v73
                      (
                      Ca Try.prog (.fn (.func 28) [] []) [v28, (vs_37.getD 0 .any), (vs_46.getD 0 .any)] fun _ =>
                      Ca Try.prog (.fn (.func 28) [] []) [v28, (vs_46.getD 0 .any), (vs_37.getD 0 .any)] fun _ =>
                      Pu Try.prog (.bin .add 3) [(vs_46.getD 0 .any), (.p (.int .i64 1))] fun v83 =>
                      k_45 [v83]
                      ) (
                      Pu Try.prog (.bin .add 3) [(vs_37.getD 0 .any), (.p (.int .i64 1))] fun v66 =>
                      k_36 [v66]
                      )
                    ) [(.p (.int .i64 0))]
                  ) (
                  Vw fun V =>
                  Pu Try.prog .nilck [v28] fun v86 =>
                  Pu Try.prog (.addOff 1) [v86] fun v87 =>
                  Rd Try.prog V (.ld 1 false) [v87] fun v88 =>
                  Rd Try.prog V (.ld 3 true) [v3] fun v89 =>
                  Rd Try.prog V (.look 24 (.p (.int .i64 0)) true) [v88, v89] fun v90 =>
                  Pu Try.prog (.ext 0) [v90] fun v91 =>
                  Pu Try.prog (.ext 1) [v90] fun v92 =>
                  CdA v92
                    (
                    Ca Try.prog (.fn (.func 29) [] []) [v28, v91] fun v96 =>
                    Rt Try.prog H.nx (.tup [v96, (.p (.bool true)), (.p (.int .i64 0))]) Q
                    ) (
                    Ca Try.prog (.fn (.func 30) [] []) [v28] fun v99 =>
                    Pu Try.prog (.ext 0) [v99] fun v100 =>
                    Pu Try.prog (.ext 1) [v99] fun v101 =>
                    Pu Try.prog (.ext 2) [v99] fun v102 =>
                    CdA v102
                      (
                      Rg 6 fun b_65 =>
                      RdS Try.prog (.ld 3 true) [v3] fun v105 =>
                      Al (b_65 + 4) (.bs 3 1 2 [.p (.int .i64 0)] [(0, 1), (1, 1)]) [v100, v101] fun v108 =>
                      Ca Try.prog (.fn (.func 26) [] []) [v28, (.p (.int .i64 10)), v105, v108] fun _ =>
                      Vw fun V_69 =>
                      Pu Try.prog .nilck [v28] fun v112 =>
                      Pu Try.prog (.addOff 1) [v112] fun v113 =>
                      Rd Try.prog V_69 (.ld 1 false) [v113] fun v114 =>
                      Rd Try.prog V_69 (.ld 3 true) [v3] fun v115 =>
                      Rd Try.prog V_69 (.look 24 (.p (.int .i64 0)) false) [v114, v115] fun v116 =>
                      CaV Try.prog V_69 (.fn (.func 29) [] []) [v28, v116] fun v117 =>
                      Rt Try.prog H.nx (.tup [v117, (.p (.bool true)), (.p (.int .i64 0))]) Q
                      ) (
                      Rt Try.prog H.nx (.tup [(.p (.slice none 0 0)), (.p (.bool false)), (.p (.int .i64 0))]) Q
                      )
                    )
                  )
                ) [(.p (.int .i64 0))]
              )
            ) [(.p (.int .i64 1))]
          )
        ) [(.p (.int .i64 0))]
      )
    ) H
theorem eq_prove_Argue (a0 a1 : AV) (Q : AV → AH → Prop) (H : AH) : FnA Try.prog 118 (regsF Try.f16) ac_prove_Argue [.tm 4, .tm 5, .tm 6] [a0, a1] H Q = S_prove_Argue a0 a1 Q H := by kernel_rfl
theorem tri_prove_Argue {a0 a1 : AV} {H : AH} {Q : AV → AH → Prop} (h : S_prove_Argue a0 a1 Q H) : Tri Try.prog 16 [a0, a1] H Q :=
  tri_of (Ms := [#[], #[], #[], #[], #[], #[], #[], #[], #[], #[], #[], #[], #[], #[], #[], #[], #[], #[], #[], #[], #[], #[], #[], #[], #[], #[0, 1, 3, 7, 0, 31, 63, 127, 127, 255, 1023], #[], #[], #[], #[], #[], #[0, 0, 2, 6, 14, 0, 62, 127, 255, 511, 1023], #[]]) mixed Try.func16 rfl (by kernel_rfl) (by kernel_rfl) rfl (of_decide_eq_true rfl : 2 ≤ 118) ((eq_prove_Argue a0 a1 Q H).symm ▸ h : FnA Try.prog 118 (regsF Try.f16) ac_prove_Argue [.tm 4, .tm 5, .tm 6] [a0, a1] H Q)
end Go.Proofs.Ytcmnjoepadjioaa
