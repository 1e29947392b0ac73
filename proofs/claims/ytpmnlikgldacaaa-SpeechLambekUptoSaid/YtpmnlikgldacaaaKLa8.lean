/- Texts that the proof rests on, part 8: what each holds stands at its head. -/
import Derived.Test.YtpmnlikgldacaaaKLa7

/- Whole bodies on abstract memory: what is told holds of the model; the contract of a function. Nothing of the program is named here. -/
namespace Go.Proofs.Ytpmnlikgldacaaa
open Go.RowKit Go.Maps

section
variable {P : Program} {w : World} {S : Nat → Prop} {σ : Nat → Option Value} {H V : AH} {n b : Nat} {ops : Array Oper} {rs : List Reg} {Ms : List (Array Nat)}
/-- what is named lies below -/
def Scp (B : Nat) (a : AV) : Prop := ∃ w S σ v, Rp w S σ a v ∧ ∀ id u, σ id = some u → id < B
theorem Scp.comps {B : Nat} {cs : List AV} {w : World} {S : Nat → Prop} {σ : Nat → Option Value} {vs : List Value} (h : Rps w S σ cs vs) (hb : ∀ id u, σ id = some u → id < B) : ∀ a ∈ cs, Scp B a := by
  intro a ha
  obtain ⟨i, hi⟩ := List.getElem?_of_mem ha
  obtain ⟨v, _, hr⟩ := h.at_ hi
  exact ⟨w, S, σ, v, hr, hb⟩
theorem Rp.re {S2 : Nat → Prop} {σ2 : Nat → Option Value} {B : Nat} {a : AV} {v : Value} (h : Rp w S σ a v) (hS : ∀ b, S b → S2 b) (hσ : ∀ id, id < B → σ2 id = σ id) : Scp B a → Rp w S2 σ2 a v := by
  induction h with
  | any v => exact fun _ => .any v
  | data a v h => exact fun _ => .data _ _ (h.mono hS (fun _ _ => rfl))
  | agg cs vs hl _ h1 ih =>
    rintro ⟨w0, S0, σ0, v0, hr, hb⟩
    obtain ⟨us, _, q, _⟩ := hr.agg_inv
    exact .agg cs vs hl (fun i a v ha hv => ih i a v ha hv (Scp.comps q hb a (List.mem_of_getElem? ha))) h1
  | tup cs vs hl _ ih =>
    rintro ⟨w0, S0, σ0, v0, hr, hb⟩
    obtain ⟨us, _, q⟩ := hr.tup_inv
    exact .tup cs vs hl (fun i a v ha hv => ih i a v ha hv (Scp.comps q hb a (List.mem_of_getElem? ha)))
  | dptr sz xs i j g o c h hi => exact fun _ => .dptr sz xs i j g o c (h.mono hS (fun _ _ => rfl)) hi
  | ptr id off g h =>
    rintro ⟨w0, S0, σ0, v0, hr, hb⟩
    obtain ⟨_, _, q⟩ := hr.ptr_inv
    exact .ptr id off g ((hσ id (hb _ _ q)).trans h)
  | eptr id sz i j g o n c h =>
    rintro ⟨w0, S0, σ0, v0, hr, hb⟩
    obtain ⟨_, _, _, _, _, q⟩ := hr.eptr_inv
    exact .eptr id sz i j g o n c ((hσ id (hb _ _ q)).trans h)
  | osl id sz off n A B' N c cc h h1 h2 h3 =>
    rintro ⟨w0, S0, σ0, v0, hr, hb⟩
    obtain ⟨_, _, _, _, _, _, q, _⟩ := hr.osl_inv
    exact .osl id sz off n A B' N c cc ((hσ id (hb _ _ q)).trans h) h1 h2 h3
  | mp id g h =>
    rintro ⟨w0, S0, σ0, v0, hr, hb⟩
    obtain ⟨_, _, q⟩ := hr.mp_inv
    exact .mp id g ((hσ id (hb _ _ q)).trans h)
  | fn f first captured fs cs h1 h2 _ _ ih1 ih2 =>
    rintro ⟨w0, S0, σ0, v0, hr, hb⟩
    obtain ⟨_, _, _, q1, q2⟩ := hr.fn_inv
    exact .fn f first captured fs cs h1 h2 (fun i a v ha hv => ih1 i a v ha hv (Scp.comps q1 hb a (List.mem_of_getElem? ha))) (fun i a v ha hv => ih2 i a v ha hv (Scp.comps q2 hb a (List.mem_of_getElem? ha)))
/-- how things stand, told -/
def St (P : Program) (n : Nat) (w0 : World) (S0 : Nat → Prop) (σ0 : Nat → Option Value) (H0 : AH) (K : Env → AH → Prop) (a' : Act) (w' : World) : Prop :=
  ∃ env' H' S' σ', K env' H' ∧ RepE n a' w' S' σ' env' ∧ Sat P w' S' σ' H' ∧ Ext w0 S0 σ0 H0 w' S' σ' H' ∧ H0.nx ≤ H'.nx ∧ ∀ j, j < H0.nx → σ' j = σ0 j
theorem Sat.up (hs : Sat P w S σ H) (m : Nat) : Sat P w S σ (H.up m) := hs.congr (fun _ => rfl) (Nat.le_add_right _ _)
theorem Ext.ofUp {w' : World} {S' : Nat → Prop} {σ' : Nat → Option Value} {H' : AH} {m : Nat} (h : Ext w S σ (H.up m) w' S' σ' H') : Ext w S σ H w' S' σ' H' := ⟨h.os, h.tape, h.output, h.size, h.keep, h.sup, h.sub, h.foot, h.sig⟩
theorem RepE.world {a : Act} {env : Env} {w1 : World} (h : RepE n a w S σ env) (hw : w1.heap = w.heap) : RepE n a w1 S σ env := ⟨h.size, h.defers, fun t => (h.at_ t).world hw⟩
theorem regB_sound {r : Reg} {nd : Bool} {B0 : Nat} (hm : P.follows .mixedOrders = true) {M : Array Nat} (hM : r.draw = true → maskOk r.ops M = true ∧ freeOk P r.ops M = true) (hnd : ∀ o ∈ r.ops.toList, (bif r.draw then needV P r.ops o.op else needC (cls P o.op)) = true → nd = true)
    {Q : Exit → Act → World → Prop} {env : Env} {k : Env → AH → Prop} {a : Act} (hr : RepE n a w S σ env) (hs : Sat P w S σ H) (hres : nd = true → ∀ j, j < r.ops.size → b + j < H.nx ∧ σ (b + j) = none) (hB : B0 ≤ H.nx) (hBb : nd = true → B0 ≤ b)
    (hQ : ∀ a' w' S' σ' env' H', k env' H' → RepE n a' w' S' σ' env' → Sat P w' S' σ' H' → Ext w S σ H w' S' σ' H' → H.nx ≤ H'.nx → (∀ j, j < B0 → σ' j = σ j) → Q .normal a' w') (h : regB P n b r env k H) : (Code.region r.id r.ops r.draw).wp P Q a w := by
  unfold regB at h
  cases hd : r.draw with
  | false =>
    rw [hd] at h hnd
    simp only [cond_false] at hnd
    simp only [cond_false] at h
    exact wp_region_list (seqA_sound (nd := nd) _ 0 env k a w S σ H hr hs hnd (fun hn j _ hj => hres hn j (by simpa using hj)) hB hBb hQ h)
  | true =>
    rw [hd] at h hnd
    simp only [cond_true] at hnd
    simp only [cond_true] at h
    have hV : ∃ V : AH, V.le H ∧ seqV P n b r.ops r.ops.toList 0 env k V H := by
      cases ho : hasOld P r.ops with
      | false => rw [ho] at h; exact ⟨H, AH.le_refl H, h⟩
      | true => rw [ho] at h; obtain ⟨ds, h⟩ := h; exact ⟨_, delL_le ds, h⟩
    obtain ⟨V, hVl, h⟩ := hV
    obtain ⟨m1, m2⟩ := hM hd
    have e1 : Ext w S σ H { w with drawn := w.drawn + 1 } S σ H := Ext.draw w S σ H 1
    refine wp_region_any hm (anyA_sound (nd := nd) (K := k) (V := V) (fun j o ho => hnd o (by rw [← Array.getElem?_toList] at ho; exact List.mem_of_getElem? ho)) _ _ env a _ S σ H (hr.world rfl) (hs.world rfl) hVl
      (fun hn j hj => hres hn j ?_) hB hBb (fun a' w' S' σ' env' H' q1 q2 q3 q4 q5 q6 => hQ a' w' S' σ' env' H' q1 q2 q3 (e1.trans q4) q5 q6) ?_)
    · exact ((firstK_zero r.ops.size).2 j).1 hj |>.2
    · have := anyA_lex m1 m2 r.ops.toList 0 (Array.replicate r.ops.size false) env V H (fun j => by simp) (by simp) (firstK_zero _) h
      simpa using this
theorem regA_sound {r : Reg} (hm : P.follows .mixedOrders = true) {M : Array Nat} (hM : r.draw = true → maskOk r.ops M = true ∧ freeOk P r.ops M = true)
    {Q : Exit → Act → World → Prop} {env : Env} {k : Env → AH → Prop} {a : Act} (hr : RepE n a w S σ env) (hs : Sat P w S σ H)
    (hQ : ∀ a' w' S' σ' env' H', k env' H' → RepE n a' w' S' σ' env' → Sat P w' S' σ' H' → Ext w S σ H w' S' σ' H' → H.nx ≤ H'.nx → (∀ j, j < H.nx → σ' j = σ j) → Q .normal a' w') (h : regA P n r env k H) : (Code.region r.id r.ops r.draw).wp P Q a w := by
  unfold regA at h
  cases hn : needsR P r.draw r.ops with
  | false =>
    rw [hn] at h
    refine regB_sound (nd := false) (B0 := H.nx) hm hM (fun o ho hc => ?_) hr hs (fun h => by cases h) (Nat.le_refl _) (fun h => by cases h) hQ h
    unfold needsR at hn
    rw [List.any_eq_false] at hn
    exact absurd hc (hn o ho)
  | true =>
    rw [hn] at h
    simp only [cond_true, Rg] at h
    refine regB_sound (nd := true) (B0 := H.nx) (H := H.up r.ops.size) hm hM (fun _ _ _ => rfl) hr (hs.up _) (fun _ j hj => ⟨by show H.nx + j < H.nx + r.ops.size; omega, ?_⟩) (Nat.le_add_right _ _) (fun _ => Nat.le_refl _) (fun a' w' S' σ' env' H' q1 q2 q3 q4 q5 q6 => hQ a' w' S' σ' env' H' q1 q2 q3 q4.ofUp (Nat.le_trans (Nat.le_add_right _ _) q5) q6) h
    cases hσ : σ (H.nx + j) with
    | none => rfl
    | some u => have := hs.dom _ _ hσ; omega
theorem marks_reg {k : Nat} {r : Reg} (hk : rs[k]? = some r) (h : marksOk P rs Ms (.reg k) = true) : r.draw = true → maskOk r.ops (Ms.getD k #[]) = true ∧ freeOk P r.ops (Ms.getD k #[]) = true := by
  intro hd
  simp only [marksOk, hk, hd, Bool.not_true, Bool.false_or, Bool.and_eq_true] at h
  exact h
theorem tmps_rps {a : Act} {env : Env} (hr : RepE n a w S σ env) (ws : List Tmp) : Rps w S σ (ws.map env) (ws.map fun t => a.tmps.getD t undef) := by
  induction ws with
  | nil => exact .nil
  | cons t ws ih => exact .cons (hr.at_ t) ih
/-- behind a new telling -/
theorem gw_step {B : AH} {w0 : World} {S0 : Nat → Prop} {σ0 : Nat → Option Value} {a0 a' : Act} {env env' : Env} {ws : List Tmp} {ks : List (Nat × Nat)} {vs' : List AV} {H' H2 : AH} (hs0 : Sat P w0 S0 σ0 B) (hr0 : RepE n a0 w0 S0 σ0 env)
    (hr : RepE n a' w S σ env') (hs : Sat P w S σ H') (hx : Ext w0 S0 σ0 B w S σ H') (hsame : Same (inW ws ks) env env') (hg : GW P B.nx (ws.map env') H' vs' H2) :
    ∃ S2 σ2, RepE n a' w S2 σ2 (ovr env ws ks vs') ∧ Sat P w S2 σ2 H2 ∧ Ext w0 S0 σ0 B w S2 σ2 H2 ∧ B.nx ≤ H2.nx ∧ vs'.length = ws.length ∧ ∀ j, j < B.nx → σ2 j = σ j := by
  obtain ⟨S2, σ2, g1, g2, g3, g4, g5, g6, g7⟩ := hg w S σ _ hs (tmps_rps hr ws)
  refine ⟨S2, σ2, ⟨hr.size, hr.defers, fun t => ?_⟩, g1, ⟨hx.os, hx.tape, hx.output, hx.size, hx.keep, fun b hb => g3 b (hx.sup b hb), fun b hb => ?_, fun b hb => hx.foot b (g5 b hb), fun id u hu => ?_⟩, g7, by rw [g2.1]; simp, g6⟩
  · unfold ovr
    cases hi' : idxOf t ws 0 with
    | some i =>
      obtain ⟨_, h3⟩ := idx_mem hi'
      rw [Nat.sub_zero] at h3
      have hlt : i < vs'.length := by rw [g2.1, List.length_map]; exact (List.getElem?_eq_some_iff.1 h3).1
      dsimp only
      rw [List.getD_eq_getElem?_getD, List.getElem?_eq_getElem hlt, Option.getD_some]
      exact g2.2 i _ _ (List.getElem?_eq_getElem hlt) (by rw [List.getElem?_map, h3]; rfl)
    | none =>
      dsimp only
      cases hb : inIv ks t with
      | true => exact .any _
      | false =>
        have hin : inW ws ks t = false := by unfold inW; rw [hi', hb]; rfl
        have hse := hsame t hin
        have h1 := hr.at_ t
        rw [hse] at h1
        exact h1.re g3 g6 ⟨w0, S0, σ0, _, hr0.at_ t, hs0.dom⟩
  · rcases g4 b hb with h | h
    · exact hx.sub b h
    · exact .inr (hx.foot b h)
  · rw [g6 id (hs0.dom _ _ hu)]; exact hx.sig _ _ hu
theorem least_ex {p : Nat → Prop} : ∀ m, p m → ∃ m, p m ∧ ∀ k, p k → m ≤ k := by
  intro m
  induction m using Nat.strongRecOn with
  | _ m ih =>
    intro hm
    by_cases h : ∃ k, k < m ∧ p k
    · obtain ⟨k, hk, hp⟩ := h; exact ih k hk hp
    · exact ⟨m, hm, fun k hk => Nat.le_of_not_lt fun hlt => h ⟨k, hlt, hk⟩⟩
noncomputable def leastN (p : Nat → Prop) : Nat := Classical.epsilon fun m => p m ∧ ∀ k, p k → m ≤ k
theorem least_spec {p : Nat → Prop} (h : ∃ m, p m) : p (leastN p) ∧ ∀ k, p k → leastN p ≤ k := by
  obtain ⟨m, hm⟩ := h
  exact Classical.epsilon_spec (least_ex m hm)
theorem wpA_sound (hm : P.follows .mixedOrders = true) : ∀ (c : AC) (env : Env) (K : Knt) (a : Act) (w : World) (S : Nat → Prop) (σ : Nat → Option Value) (H : AH), marksOk P rs Ms c = true → RepE n a w S σ env → Sat P w S σ H → wpA P n rs c env K H →
    (erase rs c).wp P (fun e => St P n w S σ H (K e)) a w := by
  intro c
  induction c with
  | skip => exact fun env K a w S σ H _ hr hs h => wp_skip ⟨env, H, S, σ, h, hr, hs, .refl _ _ _ _, Nat.le_refl _, fun _ _ => rfl⟩
  | ret => exact fun env K a w S σ H _ hr hs h => wp_ret ⟨env, H, S, σ, h, hr, hs, .refl _ _ _ _, Nat.le_refl _, fun _ _ => rfl⟩
  | exit id => exact fun env K a w S σ H _ hr hs h => wp_exit ⟨env, H, S, σ, h, hr, hs, .refl _ _ _ _, Nat.le_refl _, fun _ _ => rfl⟩
  | label l => exact fun env K a w S σ H _ hr hs h => wp_label ⟨env, H, S, σ, h, hr, hs, .refl _ _ _ _, Nat.le_refl _, fun _ _ => rfl⟩
  | reg k =>
    intro env K a w S σ H hmk hr hs h
    simp only [wpA] at h
    cases hk : rs[k]? with
    | none => rw [hk] at h; simp only [erase, hk]; exact wp_skip ⟨env, H, S, σ, h, hr, hs, .refl _ _ _ _, Nat.le_refl _, fun _ _ => rfl⟩
    | some r =>
      rw [hk] at h
      simp only [erase, hk]
      exact regA_sound hm (marks_reg hk hmk) hr hs (fun a' w' S' σ' env' H' q1 q2 q3 q4 q5 q6 => ⟨env', H', S', σ', q1, q2, q3, q4, q5, q6⟩) h
  | seq x y ihx ihy =>
    intro env K a w S σ H hmk hr hs h
    simp only [marksOk, Bool.and_eq_true] at hmk
    refine wp_seq (wp_mono (ihx env _ a w S σ H hmk.1 hr hs h) fun e a' w' hst => ?_)
    obtain ⟨env', H', S', σ', q1, q2, q3, q4, q5, q6⟩ := hst
    cases e <;> first
      | (refine wp_mono (ihy env' K a' w' S' σ' H' hmk.2 q2 q3 q1) ?_
         rintro e2 a2 w2 ⟨env2, H2, S2, σ2, r1, r2, r3, r4, r5, r6⟩
         exact ⟨env2, H2, S2, σ2, r1, r2, r3, q4.trans r4, Nat.le_trans q5 r5, fun j hj => (r6 j (by omega)).trans (q6 j hj)⟩)
      | exact ⟨env', H', S', σ', q1, q2, q3, q4, q5, q6⟩
  | cut ws ks x y ihx ihy =>
    intro env K a w S σ H hmk hr hs h
    simp only [marksOk, Bool.and_eq_true] at hmk
    obtain ⟨⟨hw, hmx⟩, hmy⟩ := hmk
    obtain ⟨J, h1, h2⟩ := h
    refine wp_seq (wp_mono (ihx env _ a w S σ H hmx hr hs (wpA_frame x env _ H hw h1)) fun e a' w' hst => ?_)
    obtain ⟨env', H', S', σ', ⟨q1, qs⟩, q2, q3, q4, q5, q6⟩ := hst
    cases e <;> first
      | (obtain ⟨vs', H2, hg, hj⟩ := q1
         obtain ⟨S2, σ2, g1, g2, g3, g4, g5, g6⟩ := gw_step hs hr q2 q3 q4 qs hg
         refine wp_mono (ihy _ K a' w' S2 σ2 H2 hmy g1 g2 (h2 vs' H2 g5 g4 ⟨_, _, _, g2⟩ hj)) ?_
         rintro e2 a2 w2 ⟨env2, H3, S3, σ3, r1, r2, r3, r4, r5, r6⟩
         exact ⟨env2, H3, S3, σ3, r1, r2, r3, g3.trans r4, Nat.le_trans g4 r5, fun j hj => (r6 j (by omega)).trans ((g6 j hj).trans (q6 j hj))⟩)
      | exact ⟨env', H', S', σ', q1, q2, q3, q4, q5, q6⟩
  | cond c x y ihx ihy =>
    intro env K a w S σ H hmk hr hs h
    simp only [marksOk, Bool.and_eq_true] at hmk
    obtain ⟨t, h1, h2, h3⟩ := h
    have hc := hr.ev c
    rw [h1] at hc
    have hv := hc.p_inv.1
    cases t with
    | true => exact wp_cond_true hv (ihx env K a w S σ H hmk.1 hr hs (h2 rfl))
    | false => exact wp_cond_false hv (ihy env K a w S σ H hmk.2 hr hs (h3 rfl))
  | block id x ihx =>
    intro env K a w S σ H hmk hr hs h
    refine wp_block (wp_mono (ihx env _ a w S σ H hmk hr hs h) fun e a' w' hst => ?_)
    obtain ⟨env', H', S', σ', q1, q2, q3, q4, q5, q6⟩ := hst
    cases e <;> first | exact ⟨env', H', S', σ', q1, q2, q3, q4, q5, q6⟩ | skip
    rename_i id'
    simp only [blockK] at q1
    simp only [Exit.inBlock]
    split at q1
    · rename_i hi; rw [if_pos hi]; exact ⟨env', H', S', σ', q1, q2, q3, q4, q5, q6⟩
    · rename_i hi; rw [if_neg hi]; exact ⟨env', H', S', σ', q1, q2, q3, q4, q5, q6⟩
  | loop ws ks x ihx =>
    intro env K a w S σ H hmk hr hs h
    simp only [marksOk, Bool.and_eq_true] at hmk
    obtain ⟨hw, hmx⟩ := hmk
    obtain ⟨I, μ, h0, hround⟩ := h
    -- the state at the loop's head, with its measure
    let At (m : Nat) (a' : Act) (w' : World) : Prop := ∃ vs H1 S1 σ1, vs.length = ws.length ∧ H.nx ≤ H1.nx ∧ I vs H1 ∧ μ vs H1 = m ∧ RepE n a' w' S1 σ1 (ovr env ws ks vs) ∧ Sat P w' S1 σ1 H1 ∧ Ext w S σ H w' S1 σ1 H1 ∧ ∀ j, j < H.nx → σ1 j = σ j
    refine wp_loop (fun a' w' => ∃ m, At m a' w') (fun a' w' => leastN fun m => At m a' w') ?_ ?_
    · obtain ⟨vs', H2, hg, hj⟩ := h0
      obtain ⟨S2, σ2, g1, g2, g3, g4, g5, g6⟩ := gw_step hs hr hr hs (.refl _ _ _ _) (.refl _) hg
      exact ⟨_, vs', H2, S2, σ2, g5, g4, hj, rfl, g1, g2, g3, g6⟩
    · intro a' w' hex
      obtain ⟨vs, H1, S1, σ1, k1, k2, k3, k4, k5, k6, k7, k8⟩ := (least_spec hex).1
      refine wp_mono (ihx (ovr env ws ks vs) _ a' w' S1 σ1 H1 hmx k5 k6 (wpA_frame x _ _ H1 hw (hround vs H1 k1 k2 ⟨_, _, _, k6⟩ k3))) fun e a2 w2 hst => ?_
      obtain ⟨env', H', S', σ', ⟨q1, qs⟩, q2, q3, q4, q5, q6⟩ := hst
      cases e <;> first
        | (obtain ⟨vs', H2, hg, hj, hlt⟩ := q1
           have qs' : Same (inW ws ks) env env' := fun t ht => by
             rw [qs t ht]
             unfold ovr
             unfold inW at ht
             simp only [Bool.or_eq_false_iff] at ht
             obtain ⟨t1, t2⟩ := ht
             cases hx : idxOf t ws 0 with
             | some i => rw [hx] at t1; cases t1
             | none => dsimp only; rw [t2]; rfl
           obtain ⟨S2, σ2, g1, g2, g3, g4, g5, g6⟩ := gw_step hs hr q2 q3 (k7.trans q4) qs' hg
           have hat : At (μ vs' H2) a2 w2 := ⟨vs', H2, S2, σ2, g5, g4, hj, rfl, g1, g2, g3, fun j hj => (g6 j hj).trans ((q6 j (by omega)).trans (k8 j hj))⟩
           refine ⟨⟨_, hat⟩, ?_⟩
           have h5 := (least_spec (p := fun m => At m a2 w2) ⟨_, hat⟩).2 _ hat
           rw [k4] at hlt
           exact Nat.lt_of_le_of_lt h5 hlt)
        | exact ⟨env', H', S', σ', q1, q2, q3, k7.trans q4, Nat.le_trans k2 q5, fun j hj => (q6 j (by omega)).trans (k8 j hj)⟩
  | scope x ihx =>
    intro env K a w S σ H hmk hr hs h
    refine wp_scope_straight (wp_mono (ihx env _ a w S σ H hmk hr hs h) fun e a' w' hst => ?_)
    obtain ⟨env', H', S', σ', q1, q2, q3, q4, q5, q6⟩ := hst
    cases e <;> first | exact q1.elim | exact ⟨env', H', S', σ', q1, q2, q3, q4, q5, q6⟩
  | gh x ihx =>
    intro env K a w S σ H hmk hr hs h
    obtain ⟨H2, ⟨g1, g2⟩, h2⟩ := h
    obtain ⟨S2, k1, k2, k3, k4⟩ := g2 w S σ hs
    have e1 : Ext w S σ H w S2 σ H2 := ⟨rfl, rfl, rfl, Nat.le_refl _, fun _ _ _ => rfl, k2, fun b hb => (k3 b hb).elim .inl (fun h => .inr (.inl h)), fun b hb => .inl (k4 b hb), fun _ _ h => h⟩
    refine wp_mono (ihx env K a w S2 σ H2 hmk (hr.ext hs e1) k1 h2) ?_
    rintro e a' w' ⟨env', H', S', σ', q1, q2, q3, q4, q5, q6⟩
    exact ⟨env', H', S', σ', q1, q2, q3, e1.trans q4, Nat.le_trans g1 q5, fun j hj => q6 j (by omega)⟩
def regsF (f : Func) : List Reg := match f.body with
  | some c => regsOf c
  | none => []
def env0 (args : List AV) : Env := fun t => args.getD t .any
/-- a result: a variable, or what lies at an address -/
inductive RV where
  | tm (x : Tmp)
  | ce (x : Tmp) (ty : TypeId)
def RV.var : RV → ResultVar
  | .tm x => .tmp x
  | .ce x ty => .cell x ty
def mkR : List AV → AV
  | [a] => a
  | l => .tup l
def mkV : List Value → Value
  | [a] => a
  | l => .tuple l.toArray
def retL (P : Program) : List RV → Env → List AV → (List AV → AH → Prop) → AH → Prop
  | [], _, acc, k => k acc
  | .tm t :: r, env, acc, k => retL P r env (acc ++ [env t]) k
  | .ce a ty :: r, env, acc, k => match aggB P ty, P.info? ty with
    | some b, some i => RdS P (.ld i.size b) [env a] (fun v => retL P r env (acc ++ [v]) k)
    | _, _ => fun _ => False
def runRV (tmps : Array Value) : ResultVar → Sem Value
  | .tmp t => pure (tmps.getD t undef)
  | .cell a t => do loadVar t (← asAddr (tmps.getD a undef))
theorem Rps.mk {ps : List AV} {vs : List Value} (h : Rps w S σ ps vs) : Rp w S σ (mkR ps) (mkV vs) := by
  obtain ⟨hl, h⟩ := h
  match ps, vs, hl with
  | [], [], _ => exact Rps.tup (by simpa using Rps.nil)
  | [a], [v], _ => exact h 0 a v rfl rfl
  | a :: b :: r, v :: u :: q, hl => exact Rps.tup (by exact ⟨hl, h⟩)
theorem retL_sound {a : Act} {env : Env} (hr : RepE n a w S σ env) (hs : Sat P w S σ H) : ∀ (res : List RV) (acc : List AV) (k : List AV → AH → Prop), retL P res env acc k H →
    ∃ ps vs, k (acc ++ ps) H ∧ Rps w S σ ps vs ∧ ((res.map RV.var).mapM (runRV a.tmps)).run P w = .ok vs w
  | [], acc, k, h => ⟨[], [], by simpa [retL] using h, .nil, rfl⟩
  | .tm t :: r, acc, k, h => by
    obtain ⟨ps, vs, h1, h2, h3⟩ := retL_sound hr hs r _ k h
    exact ⟨env t :: ps, _ :: vs, by simpa using h1, .cons (hr.at_ t) h2, by simp only [List.map_cons, RV.var, List.mapM_cons, runRV, Sem.run_bind, Sem.run_pure, Result.andThen_ok, h3]⟩
  | .ce x ty :: r, acc, k, h => by
    simp only [retL] at h
    cases hb : aggB P ty with
    | none => rw [hb] at h; exact h.elim
    | some b =>
      cases hi : P.info? ty with
      | none => rw [hb, hi] at h; exact h.elim
      | some i =>
        rw [hb, hi] at h
        obtain ⟨v, hv, hk⟩ := h
        obtain ⟨ps, vs, h1, h2, h3⟩ := retL_sound hr hs r _ k hk
        have ho : Val1 P w S σ a.eval { dst := none, op := .load ty (.tmp x), type := ty, pos := "", after := #[], guard := none } v := rd_load hs rfl hb hi hv (hr.evs [.tmp x])
        obtain ⟨u, hu, hru⟩ := ho
        have hl : (do loadVar ty (← asAddr (a.tmps.getD x undef)) : Sem Value).run P w = .ok u w := by
          have hp : ∃ ad, a.tmps.getD x undef = .pointer (some ad) := by
            have hx := hr.at_ x
            cases hv with
            | ld_agg _ _ _ hat _ => obtain ⟨g, off, e, _⟩ := at_sound hs hat hx; exact ⟨_, e⟩
            | ld_one _ _ _ _ hat _ => obtain ⟨g, off, e, _⟩ := at_sound hs hat hx; exact ⟨_, e⟩
          obtain ⟨ad, hp⟩ := hp
          rw [hp]
          have hev : a.eval (.tmp x) = .pointer (some ad) := hp
          simp only [execOp, hev, Instr.loadAt, Instr.sureAddr, Sem.run_bind, Sem.run_pure, Result.andThen_ok] at hu
          simp only [asAddr, Sem.run_bind, Sem.run_pure, Result.andThen_ok]
          cases hq : (loadVar ty ad).run P w with
          | ok q w2 => rw [hq] at hu; simp only [Result.andThen_ok, Result.ok.injEq, Next.value.injEq] at hu; obtain ⟨rfl, rfl⟩ := hu; rfl
          | halt q w2 => rw [hq] at hu; cases hu
        refine ⟨v :: ps, u :: vs, by simpa using h1, .cons hru h2, ?_⟩
        simp only [List.map_cons, RV.var, List.mapM_cons, runRV, Sem.run_bind, hl, Result.andThen_ok, h3, Sem.run_pure]
theorem results_run {fn : Func} {tmps : Array Value} {l : List ResultVar} (h : fn.results = l.toArray) {vs : List Value} (hv : (l.mapM (runRV tmps)).run P w = .ok vs w) : (results fn tmps).run P w = .ok (mkV vs) w := by
  have hf : results fn tmps = (fn.results.mapM (runRV tmps) >>= fun us => pure (if h : us.size = 1 then us[0] else .tuple us)) := by
    unfold results
    congr 2
  rw [hf, h, Array.mapM_eq_mapM_toList, List.toList_toArray]
  simp only [Sem.run_bind, Sem.run_map, hv, Result.andThen_ok, Sem.run_pure]
  match vs with
  | [] => rfl
  | [v] => rfl
  | v :: u :: r => simp [mkV]
def Rt (P : Program) (B : Nat) (r : AV) (Q : AV → AH → Prop) (H : AH) : Prop := Gh P B [r] H (fun vs H2 => ∃ r', vs = [r'] ∧ Q r' H2)
def retK (P : Program) (B : Nat) (res : List RV) (Q : AV → AH → Prop) : Knt
  | .ret, env, H => retL P res env [] (fun l => Rt P B (mkR l) Q) H
  | .normal, env, H => retL P res env [] (fun l => Rt P B (mkR l) Q) H
  | _, _, _ => False
def FnA (P : Program) (n : Nat) (rs : List Reg) (c : AC) (res : List RV) (args : List AV) (H : AH) (Q : AV → AH → Prop) : Prop := wpA P n rs c (env0 args) (retK P H.nx res Q) H
/-- the contract of a function -/
theorem tri_of (hm : P.follows .mixedOrders = true) {f : FuncId} {fn : Func} {body : Code} {c : AC} {res : List RV} {args : List AV} {Q : AV → AH → Prop} (hf : P.funcs[f]? = some fn) (hb : fn.body = some body) (he : erase rs c = body) (hmk : marksOk P rs Ms c = true)
    (hres : fn.results.toList = res.map RV.var) (hn : args.length ≤ fn.ntmps) (h : FnA P fn.ntmps rs c res args H Q) : Tri P f args H Q := by
  intro w S σ us hs hr
  refine calls_of_wp hf hb ?_
  rw [← he]
  have hul : us.length = args.length := hr.1.symm
  have hrep : RepE fn.ntmps { tmps := us.toArray ++ Array.replicate (fn.ntmps - us.toArray.size) undef, defers := [] } w S σ (env0 args) := by
    refine ⟨by simp; omega, rfl, fun t => ?_⟩
    unfold env0
    by_cases ht : t < args.length
    · rw [List.getD_eq_getElem?_getD, List.getElem?_eq_getElem ht, Option.getD_some, Array.getD_eq_getD_getElem?, Array.getElem?_append_left (by simp; omega)]
      have htu : t < us.length := by omega
      rw [List.getElem?_toArray, List.getElem?_eq_getElem htu, Option.getD_some]
      exact hr.2 t _ _ (List.getElem?_eq_getElem ht) (List.getElem?_eq_getElem htu)
    · rw [List.getD_eq_getElem?_getD, List.getElem?_eq_none (by omega), Option.getD_none]
      exact .any _
  refine wp_mono (wpA_sound (Ms := Ms) hm c _ _ _ w S σ H hmk hrep hs h) ?_
  rintro e a' w' ⟨env', H', S', σ', q1, q2, q3, q4, q5, q6⟩
  have fin : ∀ (_ : retL P res env' [] (fun l => Rt P H.nx (mkR l) Q) H'), bodyPost P fn (fun e w' => ∃ v S' σ' r H', e = .returned v ∧ Q r H' ∧ Sat P w' S' σ' H' ∧ Rp w' S' σ' r v ∧ Ext w S σ H w' S' σ' H' ∧ H.nx ≤ H'.nx ∧ ∀ id, id < H.nx → σ' id = σ id) .ret a' w' := by
    intro hret
    obtain ⟨ps, vs, ⟨_, H2, hg, r, rfl, hq⟩, hps, hrun⟩ := retL_sound q2 q3 res [] _ hret
    have hrv := results_run (P := P) (w := w') (tmps := a'.tmps) (Array.toList_inj.1 (by rw [hres]) : fn.results = (res.map RV.var).toArray) hrun
    have hrp : Rps w' S' σ' [mkR ([] ++ ps)] [mkV vs] := .cons (by simpa using hps.mk) .nil
    obtain ⟨S2, σ2, g1, g2, g3, g4, g5, g6, g7⟩ := hg w' S' σ' _ q3 hrp
    refine ⟨q2.defers, _, hrv, _, S2, σ2, r, H2, rfl, hq, g1, g2.2 0 _ _ rfl rfl, ⟨q4.os, q4.tape, q4.output, q4.size, q4.keep, fun b hb => g3 b (q4.sup b hb), fun b hb => ?_, fun b hb => q4.foot b (g5 b hb), fun id u hu => ?_⟩, g7, fun id hid => ?_⟩
    · rcases g4 b hb with h | h
      · exact q4.sub b h
      · exact .inr (q4.foot b h)
    · rw [g6 id (hs.dom _ _ hu)]; exact q4.sig _ _ hu
    · rw [g6 id hid]; exact q6 id hid
  cases e <;> first | exact fin q1 | exact q1.elim
end
end Go.Proofs.Ytpmnlikgldacaaa

/- Abstract walks at this translation. -/
namespace Go.Proofs.Ytpmnlikgldacaaa
open Go.RowKit
theorem mixed : Try.prog.follows .mixedOrders = true := by kernel_rfl
end Go.Proofs.Ytpmnlikgldacaaa
