/- Operations one behind the other, and in whatever order: what the model does is what is told. Nothing of the program is named here. -/
import Derived.Test.YtcmnjoepadjioaaAwA
namespace Go.Proofs.Ytcmnjoepadjioaa
open Go.RowKit Go.Maps

section
variable {P : Program} {w : World} {S : Nat → Prop} {σ : Nat → Option Value} {H V : AH} {n b : Nat} {ops : Array Oper}
/-- what stands behind an operation -/
def Aft (P : Program) (nd : Bool) (n id : Nat) (w : World) (S : Nat → Prop) (σ : Nat → Option Value) (H : AH) (dst : Option Tmp) (env : Env) (k : AV → AH → Prop) (a' : Act) (w' : World) : Prop :=
  ∃ x H' S' σ', k x H' ∧ RepE n a' w' S' σ' (setE n env dst x) ∧ Sat P w' S' σ' H' ∧ Ext w S σ H w' S' σ' H' ∧ H.nx ≤ H'.nx ∧ ∀ j, (nd = true → j ≠ id) → j < H.nx → σ' j = σ j
theorem val_wp {nd : Bool} {o : Oper} {a : Act} {env : Env} {x : AV} {k : AV → AH → Prop} {id : Nat} {Q : Exit → Act → World → Prop} (hr : RepE n a w S σ env) (hs : Sat P w S σ H) (h : Val1 P w S σ a.eval o x) (hk : k x H) : o.wp P a w (Aft P nd n id w S σ H o.dst env k) Q := by
  obtain ⟨v, hv, hx⟩ := h
  unfold Oper.wp
  rw [hv]
  exact ⟨x, H, S, σ, hk, hr.put _ hx, hs, .refl _ _ _ _, Nat.le_refl _, fun _ _ _ => rfl⟩
theorem eff_wp {o : Oper} {a : Act} {env : Env} {x : AV} {k : AV → AH → Prop} {id : Nat} {Q : Exit → Act → World → Prop} {H' : AH} (hr : RepE n a w S σ env) (hs : Sat P w S σ H) (h : Eff P w S σ H a.eval o id x H') (hn : H.nx ≤ H'.nx) (hk : k x H') : o.wp P a w (Aft P true n id w S σ H o.dst env k) Q := by
  obtain ⟨nx, w', σ', hv, hx, h1, h2, h3⟩ := h
  unfold Oper.wp
  rw [hv]
  rcases hx with ⟨v, rfl, hx⟩ | ⟨rfl, rfl⟩
  · exact ⟨x, H', S, σ', hk, (hr.ext hs h2).put _ hx, h1, h2, hn, fun j hj _ => h3 j (hj rfl)⟩
  · exact ⟨_, H', S, σ', hk, (hr.ext hs h2).put _ (.any _), h1, h2, hn, fun j hj _ => h3 j (hj rfl)⟩
theorem ca_wp {nd : Bool} {o : Oper} {a : Act} {env : Env} {c : Call} {fo : Operand} {f : FuncId} {first cap : List AV} {R : AV → AH → Prop} {k : AV → AH → Prop} {id : Nat} {Q : Exit → Act → World → Prop} (hr : RepE n a w S σ env) (hs : Sat P w S σ H) (ho : o.op = .call c) (hc : c.callee = .value fo)
    (hf : ev0 env fo = .fn (.func f) first cap) (hcal : callable P f = true) (ht : Tri P f (first ++ c.args.toList.map (ev0 env) ++ cap) H R) (hk : ∀ r H', R r H' → k r H') : o.wp P a w (Aft P nd n id w S σ H o.dst env k) Q := by
  have hfv := hr.ev fo
  rw [hf] at hfv
  obtain ⟨us, hrun, hus⟩ := call_run (P := P) ho hc hfv hcal (hr.evs c.args.toList)
  unfold Oper.wp
  rw [hrun]
  refine (ht w S σ us hs hus).mono fun e w' ⟨v, S', σ', r, H', he, hq, h1, h2, h3, h4, h5⟩ => ?_
  subst he
  exact ⟨r, H', S', σ', hk r H' hq, (hr.ext hs h3).put _ h2, h1, h3, h4, fun j _ hj => h5 j hj⟩
theorem wr_nx {id : Nat} {wo : WO} {args : List AV} {a : AV} {H' : AH} (h : WrR P id wo args H a H') : H'.nx = H.nx := by cases h <;> rfl
theorem sat_hsz (hs : Sat P w S σ H) : ∀ id A n c, σ id = some (.slice A n c) → n ≤ c ∧ (0 < c → ∃ g o, A = some ⟨g, o, none⟩) := fun id A n c h => ⟨(hs.sl id A n c h).1, (hs.sl id A n c h).2.1⟩
theorem coreS_wp {o : Oper} {a : Act} {env : Env} {k : AV → AH → Prop} {id : Nat} {Q : Exit → Act → World → Prop} (hr : RepE n a w S σ env) (hs : Sat P w S σ H) (hid : needC (cls P o.op) = true → id < H.nx ∧ σ id = none) (h : coreS P id o.op env k H) : o.wp P a w (Aft P (needC (cls P o.op)) n id w S σ H o.dst env k) Q := by
  unfold coreS at h
  split at h
  · rename_i x hc
    exact val_wp hr hs (pu_sound (cls_mv hc) (.mv _) (hr.evs [x]) (sat_hsz hs)) h
  · rename_i po xs hc
    obtain ⟨x, hp, hk⟩ := h
    exact val_wp hr hs (pu_sound (cls_pu hc) hp (hr.evs xs) (sat_hsz hs)) hk
  · rename_i ro xs hc
    obtain ⟨x, hp, hk⟩ := h
    exact val_wp hr hs (rd_sound hs (cls_rd hc) hp (hr.evs xs)) hk
  · rename_i ao xs hc
    obtain ⟨x, o', hp, hk⟩ := h
    rw [show needC (cls P o.op) = true from by rw [hc]; rfl]
    exact eff_wp hr hs (al_sound (fun _ => rfl) hs (hid (by rw [hc]; rfl)).1 (hid (by rw [hc]; rfl)).2 (cls_al hc) hp (hr.evs xs)) (Nat.le_refl _) hk
  · rename_i wo xs hc
    obtain ⟨x, H', hp, hk⟩ := h
    rw [show needC (cls P o.op) = true from by rw [hc]; rfl]
    exact eff_wp hr hs (wr_sound hs (hid (by rw [hc]; rfl)) (cls_wr hc) hp (hr.evs xs)) (Nat.le_of_eq (wr_nx hp).symm) hk
  · rename_i f xs hc
    obtain ⟨c, ho, hcc, rfl⟩ := cls_ca hc
    obtain ⟨g, first, cap, R, hf, hcal, ht, hk⟩ := h
    exact ca_wp hr hs ho hcc hf hcal ht hk
  · exact h.elim
theorem AtA.le {a : AV} {ds : List AV} (h : AtA V a ds) (hle : V.le H) : AtA H a ds := by
  cases h with
  | box id off t cs hg => exact .box id off t cs (hle _ _ hg)
  | row id sz i j t es e hg he => exact .row id sz i j t es e (hle _ _ hg) he
  | frz id sz i j es e hg he => exact .frz id sz i j es e (hle _ _ hg) he
  | dat sz i j xs e he => exact .dat sz i j xs e he
theorem RdR.le {ro : RO} {args : List AV} {a : AV} (h : RdR P V ro args a) (hle : V.le H) : RdR P H ro args a := by
  cases h with
  | ld_agg _ _ _ hat hn => exact .ld_agg _ _ _ (hat.le hle) hn
  | ld_one _ _ _ _ hat hb => exact .ld_one _ _ _ _ (hat.le hle) hb
  | look_no _ _ _ _ _ _ _ _ hg hK hu hk hf => exact .look_no _ _ _ _ _ _ _ _ (hle _ _ hg) hK hu hk hf
  | look_yes _ _ _ _ _ _ _ _ _ hg hK hu hk hf => exact .look_yes _ _ _ _ _ _ _ _ _ (hle _ _ hg) hK hu hk hf
/-- the same in whatever order: what was there when the region began is read -/
def AftV (P : Program) (nd : Bool) (n id : Nat) (w : World) (S : Nat → Prop) (σ : Nat → Option Value) (H : AH) (dst : Option Tmp) (env : Env) (k : AV → AH → AH → Prop) (a' : Act) (w' : World) : Prop :=
  ∃ x V' H' S' σ', k x V' H' ∧ V'.le H' ∧ RepE n a' w' S' σ' (setE n env dst x) ∧ Sat P w' S' σ' H' ∧ Ext w S σ H w' S' σ' H' ∧ H.nx ≤ H'.nx ∧ ∀ j, (nd = true → j ≠ id) → j < H.nx → σ' j = σ j
theorem Aft.toV {nd : Bool} {id : Nat} {dst : Option Tmp} {env : Env} {k : AV → AH → Prop} {k' : AV → AH → AH → Prop} {a' : Act} {w' : World} (h : Aft P nd n id w S σ H dst env k a' w') (hk : ∀ x H', k x H' → ∃ V', k' x V' H' ∧ V'.le H') : AftV P nd n id w S σ H dst env k' a' w' := by
  obtain ⟨x, H', S', σ', h1, h2⟩ := h
  obtain ⟨V', h3, h4⟩ := hk x H' h1
  exact ⟨x, V', H', S', σ', h3, h4, h2⟩
theorem put_le {id : Nat} {o' : AO} (hle : V.le H) (hn : H.get id = none) : V.le (H.put id o') := by
  intro j o hj
  have h := hle j o hj
  by_cases e : j = id
  · subst e; rw [hn] at h; cases h
  · rw [AH.get_put_ne e]; exact h
theorem Sat.none_get (hs : Sat P w S σ H) {id : Nat} (h : σ id = none) : H.get id = none := by
  cases hg : H.get id with
  | none => rfl
  | some o =>
    have := hs.obj id o hg
    cases o with
    | box t cs => obtain ⟨g, arr, h1, _⟩ := this; rw [h] at h1; cases h1
    | row t sz es => obtain ⟨A, c, h1, _⟩ := this; rw [h] at h1; cases h1
    | frz sz es => obtain ⟨A, c, h1, _⟩ := this; rw [h] at h1; cases h1
    | map kt m f => obtain ⟨g, f', h1, _⟩ := this; rw [h] at h1; cases h1
    | siter s p => obtain ⟨g, h1, _⟩ := this; rw [h] at h1; cases h1
    | dead => have h2 : (σ id).isSome = true := this; rw [h] at h2; cases h2
theorem AH.le_refl (H : AH) : H.le H := fun _ _ h => h
theorem ElA.le {sz : Nat} {x : AV} {ys : List (List AV)} (h : ElA V sz x ys) (hle : V.le H) : ElA H sz x ys := by
  cases h with
  | dsl xs => exact .dsl _
  | row id off n t es hg hn => exact .row id off n t es (hle _ _ hg) hn
  | frz id off n es hg hn => exact .frz id off n es (hle _ _ hg) hn
  | nil_ A c => exact .nil_ A c
theorem ElF.toA {src : Option Nat} {sz : Nat} {x : AV} {ys : List (List AV)} (h : ElF V H src sz x ys) (hle : V.le H) : ElA H sz x ys := by
  cases h with
  | old x ys h => exact h.le hle
  | new i off n t es _ hg hn => exact .row i off n t es hg hn
theorem put_leV {i : Nat} {o' : AO} (hle : V.le H) (hn : V.get i = none) : V.le (H.put i o') := by
  intro j o hj
  have hne : j ≠ i := fun e => by subst e; rw [hn] at hj; cases hj
  rw [AH.get_put_ne hne]; exact hle j o hj
theorem wrF_wr {tgt src : Option Nat} {id : Nat} {wo : WO} {args : List AV} {a : AV} {H' : AH} (hle : V.le H) (hid : H.get id = none) (h : WrFR V tgt src id wo args H a H') : WrR P id wo args H a H' ∧ V.le H' := by
  have hv : V.get id = none := by
    cases hg : V.get id with
    | none => rfl
    | some o => rw [hle _ _ hg] at hid; cases hid
  cases h with
  | st n i off t cs a _ h1 h2 h3 h4 h5 h6 => exact ⟨.st_box n i off t cs a _ h3 h4 h5 h6, put_leV hle h2⟩
  | app_row t sz bytes r off n es ys x _ h1 h2 h3 h4 h5 h6 h7 => exact ⟨.app_row t sz bytes r off n es ys x _ h3 h4 (h5.toA hle) h6 h7, put_leV (put_leV hle h2) hv⟩
  | app_nil t sz bytes ys x _ h1 h2 h3 h4 => exact ⟨.app_nil t sz bytes ys x _ (h2.toA hle) h3 h4, put_leV hle hv⟩
theorem coreV_wp {o : Oper} {a : Act} {env : Env} {k : AV → AH → AH → Prop} {id : Nat} {Q : Exit → Act → World → Prop} (hr : RepE n a w S σ env) (hs : Sat P w S σ H) (hle : V.le H) (hid : needC (cls P o.op) = true → id < H.nx ∧ σ id = none) {fw : Option (Option Nat × Option Nat)} (h : coreV P b fw V id o.op env k H) : o.wp P a w (AftV P (needC (cls P o.op)) n id w S σ H o.dst env k) Q := by
  have up : ∀ {k1 : AV → AH → Prop}, o.wp P a w (Aft P (needC (cls P o.op)) n id w S σ H o.dst env k1) Q → (∀ x H', k1 x H' → ∃ V', k x V' H' ∧ V'.le H') → o.wp P a w (AftV P (needC (cls P o.op)) n id w S σ H o.dst env k) Q := fun h1 h2 => Oper.wp_mono (fun _ _ h => h.toV h2) h1
  unfold coreV at h
  split at h
  · rename_i x hc
    exact up (k1 := fun x H' => k x V H' ∧ V.le H') (val_wp hr hs (pu_sound (cls_mv hc) (.mv _) (hr.evs [x]) (sat_hsz hs)) ⟨h, hle⟩) (fun _ _ h => ⟨V, h⟩)
  · rename_i po xs hc
    obtain ⟨x, hp, hk⟩ := h
    exact up (k1 := fun x H' => k x V H' ∧ V.le H') (val_wp hr hs (pu_sound (cls_pu hc) hp (hr.evs xs) (sat_hsz hs)) ⟨hk, hle⟩) (fun _ _ h => ⟨V, h⟩)
  · rename_i ro xs hc
    obtain ⟨x, hp, hk⟩ := h
    exact up (k1 := fun x H' => k x V H' ∧ V.le H') (val_wp hr hs (rd_sound hs (cls_rd hc) (hp.le hle) (hr.evs xs)) ⟨hk, hle⟩) (fun _ _ h => ⟨V, h⟩)
  · rename_i ao xs hc
    obtain ⟨x, o', hp, hk⟩ := h
    refine up (k1 := fun x H' => k x V H' ∧ V.le H') (by rw [show needC (cls P o.op) = true from by rw [hc]; rfl]; exact eff_wp hr hs (al_sound (fun _ => rfl) hs (hid (by rw [hc]; rfl)).1 (hid (by rw [hc]; rfl)).2 (cls_al hc) hp (hr.evs xs)) (Nat.le_refl _) ⟨hk, put_le hle (hs.none_get (hid (by rw [hc]; rfl)).2)⟩) (fun _ _ h => ⟨V, h⟩)
  · rename_i wo xs hc
    cases fw with
    | none =>
      obtain ⟨x, H', hp, hk⟩ := h
      refine up (k1 := fun x H' => k x H' H') (by rw [show needC (cls P o.op) = true from by rw [hc]; rfl]; exact eff_wp hr hs (wr_sound hs (hid (by rw [hc]; rfl)) (cls_wr hc) hp (hr.evs xs)) (Nat.le_of_eq (wr_nx hp).symm) hk) (fun _ H' h => ⟨H', h, AH.le_refl _⟩)
    | some f =>
      obtain ⟨tg, sr⟩ := f
      obtain ⟨x, H', hp, hk⟩ := h
      obtain ⟨hp', hle'⟩ := wrF_wr hle (hs.none_get (hid (by rw [hc]; rfl)).2) hp
      refine up (k1 := fun x H' => k x V H' ∧ V.le H') (by rw [show needC (cls P o.op) = true from by rw [hc]; rfl]; exact eff_wp hr hs (wr_sound hs (hid (by rw [hc]; rfl)) (cls_wr hc) hp' (hr.evs xs)) (Nat.le_of_eq (wr_nx hp').symm) ⟨hk, hle'⟩) (fun _ _ h => ⟨V, h⟩)
  · rename_i f xs hc
    obtain ⟨c, ho, hcc, rfl⟩ := cls_ca hc
    obtain ⟨g, first, cap, x, hf, hcal, ht, hk⟩ := h
    exact up (k1 := fun x H' => k x V H' ∧ V.le H') (ca_wp hr hs ho hcc hf hcal (ht H hle) (fun r H' ⟨h1, h2⟩ => by subst h1; subst h2; exact ⟨hk, hle⟩)) (fun _ _ h => ⟨V, h⟩)
  · exact h.elim
theorem gv_yield {a : Act} {env : Env} {j : Nat} {c : Bool} (hr : RepE n a w S σ env) (h : gv n ops env j = .p (.bool c)) : yielded ops a.tmps j = some c := by
  unfold gv at h
  cases hd : (ops[j]?).bind (·.dst) with
  | none => rw [hd] at h; cases h
  | some d =>
    rw [hd] at h
    simp only at h
    cases hb : Nat.blt d n with
    | false => rw [hb] at h; cases h
    | true =>
      rw [hb, cond_true] at h
      have hlt : d < n := by rw [Nat.blt_eq] at hb; exact hb
      have := hr.at_ d
      rw [h] at this
      have hv := this.p_inv.1
      rw [Array.getD_eq_getD_getElem?, Array.getElem?_eq_getElem (by rw [hr.size]; exact hlt)] at hv
      simp only [Option.getD_some] at hv
      unfold yielded
      rw [hd]
      simp only [Option.bind_some]
      rw [Array.getElem?_eq_getElem (by rw [hr.size]; exact hlt), hv]
/-- the operations of a region, one behind the other -/
theorem seqA_sound {nd : Bool} {B0 : Nat} {Q : Exit → Act → World → Prop} : ∀ (l : List Oper) (i : Nat) (env : Env) (k : Env → AH → Prop) (a : Act) (w : World) (S : Nat → Prop) (σ : Nat → Option Value) (H : AH), RepE n a w S σ env → Sat P w S σ H →
    (∀ o ∈ l, needC (cls P o.op) = true → nd = true) → (nd = true → ∀ j, i ≤ j → j < i + l.length → b + j < H.nx ∧ σ (b + j) = none) → B0 ≤ H.nx → (nd = true → B0 ≤ b) → (∀ a' w' S' σ' env' H', k env' H' → RepE n a' w' S' σ' env' → Sat P w' S' σ' H' → Ext w S σ H w' S' σ' H' → H.nx ≤ H'.nx → (∀ j, j < B0 → σ' j = σ j) → Q .normal a' w') →
    seqA P n b ops l i env k H → wpList P ops Q l a w
  | [], i, env, k, a, w, S, σ, H, hr, hs, _, _, _, _, hQ, h => hQ a w S σ env H h hr hs (.refl _ _ _ _) (Nat.le_refl _) (fun _ _ => rfl)
  | o :: rest, i, env, k, a, w, S, σ, H, hr, hs, hnd, hres, hB, hBb, hQ, h => by
    have hid : needC (cls P o.op) = true → b + i < H.nx ∧ σ (b + i) = none := fun h => hres (hnd o (by simp) h) i (Nat.le_refl _) (by simp)
    have next : ∀ (a' : Act) (w' : World), Aft P (needC (cls P o.op)) n (b + i) w S σ H o.dst env (fun x => seqA P n b ops rest (i + 1) (setE n env o.dst x) k) a' w' → wpList P ops Q rest a' w' := by
      rintro a' w' ⟨x, H', S', σ', h1, h2, h3, h4, h5, h6⟩
      refine seqA_sound rest (i + 1) _ k a' w' S' σ' H' h2 h3 (fun o ho => hnd o (by simp [ho])) (fun hn j hj1 hj2 => ?_) (by omega) hBb (fun a2 w2 S2 σ2 env2 H2 q1 q2 q3 q4 q5 q6 => hQ a2 w2 S2 σ2 env2 H2 q1 q2 q3 (h4.trans q4) (Nat.le_trans h5 q5) (fun j hj => (q6 j hj).trans (h6 j (fun hn => by have := hBb (hnd o (by simp) hn); omega) (by omega)))) h1
      obtain ⟨g1, g2⟩ := hres hn j (by omega) (by simp; omega)
      exact ⟨by omega, by rw [h6 _ (fun _ => by omega) g1]; exact g2⟩
    simp only [seqA] at h
    unfold wpList
    cases hg : o.guard with
    | none =>
      rw [hg] at h
      rw [if_pos (by simp [Region.wanted, hg])]
      exact .inl (Oper.wp_mono next (coreS_wp hr hs hid h))
    | some g =>
      obtain ⟨j, want⟩ := g
      rw [hg] at h
      obtain ⟨c, hc, h1, h2⟩ := h
      have hy := gv_yield hr hc
      by_cases hcw : c = want
      · rw [if_pos (by simp [Region.wanted, hg, hy, hcw])]
        exact .inl (Oper.wp_mono next (coreS_wp hr hs hid (h1 hcw)))
      · rw [if_neg (by simp [Region.wanted, hg, hy, hcw])]
        exact next _ _ ⟨.any, H, S, σ, h2 hcw, hr.put _ (.any _), hs, .refl _ _ _ _, Nat.le_refl _, fun _ _ _ => rfl⟩
end
end Go.Proofs.Ytcmnjoepadjioaa
